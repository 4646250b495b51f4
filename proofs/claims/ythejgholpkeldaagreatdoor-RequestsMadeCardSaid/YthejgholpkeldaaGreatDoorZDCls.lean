/- Plain: curricula that are valid are read as they were written; made curricula are valid. No walk. Plain: what made classes are. No walk. A block that holds a class, known as a whole. No condition. A region that draws its order, walked once whatever the order: each operation by itself, its value told by a relation that the others keep. No condition. Walk of Dice.Class: a class that is made, told by bounds. Conditions: the dice's cells; the variable features. -/
import Derived.Test.YthejgholpkeldaaGreatDoorShelfS
import Derived.Test.YthejgholpkeldaaGreatDoorRows
import Derived.WalkKit
import Derived.WalkSpells
import Derived.WalkLawsBesides
import Derived.BigGuardPart
import Derived.Lib.Hide
import Derived.Laws.BitsAllLaws
import Derived.Laws.BitsLemmas
import Derived.Lib.LaidTab
import Derived.Test.YthejgholpkeldaaGreatDoorShelf
import Derived.Lib.ConvBytes
import Derived.Deep.QuietTactic
import Derived.BigQuiet
import Derived.Laws.ResultCell
import Derived.RegionTactic
import Derived.BigRegion
import Derived.Deep.RegionHeld3
import Derived.Deep.DeepCutAuto
import Derived.Lib.SmallJoins
import Derived.Lib.SplitLaws
import Derived.Lib.CountLaws
import Derived.Lib.IndexMore
import Derived.Lib.Split
import Derived.Lib.Join
import Derived.Lib.ItoaNum
import Derived.Laws.AppendOwn
import Derived.Test.YthejgholpkeldaaGreatDoorShelfT
import Derived.Lib.ItoaLen
import Derived.Lib.AppendIntMem
import Derived.Deep.AppendLies
import Derived.Lib.PathFns
import Derived.Maps.Range
import Derived.Lib.OwnBridge
import Derived.Sort.OwnSorted
import Derived.Deep.RegionLaw
import Derived.Deep.RegionLawGrows
import Derived.Test.YthejgholpkeldaaGreatDoorZSameL
import Derived.Test.YthejgholpkeldaaGreatDoorCards
import Derived.Test.YthejgholpkeldaaGreatDoorTie
import Derived.ProofKit
import Derived.OpenShut
import Derived.LaidMore
import Derived.Lay
import Derived.SevenTiedAt
import Derived.Stop.Joined
import Derived.Stop.LaidErr
import Derived.Deep.DeepHandedRow
import Derived.Lib.LaidU8
import Derived.LaidSub
import Derived.Deep.Slices
import Derived.Deep.Fields
import Derived.ChangeSame
import Derived.Test.YthejgholpkeldaaGreatDoorZPairs
import Derived.Orders
import Derived.Test.YthejgholpkeldaaGreatDoorZIdxS
import Derived.Test.YthejgholpkeldaaGreatDoorZDSome
import Derived.Test.YthejgholpkeldaaGreatDoorZShortP
import Derived.Test.YthejgholpkeldaaGreatDoorZVars
namespace Go.Proofs.YthejgholpkeldaaGreatDoor
open Go.RowKit
set_option maxRecDepth 100000

theorem get_nodup {α : Type} {l : List α} (hn : l.Nodup) {i j : Nat} {x : α} (hij : i < j) (h1 : l[i]? = some x) (h2 : l[j]? = some x) : False := by
  unfold List.Nodup at hn
  rw [List.pairwise_iff_getElem] at hn
  obtain ⟨hi, e1⟩ := List.getElem?_eq_some_iff.1 h1
  obtain ⟨hj, e2⟩ := List.getElem?_eq_some_iff.1 h2
  exact hn i j hi hj hij (e1.trans e2.symm)
/-! What is made. -/
/-- The courses that classes are made of. -/
def mcourses : List ByteArray := [⟨#[77, 65, 49]⟩, ⟨#[77, 65, 50]⟩, ⟨#[80, 72]⟩]
theorem mcourses_ok : ∀ z ∈ mcourses, codeB z = true := by decide +kernel
end Go.Proofs.YthejgholpkeldaaGreatDoor

namespace Go.Proofs.YthejgholpkeldaaGreatDoor
open Go.RowKit
set_option maxRecDepth 100000

/-- The parts and the features of which classes are made. -/
def partsL : List ByteArray := [⟨#[76]⟩, ⟨#[88]⟩]
def featuresL : List ByteArray := [⟨#[98, 101, 97, 109, 101, 114]⟩, ⟨#[108, 97, 98]⟩, ⟨#[112, 105, 97, 110, 111]⟩]
def PatMade (N : Nat) (ps : List Int) : Prop := 1 ≤ ps.length ∧ ps.length ≤ 2 ∧ ps.Nodup ∧ ∀ p ∈ ps, 1 ≤ p ∧ p < ((2 ^ N : Nat) : Int)
def StartsMade (d s len : Int) (st : List (Int × Int)) : Prop := 1 ≤ st.length ∧ st.length ≤ 3 ∧ st.Pairwise (fun a b => a.1 < b.1) ∧ ∀ x ∈ st, 0 ≤ x.1 ∧ x.1 < d ∧ 0 ≤ x.2 ∧ x.2 ≤ s - len
/-- A class that was made, but for its code and its staff. -/
structure ClassMade (N : Nat) (d s : Int) (x : Cls) : Prop where
  course : x.2.1 ∈ mcourses
  part : x.2.2.1 ∈ partsL
  len : 1 ≤ x.2.2.2.1 ∧ x.2.2.2.1 ≤ 2 ∧ x.2.2.2.1 ≤ s
  pats : PatMade N x.2.2.2.2.1
  seats : 0 ≤ x.2.2.2.2.2.1 ∧ x.2.2.2.2.2.1 ≤ 30
  feats : x.2.2.2.2.2.2.1.Sublist featuresL
  starts : StartsMade d s x.2.2.2.1 x.2.2.2.2.2.2.2.2
def clsName (j : Nat) : ByteArray := [⟨#[99, 49]⟩, ⟨#[99, 50]⟩, ⟨#[99, 51]⟩, ⟨#[99, 52]⟩, ⟨#[99, 53]⟩, ⟨#[99, 54]⟩].getD j ⟨#[]⟩
/-- Classes that were made. -/
def ClassesMade (N : Nat) (d s : Int) (most : Nat) (names : List ByteArray) (l : List Cls) : Prop :=
  l.length ≤ most ∧ ∀ (j : Nat) (x : Cls), l[j]? = some x → x.1 = clsName j ∧ ClassMade N d s x ∧ x.2.2.2.2.2.2.2.1.Sublist names
end Go.Proofs.YthejgholpkeldaaGreatDoor

namespace Go.Proofs.YthejgholpkeldaaGreatDoor
open Go.RowKit
set_option maxRecDepth 100000

def cboxV (q : Nine) : Array Value := #[.string q.z, .string q.co, .string q.pa, .int .i64 q.n, .slice q.A4 q.n4 q.c4, .int .i64 q.m, .slice q.A6 q.n6 q.c6, .slice q.A7 q.n7 q.c7, .slice q.A8 q.n8 q.c8]
def CBox (W : World) (g : Nat) (q : Nine) : Prop := W.heap[g]? = some (.cells (cboxV q) 65 (0, 0))
section
variable {W W' : World} {g : Nat} {q : Nine}
theorem cbox_new (W : World) (q : Nine) : CBox (W.alloc (.cells (cboxV q) 65)) W.heap.size q := heap_alloc_new _ _
theorem CBox.lt (h : CBox W g q) : g < W.heap.size := blk_lt h
theorem CBox.nine (h : CBox W g q) : NineAt W g 0 q := by
  have hc : ∀ i u, (cboxV q)[i]? = some u → W.cell? ⟨g, 0 + i, none⟩ = some u := fun i u hu => by rw [Nat.zero_add, cell_of_row _ _ _ _ _ _ h]; exact hu
  exact ⟨hc 0 _ rfl, hc 1 _ rfl, hc 2 _ rfl, hc 3 _ rfl, hc 4 _ rfl, hc 5 _ rfl, hc 6 _ rfl, hc 7 _ rfl, hc 8 _ rfl⟩
theorem CBox.c0 (h : CBox W g q) : W.cell? ⟨g, 0, none⟩ = some (.string q.z) := by rw [cell_of_row _ _ _ _ _ _ h]; rfl
theorem CBox.c1 (h : CBox W g q) : W.cell? ⟨g, 1, none⟩ = some (.string q.co) := by rw [cell_of_row _ _ _ _ _ _ h]; rfl
theorem CBox.c2 (h : CBox W g q) : W.cell? ⟨g, 2, none⟩ = some (.string q.pa) := by rw [cell_of_row _ _ _ _ _ _ h]; rfl
theorem CBox.c3 (h : CBox W g q) : W.cell? ⟨g, 3, none⟩ = some (.int .i64 q.n) := by rw [cell_of_row _ _ _ _ _ _ h]; rfl
theorem CBox.c4 (h : CBox W g q) : W.cell? ⟨g, 4, none⟩ = some (.slice q.A4 q.n4 q.c4) := by rw [cell_of_row _ _ _ _ _ _ h]; rfl
theorem CBox.c5 (h : CBox W g q) : W.cell? ⟨g, 5, none⟩ = some (.int .i64 q.m) := by rw [cell_of_row _ _ _ _ _ _ h]; rfl
theorem CBox.c6 (h : CBox W g q) : W.cell? ⟨g, 6, none⟩ = some (.slice q.A6 q.n6 q.c6) := by rw [cell_of_row _ _ _ _ _ _ h]; rfl
theorem CBox.c7 (h : CBox W g q) : W.cell? ⟨g, 7, none⟩ = some (.slice q.A7 q.n7 q.c7) := by rw [cell_of_row _ _ _ _ _ _ h]; rfl
theorem CBox.c8 (h : CBox W g q) : W.cell? ⟨g, 8, none⟩ = some (.slice q.A8 q.n8 q.c8) := by rw [cell_of_row _ _ _ _ _ _ h]; rfl
theorem CBox.free (h : CBox W g q) (j : Nat) : W.frozen? ⟨g, j, none⟩ = false := by unfold CBox at h; simp [World.frozen?, h]
theorem CBox.later (h : CBox W g q) (hb : Below W.heap.size W W') : CBox W' g q := (hb.block _ h.lt).trans h
theorem CBox.alloc (h : CBox W g q) (o : Obj) : CBox (W.alloc o) g q := h.later (ext_alloc (Below.refl _ _) _)
theorem CBox.grown {row : Option Nat} (h : CBox W g q) (hg : W.grownBy W' row) (hne : row ≠ some g) : CBox W' g q := (hg.block _ h.lt (fun e => hne e.symm)).trans h
theorem CBox.thrown {B d : Nat} (h : CBox W g q) (T : Thrown B W d W') (hne : g ≠ d) : CBox W' g q := h.grown T.only (fun e => hne (by injection e with e; exact e.symm))
theorem CBox.set_other {b : Nat} (h : CBox W g q) (hne : b ≠ g) (j : Nat) (u : Value) : CBox (W.setCell ⟨b, j, none⟩ u) g q := by
  unfold CBox at h ⊢
  rw [← h]
  exact heap_setCell_other W ⟨b, j, none⟩ g u (fun e => hne e.symm)
theorem CBox.set0 (h : CBox W g q) (u : ByteArray) : CBox (W.setCell ⟨g, 0, none⟩ (.string u)) g { q with z := u } := (heap_setCell_same _ _ _ _ _ _ h).trans rfl
theorem CBox.set1 (h : CBox W g q) (u : ByteArray) : CBox (W.setCell ⟨g, 1, none⟩ (.string u)) g { q with co := u } := (heap_setCell_same _ _ _ _ _ _ h).trans rfl
theorem CBox.set2 (h : CBox W g q) (u : ByteArray) : CBox (W.setCell ⟨g, 2, none⟩ (.string u)) g { q with pa := u } := (heap_setCell_same _ _ _ _ _ _ h).trans rfl
theorem CBox.set3 (h : CBox W g q) (u : Int) : CBox (W.setCell ⟨g, 3, none⟩ (.int .i64 u)) g { q with n := u } := (heap_setCell_same _ _ _ _ _ _ h).trans rfl
theorem CBox.set4 (h : CBox W g q) (A : Option Addr) (n c : Nat) : CBox (W.setCell ⟨g, 4, none⟩ (.slice A n c)) g { q with A4 := A, n4 := n, c4 := c } := (heap_setCell_same _ _ _ _ _ _ h).trans rfl
theorem CBox.set5 (h : CBox W g q) (u : Int) : CBox (W.setCell ⟨g, 5, none⟩ (.int .i64 u)) g { q with m := u } := (heap_setCell_same _ _ _ _ _ _ h).trans rfl
theorem CBox.set6 (h : CBox W g q) (A : Option Addr) (n c : Nat) : CBox (W.setCell ⟨g, 6, none⟩ (.slice A n c)) g { q with A6 := A, n6 := n, c6 := c } := (heap_setCell_same _ _ _ _ _ _ h).trans rfl
theorem CBox.set7 (h : CBox W g q) (A : Option Addr) (n c : Nat) : CBox (W.setCell ⟨g, 7, none⟩ (.slice A n c)) g { q with A7 := A, n7 := n, c7 := c } := (heap_setCell_same _ _ _ _ _ _ h).trans rfl
theorem CBox.set8 (h : CBox W g q) (A : Option Addr) (n c : Nat) : CBox (W.setCell ⟨g, 8, none⟩ (.slice A n c)) g { q with A8 := A, n8 := n, c8 := c } := (heap_setCell_same _ _ _ _ _ _ h).trans rfl
end
end Go.Proofs.YthejgholpkeldaaGreatDoor

namespace Go.Proofs.YthejgholpkeldaaGreatDoor
open Go.RowKit
set_option maxRecDepth 100000

def updV (u : Nat → Value) (i : Nat) (v : Value) : Nat → Value := fun k => if k = i then v else u k
section
variable {P : Program} {ops : Array Oper} {Q : Exit → Act → World → Prop}
/-- An operation's precondition, closed to reduction. -/
structure OpWp (P : Program) (o : Oper) (a : Act) (w : World) (K : Act → World → Prop) (Q : Exit → Act → World → Prop) : Prop where
  out : o.wp P a w K Q
/-- What holds when the operations D have been carried out. -/
def RelInv (ops : Array Oper) (mk : (Nat → Value) → Act) (C : World → Prop) (R : Nat → (Nat → Value) → World → Prop) (D : Nat → Prop) (a : Act) (W : World) : Prop :=
  ∃ u, a = mk u ∧ C W ∧ (∀ j, D j → j < ops.size) ∧ (∀ j o, D j → ops[j]? = some o → ∀ e ∈ o.after, Region.binds .any e = true → D e.on) ∧ ∀ j, D j → R j u W
/-- One operation. -/
def RelStep (P : Program) (ops : Array Oper) (mk : (Nat → Value) → Act) (C : World → Prop) (R : Nat → (Nat → Value) → World → Prop) (Q : Exit → Act → World → Prop) (i : Nat) (o : Oper) : Prop :=
  ∀ u W, C W → (∀ e ∈ o.after, Region.binds .any e = true → R e.on u W) → OpWp P o (mk u) W (fun a' W' => ∃ v, a' = mk (updV u i v) ∧ C W' ∧ R i (updV u i v) W' ∧ ∀ j o', ops[j]? = some o' → j ≠ i → (∀ e ∈ o'.after, Region.binds .any e = true → e.on ≠ i) → R j u W → R j (updV u i v) W') Q
theorem wpAny_rel {mk : (Nat → Value) → Act} {C : World → Prop} {R : Nat → (Nat → Value) → World → Prop} (hg : ∀ (i : Nat) (o : Oper), ops[i]? = some o → ∀ tm, Region.wanted o (yielded ops tm) = true) (hlex : ∀ (i : Nat) (o : Oper), ops[i]? = some o → ∀ e ∈ o.after, e.on < i)
    (hstep : ∀ (i : Nat) (o : Oper), ops[i]? = some o → RelStep P ops mk C R Q i o) (hfin : ∀ u W, C W → (∀ i, i < ops.size → R i u W) → Q .normal (mk u) W) :
    ∀ (fuel : Nat) (listed : Array Bool) (a : Act) (W : World), listed.size = ops.size → ((List.range ops.size).filter fun i => !listed.getD i true).length ≤ fuel → RelInv ops mk C R (fun i => listed.getD i false = true) a W → wpAny P .any ops Q fuel listed a W := by
  have hall : ∀ (listed : Array Bool), listed.size = ops.size → ((List.range ops.size).filter fun i => !listed.getD i true) = [] → ∀ i, i < ops.size → listed.getD i false = true := by
    intro listed hsz h i hi
    have h1 := List.filter_eq_nil_iff.1 h i (by simpa using hi)
    have h2 : listed.getD i true = true := by simpa using h1
    rw [Array.getD_eq_getD_getElem?] at h2 ⊢
    rw [Array.getElem?_eq_getElem (by omega)] at h2 ⊢
    exact h2
  have hend : ∀ (listed : Array Bool) (a : Act) (W : World), listed.size = ops.size → ((List.range ops.size).filter fun i => !listed.getD i true) = [] → RelInv ops mk C R (fun i => listed.getD i false = true) a W → Q .normal a W := by
    rintro listed a W hsz h ⟨u, he, hC, -, -, hR⟩
    rw [he]
    exact hfin u W hC fun i hi => hR i (hall listed hsz h i hi)
  intro fuel
  induction fuel with
  | zero =>
    intro listed a W hsz hf hI
    have h0 : ((List.range ops.size).filter fun i => !listed.getD i true) = [] := List.eq_nil_of_length_eq_zero (by omega)
    refine ⟨?_, hend listed a W hsz h0 hI⟩
    unfold Region.ready
    rw [List.filter_eq_nil_iff]
    intro i hi
    have := List.filter_eq_nil_iff.1 h0 i hi
    simp only [Bool.and_eq_true, not_and]
    intro h; exact absurd h this
  | succ fuel ih =>
    intro listed a W hsz hf hI
    refine ⟨fun hr => ?_, fun i hi => ?_⟩
    · refine hend listed a W hsz ?_ hI
      -- the least that is not yet listed would be ready
      have key : ∀ n, n ≤ ops.size → ∀ i, i < n → listed.getD i true = true := by
        intro n
        induction n with
        | zero => intro _ i hi; omega
        | succ n ihn =>
          intro hn i hi
          by_cases e : i < n
          · exact ihn (by omega) i e
          · have e : i = n := by omega
            subst e
            cases hl : listed.getD i true with
            | true => rfl
            | false =>
              exfalso
              have ho : ops[i]? = some (ops[i]'(by omega)) := Array.getElem?_eq_getElem (by omega)
              have hm : i ∈ Region.ready .any ops listed := by
                unfold Region.ready
                rw [List.mem_filter]
                refine ⟨by simp; omega, ?_⟩
                rw [hl, ho]
                simp only [Bool.not_false, Bool.true_and, Option.map_some, Option.getD_some, Array.all_eq_true_iff_forall_mem]
                intro e he
                have h3 := hlex i _ ho e he
                have h4 := ihn (by omega) e.on h3
                rw [Array.getD_eq_getD_getElem?] at h4 ⊢
                rw [Array.getElem?_eq_getElem (by omega)] at h4 ⊢
                simp only [Option.getD_some] at h4 ⊢
                rw [h4]; simp
              rw [hr] at hm
              cases hm
      rw [List.filter_eq_nil_iff]
      intro i hi
      rw [key ops.size (Nat.le_refl _) i (by simpa using hi)]; simp
    · unfold Region.ready at hi
      rw [List.mem_filter] at hi
      obtain ⟨hi1, hi2⟩ := hi
      have hil : i < ops.size := by simpa using hi1
      have ho : ops[i]? = some (ops[i]'hil) := Array.getElem?_eq_getElem hil
      rw [ho] at hi2
      simp only [Option.map_some, Option.getD_some, Bool.and_eq_true, Bool.not_eq_true', Array.all_eq_true_iff_forall_mem] at hi2
      obtain ⟨hn, hdep⟩ := hi2
      obtain ⟨u, rfl, hC, hlt, hcl, hR⟩ := hI
      have hdeps : ∀ e ∈ (ops[i]'hil).after, Region.binds .any e = true → listed.getD e.on false = true := fun e he hb => by
        have := hdep e he
        rw [hb] at this
        simpa using this
      have hni : ¬ listed.getD i false = true := by
        rw [Array.getD_eq_getD_getElem?] at hn ⊢
        rw [Array.getElem?_eq_getElem (by omega)] at hn ⊢
        simp only [Option.getD_some] at hn ⊢
        rw [hn]; simp
      unfold wpOp
      rw [ho]
      dsimp only
      rw [if_pos (hg i _ ho _)]
      refine .inl (Oper.wp_mono (fun a' W' h => ?_) (hstep i _ ho u W hC fun e he hb => hR _ (hdeps e he hb)).out)
      obtain ⟨v, rfl, hC', hRi, hkeep⟩ := h
      have hset : ∀ j, (listed.setIfInBounds i true).getD j false = true ↔ j = i ∨ listed.getD j false = true := by
        intro j
        rw [Array.getD_eq_getD_getElem?, Array.getD_eq_getD_getElem?, Array.getElem?_setIfInBounds]
        by_cases e : i = j
        · subst e; simp [show i < listed.size by omega]
        · simp [e, show ¬ j = i from fun h => e h.symm]
      refine ih _ _ _ (by simpa using hsz) ?_ ⟨_, rfl, hC', fun j hj => ?_, fun j o' hj ho' e he hb => ?_, fun j hj => ?_⟩
      · -- one less is left
        have hlt2 : ((List.range ops.size).filter fun k => !(listed.setIfInBounds i true).getD k true).length < ((List.range ops.size).filter fun k => !listed.getD k true).length := by
          have hsub : ∀ k, (!(listed.setIfInBounds i true).getD k true) = ((!listed.getD k true) && decide (k ≠ i)) := by
            intro k
            rw [Array.getD_eq_getD_getElem?, Array.getD_eq_getD_getElem?, Array.getElem?_setIfInBounds]
            by_cases e : i = k
            · subst e; simp [show i < listed.size by omega]
            · simp [e, show ¬ k = i from fun h => e h.symm]
          have hmem : i ∈ (List.range ops.size).filter fun k => !listed.getD k true := List.mem_filter.2 ⟨by simpa using hil, by rw [hn]; rfl⟩
          have heq : ((List.range ops.size).filter fun k => !(listed.setIfInBounds i true).getD k true) = (((List.range ops.size).filter fun k => !listed.getD k true).filter fun k => decide (k ≠ i)) := by
            rw [List.filter_filter]
            refine List.filter_congr fun k _ => ?_
            rw [hsub k, Bool.and_comm]
          rw [heq]
          exact List.length_filter_lt_length_iff_exists.2 ⟨i, hmem, by simp⟩
        omega
      · rcases (hset j).1 hj with rfl | h
        · exact hil
        · exact hlt j h
      · refine (hset _).2 ?_
        rcases (hset j).1 hj with rfl | h
        · rw [ho] at ho'
          obtain rfl := Option.some.inj ho'
          exact .inr (hdeps e he hb)
        · exact .inr (hcl j o' h ho' e he hb)
      · rcases (hset j).1 hj with rfl | h
        · exact hRi
        · have hji : j ≠ i := fun e => hni (e ▸ h)
          have hjl := hlt j h
          refine hkeep j _ (Array.getElem?_eq_getElem hjl) hji (fun e he hb e2 => ?_) (hR j h)
          exact hni (e2 ▸ hcl j _ h (Array.getElem?_eq_getElem hjl) e he hb)
theorem wp_region_rel {id : Nat} {a : Act} {w : World} (hm : P.follows .mixedOrders = true) (mk : (Nat → Value) → Act) (C : World → Prop) (R : Nat → (Nat → Value) → World → Prop) (u0 : Nat → Value) (ha : a = mk u0) (hC : C w.drew)
    (hg : ∀ (i : Nat) (o : Oper), ops[i]? = some o → ∀ tm, Region.wanted o (yielded ops tm) = true) (hlex : ∀ (i : Nat) (o : Oper), ops[i]? = some o → ∀ e ∈ o.after, e.on < i)
    (hstep : ∀ (i : Nat) (o : Oper), ops[i]? = some o → RelStep P ops mk C R Q i o) (hfin : ∀ u W, C W → (∀ i, i < ops.size → R i u W) → Q .normal (mk u) W) : (Code.region id ops true).wp P Q a w := by
  refine wp_region_any hm (wpAny_rel hg hlex hstep hfin _ _ _ _ (by simp) ?_ ⟨u0, ha, hC, fun j hj => ?_, fun j o hj => ?_, fun j hj => ?_⟩)
  · exact Nat.le_trans (List.length_filter_le _ _) (by simp)
  all_goals
    exfalso
    dsimp only at hj
    rw [Array.getD_eq_getD_getElem?, Array.getElem?_replicate] at hj
    split at hj <;> simp at hj
/-- Slots filled: number k goes to slot d. -/
def putsA (a : Act) (u : Nat → Value) : List (Nat × Nat) → Act
  | [] => a
  | (k, d) :: r => putsA (a.put (some d) (u k)) u r
theorem put_same (a : Act) (d : Nat) : a.put (some d) (a.tmps.getD d undef) = a := by
  unfold Act.put
  obtain ⟨t, df⟩ := a
  simp only
  congr 1
  apply Array.ext_getElem?
  intro i
  rw [Array.getElem?_setIfInBounds]
  split
  · rename_i h
    subst h
    split
    · rename_i h; simp [Array.getElem?_eq_getElem h]
    · rename_i h; rw [Array.getElem?_eq_none (by omega)]
  · rfl
theorem putsA_same (a : Act) (u : Nat → Value) : ∀ (l : List (Nat × Nat)), (∀ p ∈ l, u p.1 = a.tmps.getD p.2 undef) → putsA a u l = a
  | [], _ => rfl
  | (k, d) :: r, h => by
    rw [putsA, h (k, d) (by simp), put_same]
    exact putsA_same a u r fun p hp => h p (by simp [hp])
theorem put_put (a : Act) (d : Nat) (x v : Value) : (a.put (some d) x).put (some d) v = a.put (some d) v := by
  unfold Act.put
  simp only
  congr 1
  apply Array.ext_getElem?
  intro i
  simp only [Array.getElem?_setIfInBounds, Array.size_setIfInBounds]
  split <;> rfl
theorem put_comm (a : Act) {d c : Nat} (x v : Value) (h : c ≠ d) : (a.put (some c) x).put (some d) v = (a.put (some d) v).put (some c) x := by
  unfold Act.put
  simp only
  congr 1
  apply Array.ext_getElem?
  intro i
  simp only [Array.getElem?_setIfInBounds, Array.size_setIfInBounds]
  by_cases h1 : d = i
  · subst h1; simp [h]
  · simp [h1]
theorem putsA_put_out (u : Nat → Value) (v : Value) (d : Nat) : ∀ (l : List (Nat × Nat)) (a : Act), (∀ p ∈ l, p.2 ≠ d) → (putsA a u l).put (some d) v = putsA (a.put (some d) v) u l
  | [], a, _ => rfl
  | (k, c) :: r, a, h => by
    rw [putsA, putsA, putsA_put_out u v d r _ (fun p hp => h p (by simp [hp])), put_comm a _ _ (h (k, c) (by simp))]
theorem putsA_upd_out (u : Nat → Value) (v : Value) (k : Nat) : ∀ (l : List (Nat × Nat)) (a : Act), (∀ p ∈ l, p.1 ≠ k) → putsA a (updV u k v) l = putsA a u l
  | [], a, _ => rfl
  | (j, c) :: r, a, h => by
    rw [putsA, putsA, putsA_upd_out u v k r _ (fun p hp => h p (by simp [hp]))]
    congr 1
    unfold updV
    rw [if_neg (h (j, c) (by simp))]
/-- The keys and the slots are different ones. -/
def slotsB : List (Nat × Nat) → Bool
  | [] => true
  | (k, d) :: r => (r.all fun p => decide (p.1 ≠ k) && decide (p.2 ≠ d)) && slotsB r
theorem putsA_put (u : Nat → Value) (v : Value) (k d : Nat) : ∀ (l : List (Nat × Nat)) (a : Act), slotsB l = true → (k, d) ∈ l → (putsA a u l).put (some d) v = putsA a (updV u k v) l
  | (j, c) :: r, a, hB, hm => by
    rw [slotsB, Bool.and_eq_true, List.all_eq_true] at hB
    have hr : ∀ p ∈ r, p.1 ≠ j ∧ p.2 ≠ c := fun p hp => by have := hB.1 p hp; simp only [Bool.and_eq_true, decide_eq_true_eq] at this; exact this
    by_cases e : (k, d) = (j, c)
    · injection e with e1 e2
      subst e1 e2
      rw [putsA, putsA, putsA_put_out u v _ r _ (fun p hp => (hr p hp).2), put_put, putsA_upd_out u v _ r _ (fun p hp => (hr p hp).1)]
      unfold updV
      rw [if_pos rfl]
    · have hm' : (k, d) ∈ r := by rcases List.mem_cons.1 hm with h | h; exact absurd h e; exact h
      rw [putsA, putsA, putsA_put u v k d r _ hB.2 hm']
      have : updV u k v j = u j := by unfold updV; rw [if_neg (fun e => (hr _ hm').1 e.symm)]
      rw [this]
theorem get_put (a : Act) (d c : Nat) (v : Value) (h : c ≠ d) : (a.put (some c) v).tmps.getD d undef = a.tmps.getD d undef := by
  unfold Act.put
  simp only [Array.getD_eq_getD_getElem?, Array.getElem?_setIfInBounds, if_neg h]
theorem size_put (a : Act) (c : Nat) (v : Value) : (a.put (some c) v).tmps.size = a.tmps.size := by unfold Act.put; simp
theorem putsA_other (u : Nat → Value) (d : Nat) : ∀ (l : List (Nat × Nat)) (a : Act), (∀ p ∈ l, p.2 ≠ d) → (putsA a u l).tmps.getD d undef = a.tmps.getD d undef
  | [], a, _ => rfl
  | (k, c) :: r, a, h => by rw [putsA, putsA_other u d r _ (fun p hp => h p (by simp [hp])), get_put _ _ _ _ (h (k, c) (by simp))]
theorem putsA_get (u : Nat → Value) (k d : Nat) : ∀ (l : List (Nat × Nat)) (a : Act), slotsB l = true → (k, d) ∈ l → d < a.tmps.size → (putsA a u l).tmps.getD d undef = u k
  | (j, c) :: r, a, hB, hm, hd => by
    rw [slotsB, Bool.and_eq_true, List.all_eq_true] at hB
    have hr : ∀ p ∈ r, p.1 ≠ j ∧ p.2 ≠ c := fun p hp => by have := hB.1 p hp; simp only [Bool.and_eq_true, decide_eq_true_eq] at this; exact this
    by_cases e : (k, d) = (j, c)
    · injection e with e1 e2
      subst e1 e2
      rw [putsA, putsA_other u _ r _ (fun p hp => (hr p hp).2)]
      unfold Act.put
      simp only [Array.getD_eq_getD_getElem?, Array.getElem?_setIfInBounds]
      simp [hd]
    · have hm' : (k, d) ∈ r := by rcases List.mem_cons.1 hm with h | h; exact absurd h e; exact h
      rw [putsA]
      exact putsA_get u k d r _ hB.2 hm' (by rw [size_put]; exact hd)
/-- No operation is guarded, and each comes behind those that it waits for. -/
def relB (ops : Array Oper) : Bool := (List.range ops.size).all fun i => match ops[i]? with | some o => o.guard.isNone && o.after.all (fun e => decide (e.on < i)) | none => true
theorem relB_at {i : Nat} {o : Oper} (h : relB ops = true) (ho : ops[i]? = some o) : o.guard = none ∧ ∀ e ∈ o.after, e.on < i := by
  unfold relB at h
  rw [List.all_eq_true] at h
  have hi := (Array.getElem?_eq_some_iff.1 ho).1
  have := h i (by simpa using hi)
  rw [ho] at this
  simp only [Bool.and_eq_true, Array.all_eq_true_iff_forall_mem, decide_eq_true_eq, Option.isNone_iff_eq_none] at this
  exact this
theorem region_abs {id : Nat} {a : Act} {w : World} (h : ∀ a0 : Act, a0.tmps.size = a.tmps.size → (∀ d, a0.tmps.getD d undef = a.tmps.getD d undef) → a0 = a → (Code.region id ops true).wp P Q a0 w) : (Code.region id ops true).wp P Q a w := h a rfl (fun _ => rfl) rfl
theorem wp_region_puts {id : Nat} {a : Act} {w : World} (hm : P.follows .mixedOrders = true) (slots : List (Nat × Nat)) (C : World → Prop) (R : Nat → (Nat → Value) → World → Prop) (hB : relB ops = true) (h0 : ∀ p ∈ slots, a.tmps.getD p.2 undef = undef) (hC : C w.drew)
    (hstep : ∀ (i : Nat) (o : Oper), ops[i]? = some o → RelStep P ops (fun u => putsA a u slots) C R Q i o) (hfin : ∀ u W, C W → (∀ i, i < ops.size → R i u W) → Q .normal (putsA a u slots) W) : (Code.region id ops true).wp P Q a w :=
  wp_region_rel hm (fun u => putsA a u slots) C R (fun _ => undef) (putsA_same a _ slots fun p hp => (h0 p hp).symm).symm hC
    (fun i o ho tm => by unfold Region.wanted; rw [(relB_at hB ho).1]) (fun i o ho => (relB_at hB ho).2) hstep hfin
end
end Go.Proofs.YthejgholpkeldaaGreatDoor

namespace Go.Proofs.YthejgholpkeldaaGreatDoor
open Go.RowKit
set_option maxRecDepth 100000

theorem apd_starts : Apd Tryz.prog 63 95 2 16 := apd Tryz.underlying63 (z := .agg #[.int .i64 0, .int .i64 0]) (by kernel_rfl) rfl
/-- What stays while a class is made. -/
structure ClSt (B : Nat) (w : World) (g gb : Nat) (d s b m : Int) (W : World) : Prop where
  thrown : Thrown B w g W
  grid : Box4 W gb (.int .i64 d) (.int .i64 s) (.int .i64 b) (.int .i64 m)
  lo : g < gb
  res : CBox W (gb + 1) ⟨⟨#[]⟩, ⟨#[]⟩, ⟨#[]⟩, 0, none, 0, 0, 0, none, 0, 0, none, 0, 0, none, 0, 0⟩
section
variable {B : Nat} {w W W' : World} {g gb : Nat} {d s b m : Int}
theorem ClSt.later (h : ClSt B w g gb d s b m W) (hb : Below W.heap.size W W') : ClSt B w g gb d s b m W' := ⟨h.thrown.later hb, h.grid.later hb, h.lo, h.res.later hb⟩
theorem ClSt.alloc (h : ClSt B w g gb d s b m W) (o : Obj) : ClSt B w g gb d s b m (W.alloc o) := h.later (ext_alloc (Below.refl _ _) _)
theorem ClSt.drew (h : ClSt B w g gb d s b m W) : ClSt B w g gb d s b m W.drew := h.later (ext_drew (Below.refl _ _))
theorem ClSt.on (h : ClSt B w g gb d s b m W) (T : Thrown B W g W') (hne : gb ≠ g) : ClSt B w g gb d s b m W' := ⟨h.thrown.trans T, T.box hne h.grid, h.lo, h.res.thrown T (by have := h.lo; omega)⟩
theorem ClSt.set (h : ClSt B w g gb d s b m W) {c i : Nat} (hp : w.heap.size ≤ c) (hne : gb + 2 ≤ c) (u : Value) : ClSt B w g gb d s b m (W.setCell ⟨c, i, none⟩ u) :=
  have hn : gb ≠ c := by omega
  ⟨h.thrown.set (p := ⟨c, i, none⟩) hp u, ⟨cell_set_other h.grid.c0 hn u, cell_set_other h.grid.c1 hn u, cell_set_other h.grid.c2 hn u, cell_set_other h.grid.c3 hn u⟩, h.lo, h.res.set_other (by omega) i u⟩
end
/-- What a throw leaves: all but the dice's block. -/
def NextC (B : Nat) (w : World) (g gb : Nat) (d s b m : Int) (n : Nat) (V : World) (e : Ending) (V' : World) : Prop :=
  ∃ v : Nat, e = .returned (.int .i64 (v : Int)) ∧ v < n ∧ ClSt B w g gb d s b m V' ∧ (∀ (c : Nat) (o : Obj), V.heap[c]? = some o → c ≠ g → V'.heap[c]? = some o) ∧ V'.heap.size = V.heap.size
theorem nextC {B : Nat} {w V : World} {g gb : Nat} {d s b m : Int} (n : Nat) (hn1 : 1 ≤ n) (hn : n ≤ 1000) (hne : gb ≠ g) (h : ClSt B w g gb d s b m V) :
    Calls Tryz.prog 13 #[.pointer (some ⟨g, 0, none⟩), .int .i64 (n : Int)] V fun e V' => NextC B w g gb d s b m n V e V' :=
  (next_walk B g n (by omega) V h.thrown.dice).mono fun e V' ⟨v, he, p, q, _, T, hz⟩ => by
    obtain ⟨v, rfl⟩ := Int.eq_ofNat_of_zero_le p
    exact ⟨v, he, by have := q (by omega); omega, h.on T hne, fun c o hc hcg => (T.only.block c (blk_lt hc) (fun e => hcg (by injection e))).trans hc, hz⟩
def arrC : Array Value := #[.string ⟨#[77, 65, 49]⟩, .string ⟨#[77, 65, 50]⟩, .string ⟨#[80, 72]⟩]
def arrP : Array Value := #[.string ⟨#[76]⟩, .string ⟨#[88]⟩]
theorem arrC_at {V : World} {b v : Nat} {t : TypeId} (h : V.heap[b]? = some (.cells #[.string ⟨#[77, 65, 49]⟩, .string ⟨#[77, 65, 50]⟩, .string ⟨#[80, 72]⟩] t (0, 0))) (hv : v < 3) : V.cell? ⟨b, v, none⟩ = some (.string (mcourses.getD v ⟨#[]⟩)) := by
  rw [cell_of_row _ _ _ _ _ _ h]
  match v, hv with
  | 0, _ => rfl
  | 1, _ => rfl
  | 2, _ => rfl
theorem arrP_at {V : World} {b v : Nat} {t : TypeId} (h : V.heap[b]? = some (.cells #[.string ⟨#[76]⟩, .string ⟨#[88]⟩] t (0, 0))) (hv : v < 2) : V.cell? ⟨b, v, none⟩ = some (.string (partsL.getD v ⟨#[]⟩)) := by
  rw [cell_of_row _ _ _ _ _ _ h]
  match v, hv with
  | 0, _ => rfl
  | 1, _ => rfl
def zeroN (z : ByteArray) (co pa : ByteArray) (n : Int) : Nine := ⟨z, co, pa, n, none, 0, 0, 0, none, 0, 0, none, 0, 0, none, 0, 0⟩
def clsSlots : List (Nat × Nat) := [(0, 14), (1, 15), (2, 16), (3, 17), (4, 18), (5, 19), (6, 20), (7, 21), (8, 22), (9, 23), (10, 24), (11, 25), (12, 26), (13, 27), (14, 28), (15, 29), (16, 30), (17, 31), (18, 9)]
def ClsR (g gb : Nat) (s : Int) (code : ByteArray) (i : Nat) (u : Nat → Value) (W : World) : Prop :=
  match i with
  | 0 => u 0 = .string code
  | 1 => ∃ b, u 1 = .slice (some ⟨b, 0, none⟩) 3 3 ∧ gb + 2 ≤ b ∧ W.heap[b]? = some (.cells arrC 9 (0, 0))
  | 2 => u 2 = .pointer (some ⟨g, 0, none⟩)
  | 3 => ∃ v : Nat, v < 3 ∧ u 3 = .int .i64 (v : Int)
  | 4 => ∃ b v : Nat, v < 3 ∧ u 4 = .pointer (some ⟨b, v, none⟩) ∧ gb + 2 ≤ b ∧ W.heap[b]? = some (.cells arrC 9 (0, 0))
  | 5 => ∃ z ∈ mcourses, u 5 = .string z
  | 6 => ∃ b, u 6 = .slice (some ⟨b, 0, none⟩) 2 2 ∧ gb + 2 ≤ b ∧ W.heap[b]? = some (.cells arrP 9 (0, 0))
  | 7 => u 7 = .pointer (some ⟨g, 0, none⟩)
  | 8 => ∃ v : Nat, v < 2 ∧ u 8 = .int .i64 (v : Int)
  | 9 => ∃ b v : Nat, v < 2 ∧ u 9 = .pointer (some ⟨b, v, none⟩) ∧ gb + 2 ≤ b ∧ W.heap[b]? = some (.cells arrP 9 (0, 0))
  | 10 => ∃ z ∈ partsL, u 10 = .string z
  | 11 => u 11 = .pointer (some ⟨g, 0, none⟩)
  | 12 => u 12 = .pointer (some ⟨gb, 1, none⟩)
  | 13 => u 13 = .int .i64 s
  | 14 => ∃ k : Nat, 1 ≤ k ∧ k ≤ 2 ∧ (k : Int) ≤ s ∧ u 14 = .int .i64 (k : Int)
  | 15 => ∃ v : Nat, v < 2 ∧ (v : Int) < s ∧ u 15 = .int .i64 (v : Int)
  | 16 => ∃ n : Nat, 1 ≤ n ∧ n ≤ 2 ∧ (n : Int) ≤ s ∧ u 16 = .int .i64 (n : Int)
  | 17 => ∃ z ∈ mcourses, ∃ y ∈ partsL, ∃ n : Nat, 1 ≤ n ∧ n ≤ 2 ∧ (n : Int) ≤ s ∧ u 17 = .agg (cboxV (zeroN code z y n))
  | 18 => ∃ c q, u 18 = .pointer (some ⟨c, 0, none⟩) ∧ gb + 2 ≤ c ∧ CBox W c q
  | 19 => ∃ c, u 18 = .pointer (some ⟨c, 0, none⟩) ∧ gb + 2 ≤ c ∧ ∃ z ∈ mcourses, ∃ y ∈ partsL, ∃ n : Nat, 1 ≤ n ∧ n ≤ 2 ∧ (n : Int) ≤ s ∧ CBox W c (zeroN code z y n)
  | _ => True
theorem upd_same (u : Nat → Value) (i : Nat) (v : Value) : updV u i v i = v := if_pos rfl
theorem upd_ne (u : Nat → Value) {i j : Nat} (v : Value) (h : j ≠ i) : updV u i v j = u j := if_neg h
theorem clsR_keep {g gb : Nat} {s : Int} {code : ByteArray} {i j : Nat} {u : Nat → Value} {v : Value} {W W' : World} (hk : ∀ (c : Nat) (o : Obj), W.heap[c]? = some o → gb + 2 ≤ c → W'.heap[c]? = some o) (hji : j ≠ i) (h19 : j = 19 → i ≠ 18)
    (h : ClsR g gb s code j u W) : ClsR g gb s code j (updV u i v) W' := by
  have hu : ∀ k, k ≠ i → updV u i v k = u k := fun k hk => upd_ne u v hk
  match j, hji, h19, h with
  | 0, hji, _, h => exact (hu 0 hji).trans h
  | 1, hji, _, h => obtain ⟨b, h1, h2, h3⟩ := h; exact ⟨b, (hu 1 hji).trans h1, h2, hk _ _ h3 h2⟩
  | 2, hji, _, h => exact (hu 2 hji).trans h
  | 3, hji, _, h => obtain ⟨b, h1, h2⟩ := h; exact ⟨b, h1, (hu 3 hji).trans h2⟩
  | 4, hji, _, h => obtain ⟨b, x, h0, h1, h2, h3⟩ := h; exact ⟨b, x, h0, (hu 4 hji).trans h1, h2, hk _ _ h3 h2⟩
  | 5, hji, _, h => obtain ⟨b, h1, h2⟩ := h; exact ⟨b, h1, (hu 5 hji).trans h2⟩
  | 6, hji, _, h => obtain ⟨b, h1, h2, h3⟩ := h; exact ⟨b, (hu 6 hji).trans h1, h2, hk _ _ h3 h2⟩
  | 7, hji, _, h => exact (hu 7 hji).trans h
  | 8, hji, _, h => obtain ⟨b, h1, h2⟩ := h; exact ⟨b, h1, (hu 8 hji).trans h2⟩
  | 9, hji, _, h => obtain ⟨b, x, h0, h1, h2, h3⟩ := h; exact ⟨b, x, h0, (hu 9 hji).trans h1, h2, hk _ _ h3 h2⟩
  | 10, hji, _, h => obtain ⟨b, h1, h2⟩ := h; exact ⟨b, h1, (hu 10 hji).trans h2⟩
  | 11, hji, _, h => exact (hu 11 hji).trans h
  | 12, hji, _, h => exact (hu 12 hji).trans h
  | 13, hji, _, h => exact (hu 13 hji).trans h
  | 14, hji, _, h => obtain ⟨k, h1, h2, h3, h4⟩ := h; exact ⟨k, h1, h2, h3, (hu 14 hji).trans h4⟩
  | 15, hji, _, h => obtain ⟨k, h1, h2, h3⟩ := h; exact ⟨k, h1, h2, (hu 15 hji).trans h3⟩
  | 16, hji, _, h => obtain ⟨k, h1, h2, h3, h4⟩ := h; exact ⟨k, h1, h2, h3, (hu 16 hji).trans h4⟩
  | 17, hji, _, h => obtain ⟨z, hz, y, hy, n, h1, h2, h3, h4⟩ := h; exact ⟨z, hz, y, hy, n, h1, h2, h3, (hu 17 hji).trans h4⟩
  | 18, hji, _, h => obtain ⟨c, q, h1, h2, h3⟩ := h; exact ⟨c, q, (hu 18 hji).trans h1, h2, hk _ _ h3 h2⟩
  | 19, hji, h19, h => obtain ⟨c, h1, h2, z, hz, y, hy, n, h3, h4, h5, h6⟩ := h; exact ⟨c, (hu 18 (fun e => h19 rfl e.symm)).trans h1, h2, z, hz, y, hy, n, h3, h4, h5, hk _ _ h6 h2⟩
  | n + 20, _, _, _ => trivial
/-- The same where a class is written. -/
theorem clsR_set {g gb c : Nat} {s : Int} {code : ByteArray} {j : Nat} {u : Nat → Value} {v : Value} {q q' : Nine} {W W' : World} (hk : ∀ (x : Nat) (o : Obj), W.heap[x]? = some o → x ≠ c → W'.heap[x]? = some o) (hq : CBox W c q) (hq' : CBox W' c q') (hc : gb + 2 ≤ c) (h18 : u 18 = .pointer (some ⟨c, 0, none⟩)) (hji : j ≠ 19)
    (h : ClsR g gb s code j u W) : ClsR g gb s code j (updV u 19 v) W' := by
  have hu : ∀ k, k ≠ 19 → updV u 19 v k = u k := fun k hk => upd_ne u v hk
  have hC : ∀ b (_ : W.heap[b]? = some (Obj.cells arrC 9 (0, 0))), W'.heap[b]? = some (Obj.cells arrC 9 (0, 0)) := fun b h => hk b _ h fun e => by
    subst e
    unfold CBox at hq
    rw [h] at hq
    injection hq with h1
    injection h1 with _ h2
    exact absurd h2 (by decide)
  have hP : ∀ b (_ : W.heap[b]? = some (Obj.cells arrP 9 (0, 0))), W'.heap[b]? = some (Obj.cells arrP 9 (0, 0)) := fun b h => hk b _ h fun e => by
    subst e
    unfold CBox at hq
    rw [h] at hq
    injection hq with h1
    injection h1 with _ h2
    exact absurd h2 (by decide)
  match j, hji, h with
  | 0, hji, h => exact (hu 0 hji).trans h
  | 1, hji, h => obtain ⟨b, h1, h2, h3⟩ := h; exact ⟨b, (hu 1 hji).trans h1, h2, hC _ h3⟩
  | 2, hji, h => exact (hu 2 hji).trans h
  | 3, hji, h => obtain ⟨b, h1, h2⟩ := h; exact ⟨b, h1, (hu 3 hji).trans h2⟩
  | 4, hji, h => obtain ⟨b, x, h0, h1, h2, h3⟩ := h; exact ⟨b, x, h0, (hu 4 hji).trans h1, h2, hC _ h3⟩
  | 5, hji, h => obtain ⟨b, h1, h2⟩ := h; exact ⟨b, h1, (hu 5 hji).trans h2⟩
  | 6, hji, h => obtain ⟨b, h1, h2, h3⟩ := h; exact ⟨b, (hu 6 hji).trans h1, h2, hP _ h3⟩
  | 7, hji, h => exact (hu 7 hji).trans h
  | 8, hji, h => obtain ⟨b, h1, h2⟩ := h; exact ⟨b, h1, (hu 8 hji).trans h2⟩
  | 9, hji, h => obtain ⟨b, x, h0, h1, h2, h3⟩ := h; exact ⟨b, x, h0, (hu 9 hji).trans h1, h2, hP _ h3⟩
  | 10, hji, h => obtain ⟨b, h1, h2⟩ := h; exact ⟨b, h1, (hu 10 hji).trans h2⟩
  | 11, hji, h => exact (hu 11 hji).trans h
  | 12, hji, h => exact (hu 12 hji).trans h
  | 13, hji, h => exact (hu 13 hji).trans h
  | 14, hji, h => obtain ⟨k, h1, h2, h3, h4⟩ := h; exact ⟨k, h1, h2, h3, (hu 14 hji).trans h4⟩
  | 15, hji, h => obtain ⟨k, h1, h2, h3⟩ := h; exact ⟨k, h1, h2, (hu 15 hji).trans h3⟩
  | 16, hji, h => obtain ⟨k, h1, h2, h3, h4⟩ := h; exact ⟨k, h1, h2, h3, (hu 16 hji).trans h4⟩
  | 17, hji, h => obtain ⟨z, hz, y, hy, n, h1, h2, h3, h4⟩ := h; exact ⟨z, hz, y, hy, n, h1, h2, h3, (hu 17 hji).trans h4⟩
  | 18, hji, h => exact ⟨c, q', (hu 18 (by decide)).trans h18, hc, hq'⟩
  | n + 20, _, _ => trivial
theorem clsSlots_ok : slotsB clsSlots = true := by decide +kernel
theorem cls_post (ops : Array Oper) {B : Nat} {w : World} {g gb : Nat} {d s b m : Int} {code : ByteArray} {a0 a' : Act} {i : Nat} {u : Nat → Value} {v : Value} {V W' : World} (hi : i ≠ 18) (ha : a' = putsA a0 (updV u i v) clsSlots) (hC : ClSt B w g gb d s b m W' ∧ gb + 2 ≤ W'.heap.size) (hR : ClsR g gb s code i (updV u i v) W') (hk : ∀ (c : Nat) (o : Obj), V.heap[c]? = some o → gb + 2 ≤ c → W'.heap[c]? = some o) :
    ∃ v, a' = putsA a0 (updV u i v) clsSlots ∧ (ClSt B w g gb d s b m W' ∧ gb + 2 ≤ W'.heap.size) ∧ ClsR g gb s code i (updV u i v) W' ∧ ∀ (j : Nat) (o' : Oper), ops[j]? = some o' → j ≠ i → (∀ e ∈ o'.after, Region.binds .any e = true → e.on ≠ i) → ClsR g gb s code j u V → ClsR g gb s code j (updV u i v) W' :=
  ⟨v, ha, hC, hR, fun _ _ _ hji _ h => clsR_keep hk hji (fun _ => hi) h⟩
theorem cls_post18 (ops : Array Oper) {B : Nat} {w : World} {g gb : Nat} {d s b m : Int} {code : ByteArray} {a0 a' : Act} {u : Nat → Value} {v : Value} {V W' : World} (h19 : ∀ o', ops[19]? = some o' → ∃ e ∈ o'.after, Region.binds .any e = true ∧ e.on = 18) (ha : a' = putsA a0 (updV u 18 v) clsSlots) (hC : ClSt B w g gb d s b m W' ∧ gb + 2 ≤ W'.heap.size) (hR : ClsR g gb s code 18 (updV u 18 v) W') (hk : ∀ (c : Nat) (o : Obj), V.heap[c]? = some o → gb + 2 ≤ c → W'.heap[c]? = some o) :
    ∃ v, a' = putsA a0 (updV u 18 v) clsSlots ∧ (ClSt B w g gb d s b m W' ∧ gb + 2 ≤ W'.heap.size) ∧ ClsR g gb s code 18 (updV u 18 v) W' ∧ ∀ (j : Nat) (o' : Oper), ops[j]? = some o' → j ≠ 18 → (∀ e ∈ o'.after, Region.binds .any e = true → e.on ≠ 18) → ClsR g gb s code j u V → ClsR g gb s code j (updV u 18 v) W' :=
  ⟨v, ha, hC, hR, fun j o' ho hji hd h => clsR_keep hk hji (fun e => by subst e; obtain ⟨e, he, hb, hon⟩ := h19 o' ho; exact absurd hon (hd e he hb)) h⟩
theorem wp_mv {P : Program} {o : Oper} {a : Act} {w : World} {K : Act → World → Prop} {Q : Exit → Act → World → Prop} (x : Operand) (h : o.op = .move x) (hk : K (a.put o.dst (a.eval x)) w) : OpWp P o a w K Q := by
  constructor
  unfold Oper.wp
  rw [show (execOp a.eval o).run P w = .ok (.value (a.eval x)) w from by unfold execOp; rw [h]; rfl]
  exact hk
theorem wp_val {P : Program} {o : Oper} {a : Act} {w w' : World} {v : Value} {K : Act → World → Prop} {Q : Exit → Act → World → Prop} (h : (execOp a.eval o).run P w = .ok (.value v) w') (hk : K (a.put o.dst v) w') : OpWp P o a w K Q := by
  constructor
  unfold Oper.wp
  rw [h]
  exact hk
theorem wp_call {P : Program} {o : Oper} {a : Act} {w w' : World} {f : FuncId} {args : Array Value} {S : Value → World → Prop} {K : Act → World → Prop} {Q : Exit → Act → World → Prop} (h : (execOp a.eval o).run P w = .ok (.enter f args) w') (hc : Calls P f args w' fun e w'' => ∃ v, e = .returned v ∧ S v w'') (hk : ∀ v w'', S v w'' → K (a.put o.dst v) w'') : OpWp P o a w K Q := by
  constructor
  unfold Oper.wp
  rw [h]
  exact hc.mono (by rintro e w'' ⟨v, rfl, hs⟩; exact hk v w'' hs)
theorem wp_skip {P : Program} {o : Oper} {a : Act} {w w' : World} {K : Act → World → Prop} {Q : Exit → Act → World → Prop} (h : (execOp a.eval o).run P w = .ok .skip w') (hk : K (a.put o.dst undef) w') : OpWp P o a w K Q := by
  constructor
  unfold Oper.wp
  rw [h]
  exact hk
theorem put_none (a : Act) : a.put none undef = a := rfl
theorem getD_mem {α : Type} {L : List α} {v : Nat} {d : α} (h : v < L.length) : L.getD v d ∈ L := by
  rw [List.getD_eq_getElem?_getD, List.getElem?_eq_getElem h]
  exact List.getElem_mem h
/-- A class written whole. -/
def setC (V : World) (c : Nat) (q : Nine) : World := ((((((((V.setCell ⟨c, 0, none⟩ (.string q.z)).setCell ⟨c, 1, none⟩ (.string q.co)).setCell ⟨c, 2, none⟩ (.string q.pa)).setCell ⟨c, 3, none⟩ (.int .i64 q.n)).setCell ⟨c, 4, none⟩ (.slice q.A4 q.n4 q.c4)).setCell ⟨c, 5, none⟩ (.int .i64 q.m)).setCell ⟨c, 6, none⟩ (.slice q.A6 q.n6 q.c6)).setCell ⟨c, 7, none⟩ (.slice q.A7 q.n7 q.c7)).setCell ⟨c, 8, none⟩ (.slice q.A8 q.n8 q.c8)
theorem setC_box {V : World} {c : Nat} {q : Nine} (h : CBox V c q) (r : Nine) : CBox (setC V c r) c r :=
  ((((((((h.set0 r.z).set1 r.co).set2 r.pa).set3 r.n).set4 r.A4 r.n4 r.c4).set5 r.m).set6 r.A6 r.n6 r.c6).set7 r.A7 r.n7 r.c7).set8 r.A8 r.n8 r.c8
theorem setC_other {V : World} {c : Nat} (r : Nine) : ∀ (x : Nat) (o : Obj), V.heap[x]? = some o → x ≠ c → (setC V c r).heap[x]? = some o := fun x o h hne => by
  unfold setC
  repeat rw [heap_setCell_other _ _ _ _ (show x ≠ _ from hne)]
  exact h
theorem setC_size {V : World} {c : Nat} (r : Nine) : (setC V c r).heap.size = V.heap.size := by unfold setC; simp only [World.size_setCell]
theorem setC_st {B : Nat} {w W : World} {g gb c : Nat} {d s b m : Int} (h : ClSt B w g gb d s b m W) (hp : w.heap.size ≤ c) (hne : gb + 2 ≤ c) (r : Nine) : ClSt B w g gb d s b m (setC W c r) :=
  ((((((((h.set hp hne _).set hp hne _).set hp hne _).set hp hne _).set hp hne _).set hp hne _).set hp hne _).set hp hne _).set hp hne _
theorem keep_alloc {V : World} {gb : Nat} (o : Obj) : ∀ (c : Nat) (x : Obj), V.heap[c]? = some x → gb + 2 ≤ c → (V.alloc o).heap[c]? = some x := fun _ _ h _ => block_after h
theorem keep_same {V : World} {gb : Nat} : ∀ (c : Nat) (x : Obj), V.heap[c]? = some x → gb + 2 ≤ c → V.heap[c]? = some x := fun _ _ h _ => h
/-- A class that is being made: its box and its rows. -/
structure ClS (B : Nat) (w : World) (g gb c : Nat) (d s b m : Int) (q : Nine) (ps : List Int) (fs : List ByteArray) (ss : List (Int × Int)) (W : World) : Prop where
  cst : ClSt B w g gb d s b m W
  box : CBox W c q
  rps : Own kInt 3 [] 0 (gb + 2) W (.slice q.A4 q.n4 q.c4) ps
  rfs : Own kStr 9 [] 0 (gb + 2) W (.slice q.A6 q.n6 q.c6) fs
  rss : Own kStart 95 [] 0 (gb + 2) W (.slice q.A8 q.n8 q.c8) ss
section
variable {B : Nat} {w W W' : World} {g gb c : Nat} {d s b m : Int} {q : Nine} {ps : List Int} {fs : List ByteArray} {ss : List (Int × Int)}
theorem ClS.later (h : ClS B w g gb c d s b m q ps fs ss W) (hb : Below W.heap.size W W') : ClS B w g gb c d s b m q ps fs ss W' := ⟨h.cst.later hb, h.box.later hb, h.rps.later hb, h.rfs.later hb, h.rss.later hb⟩
theorem ClS.alloc (h : ClS B w g gb c d s b m q ps fs ss W) (o : Obj) : ClS B w g gb c d s b m q ps fs ss (W.alloc o) := h.later (ext_alloc (Below.refl _ _) _)
theorem ClS.drew (h : ClS B w g gb c d s b m q ps fs ss W) : ClS B w g gb c d s b m q ps fs ss W.drew := h.later (ext_drew (Below.refl _ _))
theorem ClS.on (h : ClS B w g gb c d s b m q ps fs ss W) (T : Thrown B W g W') (h1 : gb ≠ g) (h2 : c ≠ g) (h3 : g < gb + 2) : ClS B w g gb c d s b m q ps fs ss W' := ⟨h.cst.on T h1, h.box.thrown T h2, h.rps.tossed T h3, h.rfs.tossed T h3, h.rss.tossed T h3⟩
theorem own_setC {α : Type} {K : Kind α} {t : TypeId} {C i : Nat} {v u : Value} {l : List α} (h : Own K t [] 0 C W v l) (hc : CBox W c q) (ht : t ≠ 65) : Own K t [] 0 C (W.setCell ⟨c, i, none⟩ u) v l :=
  h.only (only_setCell (World.grownBy.refl _ _) (Or.inl rfl) _) hc (Nat.zero_le _) ht (by simp)
theorem ClS.put4 (hc : ClSt B w g gb d s b m W) (hb : CBox W c q) (hf : Own kStr 9 [] 0 (gb + 2) W (.slice q.A6 q.n6 q.c6) fs) (hs : Own kStart 95 [] 0 (gb + 2) W (.slice q.A8 q.n8 q.c8) ss) (hw : w.heap.size ≤ c) (hg : gb + 2 ≤ c) {A : Option Addr} {n k : Nat} {ps' : List Int} (ho : Own kInt 3 [] 0 (gb + 2) W (.slice A n k) ps') :
    ClS B w g gb c d s b m { q with A4 := A, n4 := n, c4 := k } ps' fs ss (W.setCell ⟨c, 4, none⟩ (.slice A n k)) :=
  ⟨hc.set hw hg _, hb.set4 _ _ _, own_setC ho hb (by decide), own_setC hf hb (by decide), own_setC hs hb (by decide)⟩
theorem ClS.put5 (h : ClS B w g gb c d s b m q ps fs ss W) (hw : w.heap.size ≤ c) (hg : gb + 2 ≤ c) (x : Int) : ClS B w g gb c d s b m { q with m := x } ps fs ss (W.setCell ⟨c, 5, none⟩ (.int .i64 x)) :=
  ⟨h.cst.set hw hg _, h.box.set5 _, own_setC h.rps h.box (by decide), own_setC h.rfs h.box (by decide), own_setC h.rss h.box (by decide)⟩
theorem ClS.put6 (h : ClS B w g gb c d s b m q ps fs ss W) (hw : w.heap.size ≤ c) (hg : gb + 2 ≤ c) {A : Option Addr} {n k : Nat} {fs' : List ByteArray} (ho : Own kStr 9 [] 0 (gb + 2) W (.slice A n k) fs') :
    ClS B w g gb c d s b m { q with A6 := A, n6 := n, c6 := k } ps fs' ss (W.setCell ⟨c, 6, none⟩ (.slice A n k)) :=
  ⟨h.cst.set hw hg _, h.box.set6 _ _ _, own_setC h.rps h.box (by decide), own_setC ho h.box (by decide), own_setC h.rss h.box (by decide)⟩
theorem ClS.put7 (h : ClS B w g gb c d s b m q ps fs ss W) (hw : w.heap.size ≤ c) (hg : gb + 2 ≤ c) (A : Option Addr) (n k : Nat) :
    ClS B w g gb c d s b m { q with A7 := A, n7 := n, c7 := k } ps fs ss (W.setCell ⟨c, 7, none⟩ (.slice A n k)) :=
  ⟨h.cst.set hw hg _, h.box.set7 _ _ _, own_setC h.rps h.box (by decide), own_setC h.rfs h.box (by decide), own_setC h.rss h.box (by decide)⟩
theorem ClS.put8 (hc : ClSt B w g gb d s b m W) (hb : CBox W c q) (hp : Own kInt 3 [] 0 (gb + 2) W (.slice q.A4 q.n4 q.c4) ps) (hf : Own kStr 9 [] 0 (gb + 2) W (.slice q.A6 q.n6 q.c6) fs) (hw : w.heap.size ≤ c) (hg : gb + 2 ≤ c) {A : Option Addr} {n k : Nat} {ss' : List (Int × Int)} (ho : Own kStart 95 [] 0 (gb + 2) W (.slice A n k) ss') :
    ClS B w g gb c d s b m { q with A8 := A, n8 := n, c8 := k } ps fs ss' (W.setCell ⟨c, 8, none⟩ (.slice A n k)) :=
  ⟨hc.set hw hg _, hb.set8 _ _ _, own_setC hp hb (by decide), own_setC hf hb (by decide), own_setC ho hb (by decide)⟩
theorem ClSt.grown {v : Value} (h : ClSt B w g gb d s b m W) (hg : W.grownBy W' v.ownBlock) (hw : w.heap.size ≤ gb) (hlow : ∀ y, v.ownBlock = some y → gb + 2 ≤ y) : ClSt B w g gb d s b m W' := by
  have hne : some gb ≠ v.ownBlock := fun e => by have := hlow gb e.symm; omega
  exact ⟨h.thrown.grown hg (fun y hy => by have := hlow y hy; omega), ⟨cell_grown h.grid.c0 hg hne, cell_grown h.grid.c1 hg hne, cell_grown h.grid.c2 hg hne, cell_grown h.grid.c3 hg hne⟩, h.lo, h.res.grown hg (fun e => by have := hlow _ e; omega)⟩
theorem CBox.rowed {α : Type} {K : Kind α} {t : TypeId} {C : Nat} {v : Value} {l : List α} (h : CBox W c q) (ho : Own K t [] 0 C W v l) (ht : t ≠ 65) (hg : W.grownBy W' v.ownBlock) : CBox W' c q := by
  refine h.grown hg fun e => ?_
  obtain ⟨vss, -, ho, -⟩ := ho
  rcases ho.2 with ⟨e2, _⟩ | ⟨y, cap', cur', e2, _, hy, _⟩
  · rw [e2] at e; simp [Value.ownBlock] at e
  · rw [e2] at e
    have : y = c := by simpa [Value.ownBlock] using e
    subst this
    unfold CBox at h
    rw [hy] at h
    injection h with h3
    injection h3 with _ h4
    exact ht h4
theorem Own.rowed {α β : Type} {K : Kind α} {L : Kind β} {t t2 : TypeId} {C D : Nat} {v u : Value} {l : List α} {k : List β} (h : Own L t2 [] 0 D W u k) (ho : Own K t [] 0 C W v l) (ht : t2 ≠ t) (hg : W.grownBy W' v.ownBlock) : Own L t2 [] 0 D W' u k := by
  obtain ⟨vss, -, ho, -⟩ := ho
  exact h.grown ho (Nat.zero_le _) hg ht (by simp)
end
theorem strs_at {B gv gd : Nat} {zs : List ByteArray} {W : World} (h : StrsVar B gv zs W) (hB : B ≤ gd) : ∃ F k, W.cell? ⟨gv, 0, none⟩ = some (.slice F zs.length k) ∧ At kStr (fun b => b ≠ gd) W F zs := by
  obtain ⟨b, off, k, h1, h2, -, h4⟩ := h
  refine ⟨_, k, h1, fun hn => ⟨b, off, rfl, by omega, ?_, fun j x hx => ⟨[.string x], rfl, fun i u hu => ?_⟩⟩⟩
  · have := h4 0 _ (List.getElem?_eq_getElem hn)
    exact World.block_lt_of_cell? _ _ this
  · match i, hu with
    | 0, hu => simp at hu; subst hu; simpa [kStr] using h4 j x hx
    | i + 1, hu => simp at hu
/-- A class that is being made, of what it may be. -/
def ClP (B : Nat) (w : World) (g gb c : Nat) (d s b m : Int) (N : Nat) (code : ByteArray) (st : Int → List (Int × Int) → Prop) (W : World) : Prop :=
  ∃ q ps fs ss, q.z = code ∧ q.co ∈ mcourses ∧ q.pa ∈ partsL ∧ (1 ≤ q.n ∧ q.n ≤ 2 ∧ q.n ≤ s) ∧ PatMade N ps ∧ (0 ≤ q.m ∧ q.m ≤ 30) ∧ fs.Sublist featuresL ∧ (q.A7 = none ∧ q.n7 = 0 ∧ q.c7 = 0) ∧ st q.n ss ∧ ClS B w g gb c d s b m q ps fs ss W
/-! The loop of the starts. -/
theorem Own.len_eq {α : Type} {K : Kind α} {t : TypeId} {ts : List TypeId} {B0 B n k : Nat} {w : World} {A : Option Addr} {l : List α} (h : Own K t ts B0 B w (.slice A n k) l) : n = l.length := by
  obtain ⟨A', c', e⟩ := h.form
  injection e
def StP (d s : Int) (dy : Nat) (len : Int) (ss : List (Int × Int)) : Prop := ss.Pairwise (fun a b => a.1 < b.1) ∧ ∀ x ∈ ss, 0 ≤ x.1 ∧ x.1 < d ∧ x.1 < (dy : Int) ∧ 0 ≤ x.2 ∧ x.2 ≤ s - len
theorem StP.snoc {d s : Int} {dy v1 v2 : Nat} {len : Int} {ss : List (Int × Int)} (h : StP d s dy len ss) (h1 : dy ≤ v1) (h2 : (v1 : Int) < d) (h3 : (v2 : Int) ≤ s - len) : StP d s (v1 + 1) len (ss ++ [((v1 : Int), (v2 : Int))]) := by
  refine ⟨?_, fun x hx => ?_⟩
  · rw [List.pairwise_append]
    refine ⟨h.1, by simp, fun x hx y hy => ?_⟩
    simp at hy
    subst hy
    have := (h.2 x hx).2.2.1
    show x.1 < (v1 : Int)
    omega
  · rcases List.mem_append.1 hx with hx | hx
    · obtain ⟨a, b, c, e, f⟩ := h.2 x hx
      exact ⟨a, b, by omega, e, f⟩
    · simp at hx
      subst hx
      exact ⟨by show (0 : Int) ≤ (v1 : Int); omega, h2, by show (v1 : Int) < ((v1 + 1 : Nat) : Int); omega, by show (0 : Int) ≤ (v2 : Int); omega, h3⟩
def ClL (B : Nat) (w : World) (g gb c : Nat) (d s b m : Int) (N : Nat) (code : ByteArray) (v11 v12 : Value) (wr : World) : Prop :=
  ∃ k dy : Nat, v11 = .int .i64 (dy : Int) ∧ v12 = .int .i64 (k : Int) ∧ (dy : Int) ≤ d ∧ k ≤ 3 ∧ ClP B w g gb c d s b m N code (fun len ss => ss.length + k ≤ 3 ∧ StP d s dy len ss) wr
/-- What holds while a start is thrown: Z: where new blocks begin. -/
abbrev SS (B : Nat) (w : World) (g gb c : Nat) (d s b m : Int) (q : Nine) (ps : List Int) (fs : List ByteArray) (ss : List (Int × Int)) (Z : Nat) (W : World) : Prop :=
  W.cell? ⟨gb, 1, none⟩ = some (.int .i64 s) ∧ W.cell? ⟨c, 3, none⟩ = some (.int .i64 q.n) ∧ Z ≤ W.heap.size ∧ (∀ x, Z ≤ x → x < W.heap.size → W.cell? ⟨x, 0, none⟩ = some (cellOf W x 0)) ∧ (∀ x, Z ≤ x → x < W.heap.size → W.cell? ⟨x, 1, none⟩ = some (cellOf W x 1)) ∧ (∀ x j, Z ≤ x → x < W.heap.size → W.frozen? ⟨x, j, none⟩ = false) ∧ ClS B w g gb c d s b m q ps fs ss W
section
variable {B : Nat} {w W W' : World} {g gb c Z : Nat} {d s b m : Int} {q : Nine} {ps : List Int} {fs : List ByteArray} {ss : List (Int × Int)}
theorem SS.cls (h : SS B w g gb c d s b m q ps fs ss Z W) : ClS B w g gb c d s b m q ps fs ss W := h.2.2.2.2.2.2
theorem SS.of (h : ClS B w g gb c d s b m q ps fs ss W) (hz : Z ≤ W.heap.size) (h1 : ∀ x, Z ≤ x → x < W.heap.size → (∃ v, W.cell? ⟨x, 0, none⟩ = some v) ∧ (∃ v, W.cell? ⟨x, 1, none⟩ = some v) ∧ ∀ j, W.frozen? ⟨x, j, none⟩ = false) : SS B w g gb c d s b m q ps fs ss Z W :=
  ⟨h.cst.grid.c1, h.box.c3, hz, fun x a b => by obtain ⟨⟨v, hv⟩, -, -⟩ := h1 x a b; exact cellOf_eq hv, fun x a b => by obtain ⟨-, ⟨v, hv⟩, -⟩ := h1 x a b; exact cellOf_eq hv, fun x j a b => (h1 x a b).2.2 j, h⟩
theorem SS.at (h : SS B w g gb c d s b m q ps fs ss Z W) : ∀ x, Z ≤ x → x < W.heap.size → (∃ v, W.cell? ⟨x, 0, none⟩ = some v) ∧ (∃ v, W.cell? ⟨x, 1, none⟩ = some v) ∧ ∀ j, W.frozen? ⟨x, j, none⟩ = false := fun x a b =>
  ⟨⟨_, h.2.2.2.1 x a b⟩, ⟨_, h.2.2.2.2.1 x a b⟩, fun j => h.2.2.2.2.2.1 x j a b⟩
theorem SS.drew (h : SS B w g gb c d s b m q ps fs ss Z W) : SS B w g gb c d s b m q ps fs ss Z W.drew := ⟨h.1, h.2.1, h.2.2.1, fun x a b => cellOf_eq (W := W.drew) (h.2.2.2.1 x a b), fun x a b => cellOf_eq (W := W.drew) (h.2.2.2.2.1 x a b), h.2.2.2.2.2.1, h.cls.drew⟩
theorem SS.alloc (h : SS B w g gb c d s b m q ps fs ss Z W) (x0 x1 : Value) : SS B w g gb c d s b m q ps fs ss Z (W.alloc (.cells #[x0, x1] 95)) := by
  refine SS.of (h.cls.alloc _) (by rw [World.size_alloc]; have := h.2.2.1; omega) fun x a b => ?_
  rw [World.size_alloc] at b
  by_cases e : x = W.heap.size
  · subst e
    exact ⟨⟨x0, by simp⟩, ⟨x1, by simp⟩, fun j => by simp⟩
  · obtain ⟨⟨v0, h0⟩, ⟨v1, h1⟩, h2⟩ := h.at x a (by omega)
    have hbl := ext_alloc (Below.refl W.heap.size W) (.cells #[x0, x1] 95)
    exact ⟨⟨v0, cell_later hbl h0⟩, ⟨v1, cell_later hbl h1⟩, fun j => (hbl.frozen (p := ⟨x, j, none⟩) (by show x < W.heap.size; omega)).trans (h2 j)⟩
theorem SS.on (h : SS B w g gb c d s b m q ps fs ss Z W) (T : Thrown B W g W') (hs : W'.heap.size = W.heap.size) (h1 : g < gb) (h2 : gb + 2 ≤ c) (h3 : g < Z) : SS B w g gb c d s b m q ps fs ss Z W' := by
  refine SS.of (h.cls.on T (by omega) (by omega) (by omega)) (by rw [hs]; exact h.2.2.1) fun x a b => ?_
  obtain ⟨⟨v0, k0⟩, ⟨v1, k1⟩, k2⟩ := h.at x a (by omega)
  have hne : x ≠ g := by omega
  exact ⟨⟨v0, T.cell hne k0⟩, ⟨v1, T.cell hne k1⟩, fun j => (World.frozen?_of_block (w := W) (T.only.block x (by omega) (fun e => hne (by injection e)))).trans (k2 j)⟩
theorem own_set2 {α : Type} {K : Kind α} {t : TypeId} {C x : Nat} {v : Value} {l : List α} (h : Own K t [] 0 C W v l) (hx : ∀ y, v.ownBlock = some y → y ≠ x) (j : Nat) (u : Value) : Own K t [] 0 C (W.setCell ⟨x, j, none⟩ u) v l := by
  refine h.kept (only_setCell (g := x) (World.grownBy.refl _ _) (Or.inl rfl) _) ?_ (fun y hy => ⟨Nat.zero_le _, fun ⟨_, cs, t', _, ht⟩ => by simp at ht⟩)
  cases hv : v.ownBlock with
  | none => exact .inl rfl
  | some y => exact .inr fun e => hx y hv (by injection e)
/-- A box at or behind Z is written. -/
theorem SS.set2 (h : SS B w g gb c d s b m q ps fs ss Z W) (hw : w.heap.size ≤ gb) (hgb : gb + 2 ≤ Z) (hcZ : c < Z) (hr : ∀ v ∈ [Value.slice q.A4 q.n4 q.c4, .slice q.A6 q.n6 q.c6, .slice q.A8 q.n8 q.c8], ∀ y, v.ownBlock = some y → y < Z) {x : Nat} (hx : Z ≤ x) (j : Nat) (u : Value) : SS B w g gb c d s b m q ps fs ss Z (W.setCell ⟨x, j, none⟩ u) := by
  obtain ⟨k1, k2, k3, k4, k5⟩ := h.cls
  refine SS.of ⟨k1.set (by omega) (by omega) u, k2.set_other (by omega) j u, own_set2 k3 (fun y hy => by have := hr _ (by simp) y hy; omega) j u, own_set2 k4 (fun y hy => by have := hr _ (by simp) y hy; omega) j u, own_set2 k5 (fun y hy => by have := hr _ (by simp) y hy; omega) j u⟩ (by rw [size_set]; exact h.2.2.1) fun y a b => ?_
  rw [size_set] at b
  obtain ⟨⟨v0, h0⟩, ⟨v1, h1⟩, h2⟩ := h.at y a b
  exact ⟨cell?_setCell_some h0, cell?_setCell_some h1, fun i => by rw [World.frozen?_setCell]; exact h2 i⟩
theorem SS.two (h : SS B w g gb c d s b m q ps fs ss Z W) (hw : w.heap.size ≤ gb) (hgb : gb + 2 ≤ Z) (hcZ : c < Z) (hr : Hid (∀ v ∈ [Value.slice q.A4 q.n4 q.c4, .slice q.A6 q.n6 q.c6, .slice q.A8 q.n8 q.c8], ∀ y, v.ownBlock = some y → y < Z)) {x : Nat} (hx : Z ≤ x) (u0 u1 : Value) : SS B w g gb c d s b m q ps fs ss Z ((W.setCell ⟨x, 0, none⟩ u0).setCell ⟨x, 1, none⟩ u1) :=
  SS.set2 (SS.set2 h hw hgb hcZ hr.out hx 0 u0) hw hgb hcZ hr.out hx 1 u1
end
def ThrS (B : Nat) (w : World) (g gb c : Nat) (d s b m : Int) (q : Nine) (ps : List Int) (fs : List ByteArray) (ss : List (Int × Int)) (Z : Nat) (n : Int) (V : World) (e : Ending) (V' : World) : Prop :=
  ∃ v : Nat, e = .returned (.int .i64 (v : Int)) ∧ (v : Int) < n ∧ V'.heap.size = V.heap.size ∧ SS B w g gb c d s b m q ps fs ss Z V'
theorem throwS {B : Nat} {w : World} {g gb c : Nat} {d s b m : Int} {q : Nine} {ps : List Int} {fs : List ByteArray} {ss : List (Int × Int)} {Z : Nat} (h1 : g < gb) (h2 : gb + 2 ≤ c) (h3 : g < Z) (n : Int) (hn1 : 1 ≤ n) (hn : n ≤ 1000) (V : World) (h : SS B w g gb c d s b m q ps fs ss Z V) :
    Calls Tryz.prog 13 #[.pointer (some ⟨g, 0, none⟩), .int .i64 n] V fun e V' => ThrS B w g gb c d s b m q ps fs ss Z n V e V' :=
  (next_walk B g n (by omega) V h.cls.cst.thrown.dice).mono fun e V' ⟨v, he, p, p2, _, T, hz⟩ => by
    obtain ⟨v, rfl⟩ := Int.eq_ofNat_of_zero_le p
    exact ⟨v, he, p2 hn1, hz, h.on T hz h1 h2 h3⟩
/-- What the loop's first statement leaves. -/
def StCut (B : Nat) (w : World) (g gb c : Nat) (d s b m : Int) (q : Nine) (ps : List Int) (fs : List ByteArray) (ss : List (Int × Int)) (Z dy : Nat) (s13 : Value) (W : World) : Prop :=
  ∃ x v1 v2 : Nat, s13 = .pointer (some ⟨x, 0, none⟩) ∧ Z ≤ x ∧ W.cell? ⟨x, 0, none⟩ = some (.int .i64 (v1 : Int)) ∧ W.cell? ⟨x, 1, none⟩ = some (.int .i64 (v2 : Int)) ∧ dy ≤ v1 ∧ v1 ≤ dy + 1 ∧ (v2 : Int) ≤ s - q.n ∧ ClS B w g gb c d s b m q ps fs ss W
theorem stCut_alloc {B : Nat} {w W : World} {g gb c : Nat} {d s b m : Int} {q : Nine} {ps : List Int} {fs : List ByteArray} {ss : List (Int × Int)} {Z dy x u1 v2 : Nat} (h : SS B w g gb c d s b m q ps fs ss Z W) (hx : x = W.heap.size) (h1 : (u1 : Int) < 2) (h3 : (v2 : Int) < s - q.n + 1) :
    StCut B w g gb c d s b m q ps fs ss Z dy (.pointer (some ⟨x, 0, none⟩)) (W.alloc (.cells #[.int .i64 ((dy : Int) + (u1 : Int)), .int .i64 (v2 : Int)] 95)) := by
  subst hx
  exact ⟨_, dy + u1, v2, rfl, h.2.2.1, by simp, by simp, by omega, by omega, by omega, h.cls.alloc _⟩
theorem stCut_set {B : Nat} {w W : World} {g gb c : Nat} {d s b m : Int} {q : Nine} {ps : List Int} {fs : List ByteArray} {ss : List (Int × Int)} {Z dy x u1 v2 : Nat} (h : SS B w g gb c d s b m q ps fs ss Z W) (hw : w.heap.size ≤ gb) (hgb : gb + 2 ≤ Z) (hcZ : c < Z) (hr : ∀ v ∈ [Value.slice q.A4 q.n4 q.c4, .slice q.A6 q.n6 q.c6, .slice q.A8 q.n8 q.c8], ∀ y, v.ownBlock = some y → y < Z) (hx : Z ≤ x) (hlt : x < W.heap.size) (h1 : (u1 : Int) < 2) (h3 : (v2 : Int) < s - q.n + 1) :
    StCut B w g gb c d s b m q ps fs ss Z dy (.pointer (some ⟨x, 0, none⟩)) ((W.setCell ⟨x, 0, none⟩ (.int .i64 ((dy : Int) + (u1 : Int)))).setCell ⟨x, 1, none⟩ (.int .i64 (v2 : Int))) := by
  have h2 := (SS.set2 h hw hgb hcZ hr hx 0 (.int .i64 ((dy : Int) + (u1 : Int))))
  have h4 := SS.set2 h2 hw hgb hcZ hr hx 1 (.int .i64 (v2 : Int))
  obtain ⟨⟨y0, k0⟩, ⟨y1, k1⟩, -⟩ := h.at x hx hlt
  refine ⟨x, dy + u1, v2, rfl, hx, ?_, ?_, by omega, by omega, by omega, h4.cls⟩
  · rw [World.cell?_setCell_other _ _ _ _ (fun e => by injection e with _ e _; exact absurd e (by decide))]
    have := World.cell?_setCell_same W ⟨x, 0, none⟩ (.int .i64 ((dy : Int) + (u1 : Int))) (h := k0)
    simpa using this
  · have k1' : (W.setCell ⟨x, 0, none⟩ (.int .i64 ((dy : Int) + (u1 : Int)))).cell? ⟨x, 1, none⟩ = some y1 := by
      rw [World.cell?_setCell_other _ _ _ _ (fun e => by injection e with _ e _; exact absurd e (by decide))]; exact k1
    exact World.cell?_setCell_same _ ⟨x, 1, none⟩ (.int .i64 (v2 : Int)) (h := k1')
/-! The result. -/
theorem own_setC9 {α : Type} {K : Kind α} {t : TypeId} {C c : Nat} {v : Value} {l : List α} {W : World} {r : Nine} (h : Own K t [] 0 C W v l) (hc : CBox W c r) (ht : t ≠ 65) (p : Nine) : Own K t [] 0 C (setC W c p) v l := by
  have k0 := own_setC (i := 0) (u := .string p.z) h hc ht
  have c0 := hc.set0 p.z
  have k1 := own_setC (i := 1) (u := .string p.co) k0 c0 ht
  have c1 := c0.set1 p.co
  have k2 := own_setC (i := 2) (u := .string p.pa) k1 c1 ht
  have c2 := c1.set2 p.pa
  have k3 := own_setC (i := 3) (u := .int .i64 p.n) k2 c2 ht
  have c3 := c2.set3 p.n
  have k4 := own_setC (i := 4) (u := .slice p.A4 p.n4 p.c4) k3 c3 ht
  have c4 := c3.set4 p.A4 p.n4 p.c4
  have k5 := own_setC (i := 5) (u := .int .i64 p.m) k4 c4 ht
  have c5 := c4.set5 p.m
  have k6 := own_setC (i := 6) (u := .slice p.A6 p.n6 p.c6) k5 c5 ht
  have c6 := c5.set6 p.A6 p.n6 p.c6
  have k7 := own_setC (i := 7) (u := .slice p.A7 p.n7 p.c7) k6 c6 ht
  have c7 := c6.set7 p.A7 p.n7 p.c7
  exact own_setC (i := 8) (u := .slice p.A8 p.n8 p.c8) k7 c7 ht
theorem thrown_setC {B : Nat} {w W : World} {g c : Nat} (h : Thrown B w g W) (hp : w.heap.size ≤ c) (r : Nine) : Thrown B w g (setC W c r) :=
  ((((((((h.set (p := ⟨c, 0, none⟩) hp _).set (p := ⟨c, 1, none⟩) hp _).set (p := ⟨c, 2, none⟩) hp _).set (p := ⟨c, 3, none⟩) hp _).set (p := ⟨c, 4, none⟩) hp _).set (p := ⟨c, 5, none⟩) hp _).set (p := ⟨c, 6, none⟩) hp _).set (p := ⟨c, 7, none⟩) hp _).set (p := ⟨c, 8, none⟩) hp _
theorem load_cls {w : World} {g : Nat} {q : Nine} (h : CBox w g q) : (loadVar 65 ⟨g, 0, none⟩).run Tryz.prog w = .ok (.agg (cboxV q)) w := by
  simp [go_sem, h.c0, h.c1, h.c2, h.c3, h.c4, h.c5, h.c6, h.c7, h.c8, cboxV]
theorem end_cls {fn : Func} {p : Tmp} (hr : fn.results = #[.cell p 65]) {Q : Ending → World → Prop} {act : Act} {w : World} (g : Nat) (q r : Nine) (hd : act.defers = []) (hp : act.tmps.getD p undef = .pointer (some ⟨g, 0, none⟩)) (h : CBox w g r)
    (hQ : Q (.returned (.agg (cboxV q))) (setC w g q)) : bodyPost Tryz.prog fn Q .ret act (setC w g q) := by
  refine bodyPost_ret (v := .agg (cboxV q)) ?_ hd hQ
  simp only [results, hr]
  simp [Sem.run_bind, Result.andThen, -Array.getD_eq_getD_getElem?]
  rw [hp]
  simp only [asAddr, Sem.run_pure]
  rw [load_cls (setC_box h q)]
theorem end_clsX {fn : Func} {p : Tmp} (hr : fn.results = #[.cell p 65]) {Q : Ending → World → Prop} {act : Act} {w : World} (g : Nat) (q r : Nine) (hd : act.defers = []) (hp : act.tmps.getD p undef = .pointer (some ⟨g, 0, none⟩)) (h : CBox w g r)
    (hQ : Q (.returned (.agg (cboxV q))) (setC w g q)) : bodyPost Tryz.prog fn Q .ret act (((((((((w.setCell ⟨g, 0, none⟩ (.string q.z)).setCell ⟨g, 1, none⟩ (.string q.co)).setCell ⟨g, 2, none⟩ (.string q.pa)).setCell ⟨g, 3, none⟩ (.int .i64 q.n)).setCell ⟨g, 4, none⟩ (.slice q.A4 q.n4 q.c4)).setCell ⟨g, 5, none⟩ (.int .i64 q.m)).setCell ⟨g, 6, none⟩ (.slice q.A6 q.n6 q.c6)).setCell ⟨g, 7, none⟩ (.slice q.A7 q.n7 q.c7)).setCell ⟨g, 8, none⟩ (.slice q.A8 q.n8 q.c8)) :=
  end_cls hr g q r hd hp h hQ
/-- A class was made. -/
def DCls (B N : Nat) (d s : Int) (code : ByteArray) (w : World) (g : Nat) (e : Ending) (w' : World) : Prop :=
  ∃ q ps fs ss, e = .returned (.agg (cboxV q)) ∧ q.z = code ∧ q.co ∈ mcourses ∧ q.pa ∈ partsL ∧ (1 ≤ q.n ∧ q.n ≤ 2 ∧ q.n ≤ s) ∧ PatMade N ps ∧ (0 ≤ q.m ∧ q.m ≤ 30) ∧ fs.Sublist featuresL ∧ StartsMade d s q.n ss ∧
    Own kInt 3 [] 0 w.heap.size w' (.slice q.A4 q.n4 q.c4) ps ∧ Own kStr 9 [] 0 w.heap.size w' (.slice q.A6 q.n6 q.c6) fs ∧ Own kStart 95 [] 0 w.heap.size w' (.slice q.A8 q.n8 q.c8) ss ∧ Thrown B w g w'
theorem dcls_of {B N : Nat} {d s b m : Int} {code : ByteArray} {w W : World} {g gb c : Nat} {q : Nine} {ps : List Int} {fs : List ByteArray} {ss : List (Int × Int)} (h1 : q.z = code) (h2 : q.co ∈ mcourses) (h3 : q.pa ∈ partsL) (h4 : 1 ≤ q.n ∧ q.n ≤ 2 ∧ q.n ≤ s) (h5 : PatMade N ps) (h6 : 0 ≤ q.m ∧ q.m ≤ 30) (h7 : fs.Sublist featuresL) (h8 : StartsMade d s q.n ss) (hS : ClS B w g gb c d s b m q ps fs ss W) (hgb : w.heap.size = gb) :
    DCls B N d s code w g (.returned (.agg (cboxV q))) (setC W (gb + 1) q) := by
  have hle : w.heap.size ≤ gb + 2 := by omega
  refine ⟨q, ps, fs, ss, rfl, h1, h2, h3, h4, h5, h6, h7, h8, ?_, ?_, ?_, thrown_setC hS.cst.thrown (by omega) q⟩
  · exact (own_setC9 hS.rps hS.cst.res (by decide) q).lower hle
  · exact (own_setC9 hS.rfs hS.cst.res (by decide) q).lower hle
  · exact (own_setC9 hS.rss hS.cst.res (by decide) q).lower hle
theorem StP.made {d s : Int} {dy : Nat} {len : Int} {ss : List (Int × Int)} (h : StP d s dy len ss) (h1 : 1 ≤ ss.length) (h3 : ss.length ≤ 3) : StartsMade d s len ss :=
  ⟨h1, h3, h.1, fun x hx => by obtain ⟨a, b, -, e, f⟩ := h.2 x hx; exact ⟨a, b, e, f⟩⟩
set_option maxHeartbeats 8000000 in
theorem dclass_walk (B g : Nat) (d s b m : Int) (N : Nat) (code : ByteArray) (hd : 1 ≤ d ∧ d ≤ 1000) (hs : 1 ≤ s ∧ s ≤ 900) (hN1 : 1 ≤ N) (hN : N ≤ 20) (w : World) (h : DiceOk B w g) (hFv : StrsVar B 0 featuresL w) :
    Calls Tryz.prog 25 #[.pointer (some ⟨g, 0, none⟩), .agg #[.int .i64 d, .int .i64 s, .int .i64 b, .int .i64 m], .int .i64 N, .string code] w fun e w' => DCls B N d s code w g e w' := by
  have hlt := h.lt
  have hBg := h.1
  have hb0 : Below w.heap.size w ((w.alloc (.cells #[.int .i64 d, .int .i64 s, .int .i64 b, .int .i64 m] 32)).alloc (.cells #[.string ⟨#[]⟩, .string ⟨#[]⟩, .string ⟨#[]⟩, .int .i64 0, .slice none 0 0, .int .i64 0, .slice none 0 0, .slice none 0 0, .slice none 0 0] 65)) := (by repeat (first | exact Below.refl _ _ | refine ext_alloc ?_ _ | refine ext_drewN ?_ _ | refine ext_drew ?_ | refine ext_trans ?_ (by assumption)))
  have hC : ClSt B w g w.heap.size d s b m ((w.alloc (.cells #[.int .i64 d, .int .i64 s, .int .i64 b, .int .i64 m] 32)).alloc (.cells #[.string ⟨#[]⟩, .string ⟨#[]⟩, .string ⟨#[]⟩, .int .i64 0, .slice none 0 0, .int .i64 0, .slice none 0 0, .slice none 0 0, .slice none 0 0] 65)) :=
    ⟨(Thrown.refl h).later hb0, (Box4.new w 32 (.int .i64 d) (.int .i64 s) (.int .i64 b) (.int .i64 m)).alloc _, hlt, heap_new2 _ _ _⟩
  obtain ⟨gb, hgb⟩ : ∃ gb, w.heap.size = gb := ⟨_, rfl⟩
  have hW8 : ((w.alloc (.cells #[.int .i64 d, .int .i64 s, .int .i64 b, .int .i64 m] 32)).alloc (.cells #[.string ⟨#[]⟩, .string ⟨#[]⟩, .string ⟨#[]⟩, .int .i64 0, .slice none 0 0, .int .i64 0, .slice none 0 0, .slice none 0 0, .slice none 0 0] 65)).heap.size = gb + 2 := by rw [World.size_alloc, World.size_alloc, hgb]
  have h8 : CBox ((w.alloc (.cells #[.int .i64 d, .int .i64 s, .int .i64 b, .int .i64 m] 32)).alloc (.cells #[.string ⟨#[]⟩, .string ⟨#[]⟩, .string ⟨#[]⟩, .int .i64 0, .slice none 0 0, .int .i64 0, .slice none 0 0, .slice none 0 0, .slice none 0 0] 65)) (gb + 1) (zeroN ⟨#[]⟩ ⟨#[]⟩ ⟨#[]⟩ 0) := by rw [← hgb]; exact heap_new2 _ _ _
  obtain ⟨W, hW⟩ : ∃ W, (w.alloc (.cells #[.int .i64 d, .int .i64 s, .int .i64 b, .int .i64 m] 32)).alloc (.cells #[.string ⟨#[]⟩, .string ⟨#[]⟩, .string ⟨#[]⟩, .int .i64 0, .slice none 0 0, .int .i64 0, .slice none 0 0, .slice none 0 0, .slice none 0 0] 65) = W := ⟨_, rfl⟩
  rw [hW] at hb0 hC hW8 h8
  rw [hgb] at hC hlt
  replace hgb := hide hgb
  replace hW := hide hW
  clear h
  go_enter Tryz.func25, Tryz.ntmps25
  go_upto_region 1 with fail
  rw [hW.out, hgb.out]
  have hCd : ClSt B w g gb d s b m W.drew := hC.drew
  refine region_abs fun a0 hsz hgt hea => ?_
  have hs121 : a0.tmps.size = 121 := hsz
  have e0 : a0.tmps.getD 0 undef = .pointer (some ⟨g, 0, none⟩) := hgt 0
  have e3 : a0.tmps.getD 3 undef = .string code := hgt 3
  have e5 : a0.tmps.getD 5 undef = .pointer (some ⟨gb, 0, none⟩) := hgt 5
  refine wp_region_puts (by kernel_rfl) clsSlots (fun V => ClSt B w g gb d s b m V ∧ gb + 2 ≤ V.heap.size) (ClsR g gb s code) (by kernel_rfl) ?h0 ⟨hCd, by rw [show W.drew.heap = W.heap from rfl, hW8]; exact Nat.le_refl _⟩ ?hstep ?hfin
  case h0 =>
    intro p hp
    simp only [clsSlots, List.mem_cons, List.not_mem_nil, or_false] at hp
    rcases hp with rfl | rfl | rfl | rfl | rfl | rfl | rfl | rfl | rfl | rfl | rfl | rfl | rfl | rfl | rfl | rfl | rfl | rfl | rfl <;> exact hgt _
  case hstep =>
    -- <sorry>
    clear hea hgt hsz hW hCd hC h8 hb0
    intro i o ho
    match i, ho with
    | 0, ho =>
      simp at ho
      subst ho
      rintro u V ⟨hV, hz⟩ hdep
      refine wp_mv (.tmp 3) rfl ?_
      have hput := fun v => putsA_put u v 0 14 clsSlots a0 clsSlots_ok (by decide +kernel)
      have he := (putsA_other u 3 clsSlots a0 (by decide +kernel)).trans e3
      dsimp only
      generalize putsA a0 u clsSlots = b1 at he hput ⊢
      refine cls_post _ (i := 0) (v := .string code) (by decide) ?_ ⟨hV, hz⟩ (upd_same _ _ _) keep_same
      exact (congrArg (fun x => b1.put (some 14) x) he).trans (hput _)
    | 1, ho =>
      simp at ho
      subst ho
      rintro u V ⟨hV, hz⟩ hdep
      have hput := fun v => putsA_put u v 1 15 clsSlots a0 clsSlots_ok (by decide +kernel)
      dsimp only
      generalize putsA a0 u clsSlots = b1 at hput ⊢
      refine wp_val (v := .slice (some ⟨V.heap.size, 0, none⟩) 3 3) (w' := V.alloc (.cells arrC 9)) ?run ?post
      case post => exact cls_post _ (i := 1) (v := .slice (some ⟨V.heap.size, 0, none⟩) 3 3) (by decide) (hput _) ⟨hV.alloc _, by rw [World.size_alloc]; omega⟩ ⟨V.heap.size, upd_same _ _ _, hz, heap_alloc_new _ _⟩ (keep_alloc _)
      case run =>
        clear hput hV hdep hz
        unfold arrC
        go_simp
    | 2, ho =>
      simp at ho
      subst ho
      rintro u V ⟨hV, hz⟩ hdep
      refine wp_mv (.tmp 0) rfl ?_
      have hput := fun v => putsA_put u v 2 16 clsSlots a0 clsSlots_ok (by decide +kernel)
      have he := (putsA_other u 0 clsSlots a0 (by decide +kernel)).trans e0
      dsimp only
      generalize putsA a0 u clsSlots = b1 at he hput ⊢
      refine cls_post _ (i := 2) (v := .pointer (some ⟨g, 0, none⟩)) (by decide) ?_ ⟨hV, hz⟩ (upd_same _ _ _) keep_same
      exact (congrArg (fun x => b1.put (some 16) x) he).trans (hput _)
    | 3, ho =>
      simp at ho
      subst ho
      rintro u V ⟨hV, hz⟩ hdep
      have d1 : u 2 = .pointer (some ⟨g, 0, none⟩) := hdep ⟨2, .data⟩ (by simp) rfl
      have hput := fun v => putsA_put u v 3 17 clsSlots a0 clsSlots_ok (by decide +kernel)
      have g1 := (putsA_get u 2 16 clsSlots a0 clsSlots_ok (by decide +kernel) (by rw [hs121]; decide)).trans d1
      have hc := nextC (B := B) (w := w) (g := g) (gb := gb) (d := d) (s := s) (b := b) (m := m) (V := V) 3 (by omega) (by omega) (by omega) hV
      dsimp only
      generalize putsA a0 u clsSlots = b1 at hput g1 ⊢
      refine wp_call (f := 13) (args := #[.pointer (some ⟨g, 0, none⟩), .int .i64 (3 : Nat)]) (w' := V) ?run (hc.mono fun e V' h => ?con) (S := fun v V' => NextC B w g gb d s b m 3 V (.returned v) V') ?post
      case con => obtain ⟨v, rfl, h⟩ := h; exact ⟨_, rfl, v, rfl, h⟩
      case run =>
        clear hc hput hV hdep hz
        go_simp
      case post =>
        rintro x V' ⟨v, hx, hv, hV', hk, hzz⟩
        injection hx with hx
        subst hx
        exact cls_post _ (i := 3) (v := .int .i64 (v : Int)) (by decide) (hput _) ⟨hV', by rw [hzz]; exact hz⟩ ⟨v, hv, upd_same _ _ _⟩ (fun c o h hc => hk c o h (by omega))
    | 4, ho =>
      simp at ho
      subst ho
      rintro u V ⟨hV, hz⟩ hdep
      obtain ⟨bb, d1, d2, d3⟩ := (show ∃ b, u 1 = .slice (some ⟨b, 0, none⟩) 3 3 ∧ gb + 2 ≤ b ∧ V.heap[b]? = some (.cells arrC 9 (0, 0)) from hdep ⟨1, .data⟩ (by simp) rfl)
      obtain ⟨v, d4, d5⟩ := (show ∃ v : Nat, v < 3 ∧ u 3 = .int .i64 (v : Int) from hdep ⟨3, .data⟩ (by simp) rfl)
      have hput := fun v => putsA_put u v 4 18 clsSlots a0 clsSlots_ok (by decide +kernel)
      have g1 := (putsA_get u 1 15 clsSlots a0 clsSlots_ok (by decide +kernel) (by rw [hs121]; decide)).trans d1
      have g2 := (putsA_get u 3 17 clsSlots a0 clsSlots_ok (by decide +kernel) (by rw [hs121]; decide)).trans d5
      have hv0 : (0 : Int) ≤ (v : Int) := by omega
      have hv1 : (v : Int) < 3 := by omega
      dsimp only
      generalize putsA a0 u clsSlots = b1 at hput g1 g2 ⊢
      refine wp_val (v := .pointer (some ⟨bb, v, none⟩)) (w' := V) ?run ?post
      case post => exact cls_post _ (i := 4) (v := .pointer (some ⟨bb, v, none⟩)) (by decide) (hput _) ⟨hV, hz⟩ ⟨bb, v, d4, upd_same _ _ _, d2, d3⟩ keep_same
      case run =>
        clear hput hV hdep hz d1 d3 d5
        go_simp
    | 5, ho =>
      simp at ho
      subst ho
      rintro u V ⟨hV, hz⟩ hdep
      obtain ⟨bb, v, d4, d1, d2, d3⟩ := (show ∃ b v : Nat, v < 3 ∧ u 4 = .pointer (some ⟨b, v, none⟩) ∧ gb + 2 ≤ b ∧ V.heap[b]? = some (.cells arrC 9 (0, 0)) from hdep ⟨4, .data⟩ (by simp) rfl)
      have hput := fun v => putsA_put u v 5 19 clsSlots a0 clsSlots_ok (by decide +kernel)
      have g1 := (putsA_get u 4 18 clsSlots a0 clsSlots_ok (by decide +kernel) (by rw [hs121]; decide)).trans d1
      have hcell := arrC_at d3 d4
      have hmem : mcourses.getD v ⟨#[]⟩ ∈ mcourses := getD_mem d4
      dsimp only
      generalize putsA a0 u clsSlots = b1 at hput g1 ⊢
      refine wp_val (v := .string (mcourses.getD v ⟨#[]⟩)) (w' := V) ?run ?post
      case post => exact cls_post _ (i := 5) (v := .string (mcourses.getD v ⟨#[]⟩)) (by decide) (hput _) ⟨hV, hz⟩ ⟨_, hmem, upd_same _ _ _⟩ keep_same
      case run =>
        clear hput hV hdep hz d1 d3 hmem
        generalize mcourses.getD v ⟨#[]⟩ = zz at hcell ⊢
        go_simp
    | 6, ho =>
      simp at ho
      subst ho
      rintro u V ⟨hV, hz⟩ hdep
      have hput := fun v => putsA_put u v 6 20 clsSlots a0 clsSlots_ok (by decide +kernel)
      dsimp only
      generalize putsA a0 u clsSlots = b1 at hput ⊢
      refine wp_val (v := .slice (some ⟨V.heap.size, 0, none⟩) 2 2) (w' := V.alloc (.cells arrP 9)) ?run ?post
      case post => exact cls_post _ (i := 6) (v := .slice (some ⟨V.heap.size, 0, none⟩) 2 2) (by decide) (hput _) ⟨hV.alloc _, by rw [World.size_alloc]; omega⟩ ⟨V.heap.size, upd_same _ _ _, hz, heap_alloc_new _ _⟩ (keep_alloc _)
      case run =>
        clear hput hV hdep hz
        unfold arrP
        go_simp
    | 7, ho =>
      simp at ho
      subst ho
      rintro u V ⟨hV, hz⟩ hdep
      refine wp_mv (.tmp 0) rfl ?_
      have hput := fun v => putsA_put u v 7 21 clsSlots a0 clsSlots_ok (by decide +kernel)
      have he := (putsA_other u 0 clsSlots a0 (by decide +kernel)).trans e0
      dsimp only
      generalize putsA a0 u clsSlots = b1 at he hput ⊢
      refine cls_post _ (i := 7) (v := .pointer (some ⟨g, 0, none⟩)) (by decide) ?_ ⟨hV, hz⟩ (upd_same _ _ _) keep_same
      exact (congrArg (fun x => b1.put (some 21) x) he).trans (hput _)
    | 8, ho =>
      simp at ho
      subst ho
      rintro u V ⟨hV, hz⟩ hdep
      have d1 : u 7 = .pointer (some ⟨g, 0, none⟩) := hdep ⟨7, .data⟩ (by simp) rfl
      have hput := fun v => putsA_put u v 8 22 clsSlots a0 clsSlots_ok (by decide +kernel)
      have g1 := (putsA_get u 7 21 clsSlots a0 clsSlots_ok (by decide +kernel) (by rw [hs121]; decide)).trans d1
      have hc := nextC (B := B) (w := w) (g := g) (gb := gb) (d := d) (s := s) (b := b) (m := m) (V := V) 2 (by omega) (by omega) (by omega) hV
      dsimp only
      generalize putsA a0 u clsSlots = b1 at hput g1 ⊢
      refine wp_call (f := 13) (args := #[.pointer (some ⟨g, 0, none⟩), .int .i64 (2 : Nat)]) (w' := V) ?run (hc.mono fun e V' h => ?con) (S := fun v V' => NextC B w g gb d s b m 2 V (.returned v) V') ?post
      case con => obtain ⟨v, rfl, h⟩ := h; exact ⟨_, rfl, v, rfl, h⟩
      case run =>
        clear hc hput hV hdep hz
        go_simp
      case post =>
        rintro x V' ⟨v, hx, hv, hV', hk, hzz⟩
        injection hx with hx
        subst hx
        exact cls_post _ (i := 8) (v := .int .i64 (v : Int)) (by decide) (hput _) ⟨hV', by rw [hzz]; exact hz⟩ ⟨v, hv, upd_same _ _ _⟩ (fun c o h hc => hk c o h (by omega))
    | 9, ho =>
      simp at ho
      subst ho
      rintro u V ⟨hV, hz⟩ hdep
      obtain ⟨bb, d1, d2, d3⟩ := (show ∃ b, u 6 = .slice (some ⟨b, 0, none⟩) 2 2 ∧ gb + 2 ≤ b ∧ V.heap[b]? = some (.cells arrP 9 (0, 0)) from hdep ⟨6, .data⟩ (by simp) rfl)
      obtain ⟨v, d4, d5⟩ := (show ∃ v : Nat, v < 2 ∧ u 8 = .int .i64 (v : Int) from hdep ⟨8, .data⟩ (by simp) rfl)
      have hput := fun v => putsA_put u v 9 23 clsSlots a0 clsSlots_ok (by decide +kernel)
      have g1 := (putsA_get u 6 20 clsSlots a0 clsSlots_ok (by decide +kernel) (by rw [hs121]; decide)).trans d1
      have g2 := (putsA_get u 8 22 clsSlots a0 clsSlots_ok (by decide +kernel) (by rw [hs121]; decide)).trans d5
      have hv0 : (0 : Int) ≤ (v : Int) := by omega
      have hv1 : (v : Int) < 2 := by omega
      dsimp only
      generalize putsA a0 u clsSlots = b1 at hput g1 g2 ⊢
      refine wp_val (v := .pointer (some ⟨bb, v, none⟩)) (w' := V) ?run ?post
      case post => exact cls_post _ (i := 9) (v := .pointer (some ⟨bb, v, none⟩)) (by decide) (hput _) ⟨hV, hz⟩ ⟨bb, v, d4, upd_same _ _ _, d2, d3⟩ keep_same
      case run =>
        clear hput hV hdep hz d1 d3 d5
        go_simp
    | 10, ho =>
      simp at ho
      subst ho
      rintro u V ⟨hV, hz⟩ hdep
      obtain ⟨bb, v, d4, d1, d2, d3⟩ := (show ∃ b v : Nat, v < 2 ∧ u 9 = .pointer (some ⟨b, v, none⟩) ∧ gb + 2 ≤ b ∧ V.heap[b]? = some (.cells arrP 9 (0, 0)) from hdep ⟨9, .data⟩ (by simp) rfl)
      have hput := fun v => putsA_put u v 10 24 clsSlots a0 clsSlots_ok (by decide +kernel)
      have g1 := (putsA_get u 9 23 clsSlots a0 clsSlots_ok (by decide +kernel) (by rw [hs121]; decide)).trans d1
      have hcell := arrP_at d3 d4
      have hmem : partsL.getD v ⟨#[]⟩ ∈ partsL := getD_mem d4
      dsimp only
      generalize putsA a0 u clsSlots = b1 at hput g1 ⊢
      refine wp_val (v := .string (partsL.getD v ⟨#[]⟩)) (w' := V) ?run ?post
      case post => exact cls_post _ (i := 10) (v := .string (partsL.getD v ⟨#[]⟩)) (by decide) (hput _) ⟨hV, hz⟩ ⟨_, hmem, upd_same _ _ _⟩ keep_same
      case run =>
        clear hput hV hdep hz d1 d3 hmem
        generalize partsL.getD v ⟨#[]⟩ = zz at hcell ⊢
        go_simp
    | 11, ho =>
      simp at ho
      subst ho
      rintro u V ⟨hV, hz⟩ hdep
      refine wp_mv (.tmp 0) rfl ?_
      have hput := fun v => putsA_put u v 11 25 clsSlots a0 clsSlots_ok (by decide +kernel)
      have he := (putsA_other u 0 clsSlots a0 (by decide +kernel)).trans e0
      dsimp only
      generalize putsA a0 u clsSlots = b1 at he hput ⊢
      refine cls_post _ (i := 11) (v := .pointer (some ⟨g, 0, none⟩)) (by decide) ?_ ⟨hV, hz⟩ (upd_same _ _ _) keep_same
      exact (congrArg (fun x => b1.put (some 25) x) he).trans (hput _)
    | 12, ho =>
      simp at ho
      subst ho
      rintro u V ⟨hV, hz⟩ hdep
      have hput := fun v => putsA_put u v 12 26 clsSlots a0 clsSlots_ok (by decide +kernel)
      have g1 := (putsA_other u 5 clsSlots a0 (by decide +kernel)).trans e5
      dsimp only
      generalize putsA a0 u clsSlots = b1 at hput g1 ⊢
      refine wp_val (v := .pointer (some ⟨gb, 1, none⟩)) (w' := V) ?run ?post
      case post => exact cls_post _ (i := 12) (v := .pointer (some ⟨gb, 1, none⟩)) (by decide) (hput _) ⟨hV, hz⟩ (upd_same _ _ _) keep_same
      case run =>
        clear hput hV hdep hz
        go_simp
    | 13, ho =>
      simp at ho
      subst ho
      rintro u V ⟨hV, hz⟩ hdep
      have d1 : u 12 = .pointer (some ⟨gb, 1, none⟩) := hdep ⟨12, .data⟩ (by simp) rfl
      have hput := fun v => putsA_put u v 13 27 clsSlots a0 clsSlots_ok (by decide +kernel)
      have g1 := (putsA_get u 12 26 clsSlots a0 clsSlots_ok (by decide +kernel) (by rw [hs121]; decide)).trans d1
      have hcell := hV.grid.c1
      dsimp only
      generalize putsA a0 u clsSlots = b1 at hput g1 ⊢
      refine wp_val (v := .int .i64 s) (w' := V) ?run ?post
      case post => exact cls_post _ (i := 13) (v := .int .i64 s) (by decide) (hput _) ⟨hV, hz⟩ (upd_same _ _ _) keep_same
      case run =>
        clear hput hV hdep hz d1
        go_simp
    | 14, ho =>
      simp at ho
      subst ho
      rintro u V ⟨hV, hz⟩ hdep
      have d1 : u 13 = .int .i64 s := hdep ⟨13, .data⟩ (by simp) rfl
      have hput := fun v => putsA_put u v 14 28 clsSlots a0 clsSlots_ok (by decide +kernel)
      have g1 := (putsA_get u 13 27 clsSlots a0 clsSlots_ok (by decide +kernel) (by rw [hs121]; decide)).trans d1
      obtain ⟨k, hk1, hk2, hk3, hk4⟩ : ∃ k : Nat, 1 ≤ k ∧ k ≤ 2 ∧ (k : Int) ≤ s ∧ min 2 s = (k : Int) := by
        by_cases h1 : s = 1
        · exact ⟨1, by omega, by omega, by omega, by omega⟩
        · exact ⟨2, by omega, by omega, by omega, by omega⟩
      dsimp only
      generalize putsA a0 u clsSlots = b1 at hput g1 ⊢
      refine wp_val (v := .int .i64 (k : Int)) (w' := V) ?run ?post
      case post => exact cls_post _ (i := 14) (v := .int .i64 (k : Int)) (by decide) (hput _) ⟨hV, hz⟩ ⟨k, hk1, hk2, hk3, upd_same _ _ _⟩ keep_same
      case run =>
        clear hput hV hdep hz d1
        rw [← hk4]
        go_simp
    | 15, ho =>
      simp at ho
      subst ho
      rintro u V ⟨hV, hz⟩ hdep
      have d1 : u 11 = .pointer (some ⟨g, 0, none⟩) := hdep ⟨11, .data⟩ (by simp) rfl
      obtain ⟨k, hk1, hk2, hk3, hk4⟩ : ∃ k : Nat, 1 ≤ k ∧ k ≤ 2 ∧ (k : Int) ≤ s ∧ u 14 = .int .i64 (k : Int) := hdep ⟨14, .data⟩ (by simp) rfl
      have g2 := (putsA_get u 14 28 clsSlots a0 clsSlots_ok (by decide +kernel) (by rw [hs121]; decide)).trans hk4
      have hput := fun v => putsA_put u v 15 29 clsSlots a0 clsSlots_ok (by decide +kernel)
      have g1 := (putsA_get u 11 25 clsSlots a0 clsSlots_ok (by decide +kernel) (by rw [hs121]; decide)).trans d1
      have hc := nextC (B := B) (w := w) (g := g) (gb := gb) (d := d) (s := s) (b := b) (m := m) (V := V) k (by omega) (by omega) (by omega) hV
      dsimp only
      generalize putsA a0 u clsSlots = b1 at hput g1 g2 ⊢
      refine wp_call (f := 13) (args := #[.pointer (some ⟨g, 0, none⟩), .int .i64 (k : Nat)]) (w' := V) ?run (hc.mono fun e V' h => ?con) (S := fun v V' => NextC B w g gb d s b m k V (.returned v) V') ?post
      case con => obtain ⟨v, rfl, h⟩ := h; exact ⟨_, rfl, v, rfl, h⟩
      case run =>
        clear hc hput hV hdep hz
        go_simp
      case post =>
        rintro x V' ⟨v, hx, hv, hV', hk, hzz⟩
        injection hx with hx
        subst hx
        exact cls_post _ (i := 15) (v := .int .i64 (v : Int)) (by decide) (hput _) ⟨hV', by rw [hzz]; exact hz⟩ ⟨v, by omega, by omega, upd_same _ _ _⟩ (fun c o h hc => hk c o h (by omega))
    | 16, ho =>
      simp at ho
      subst ho
      rintro u V ⟨hV, hz⟩ hdep
      obtain ⟨v, d1, d2, d3⟩ := (show ∃ v : Nat, v < 2 ∧ (v : Int) < s ∧ u 15 = .int .i64 (v : Int) from hdep ⟨15, .data⟩ (by simp) rfl)
      have hput := fun v => putsA_put u v 16 30 clsSlots a0 clsSlots_ok (by decide +kernel)
      have g1 := (putsA_get u 15 29 clsSlots a0 clsSlots_ok (by decide +kernel) (by rw [hs121]; decide)).trans d3
      have hwv : IntKind.i64.wrap (1 + (v : Int)) = 1 + (v : Int) := by rw [IntKind.wrap_i64]; omega
      have hv1 : (1 : Int) + (v : Int) = ((v + 1 : Nat) : Int) := by omega
      dsimp only
      generalize putsA a0 u clsSlots = b1 at hput g1 ⊢
      refine wp_val (v := .int .i64 ((v + 1 : Nat) : Int)) (w' := V) ?run ?post
      case post => exact cls_post _ (i := 16) (v := .int .i64 ((v + 1 : Nat) : Int)) (by decide) (hput _) ⟨hV, hz⟩ ⟨v + 1, by omega, by omega, by omega, upd_same _ _ _⟩ keep_same
      case run =>
        clear hput hV hdep hz d3
        rw [← hv1]
        clear hv1
        go_simp
    | 17, ho =>
      simp at ho
      subst ho
      rintro u V ⟨hV, hz⟩ hdep
      have d0 : u 0 = .string code := hdep ⟨0, .data⟩ (by simp) rfl
      obtain ⟨z, hzm, d1⟩ := (show ∃ z ∈ mcourses, u 5 = .string z from hdep ⟨5, .data⟩ (by simp) rfl)
      obtain ⟨y, hym, d2⟩ := (show ∃ z ∈ partsL, u 10 = .string z from hdep ⟨10, .data⟩ (by simp) rfl)
      obtain ⟨n, n1, n2, n3, d3⟩ := (show ∃ n : Nat, 1 ≤ n ∧ n ≤ 2 ∧ (n : Int) ≤ s ∧ u 16 = .int .i64 (n : Int) from hdep ⟨16, .data⟩ (by simp) rfl)
      have hput := fun v => putsA_put u v 17 31 clsSlots a0 clsSlots_ok (by decide +kernel)
      have g0 := (putsA_get u 0 14 clsSlots a0 clsSlots_ok (by decide +kernel) (by rw [hs121]; decide)).trans d0
      have g1 := (putsA_get u 5 19 clsSlots a0 clsSlots_ok (by decide +kernel) (by rw [hs121]; decide)).trans d1
      have g2 := (putsA_get u 10 24 clsSlots a0 clsSlots_ok (by decide +kernel) (by rw [hs121]; decide)).trans d2
      have g3 := (putsA_get u 16 30 clsSlots a0 clsSlots_ok (by decide +kernel) (by rw [hs121]; decide)).trans d3
      dsimp only
      generalize putsA a0 u clsSlots = b1 at hput g0 g1 g2 g3 ⊢
      refine wp_val (v := .agg (cboxV (zeroN code z y n))) (w' := V) ?run ?post
      case post => exact cls_post _ (i := 17) (v := .agg (cboxV (zeroN code z y n))) (by decide) (hput _) ⟨hV, hz⟩ ⟨z, hzm, y, hym, n, n1, n2, n3, upd_same _ _ _⟩ keep_same
      case run =>
        clear hput hV hdep hz d0 d1 d2 d3 hzm hym
        unfold cboxV zeroN
        have f0 : b1.tmps[14]?.getD undef = .string code := by rw [← Array.getD_eq_getD_getElem?]; exact g0
        have f1 : b1.tmps[19]?.getD undef = .string z := by rw [← Array.getD_eq_getD_getElem?]; exact g1
        have f2 : b1.tmps[24]?.getD undef = .string y := by rw [← Array.getD_eq_getD_getElem?]; exact g2
        have f3 : b1.tmps[30]?.getD undef = .int .i64 (n : Int) := by rw [← Array.getD_eq_getD_getElem?]; exact g3
        clear g0 g1 g2 g3
        go_simp
    | 18, ho =>
      simp at ho
      subst ho
      rintro u V ⟨hV, hz⟩ hdep
      have hput := fun v => putsA_put u v 18 9 clsSlots a0 clsSlots_ok (by decide +kernel)
      dsimp only
      generalize putsA a0 u clsSlots = b1 at hput ⊢
      refine wp_val (v := .pointer (some ⟨V.heap.size, 0, none⟩)) (w' := V.alloc (.cells (cboxV (zeroN ⟨#[]⟩ ⟨#[]⟩ ⟨#[]⟩ 0)) 65)) ?run ?post
      case post =>
        refine cls_post18 _ (v := .pointer (some ⟨V.heap.size, 0, none⟩)) (fun o' ho' => ?_) (hput _) ⟨hV.alloc _, by rw [World.size_alloc]; omega⟩ ⟨V.heap.size, _, upd_same _ _ _, hz, cbox_new _ _⟩ (keep_alloc _)
        simp at ho'
        subst ho'
        exact ⟨⟨18, .data⟩, by simp, rfl, rfl⟩
      case run =>
        clear hput hV hdep hz
        unfold cboxV zeroN
        go_simp
    | 19, ho =>
      simp at ho
      subst ho
      rintro u V ⟨hV, hz⟩ hdep
      obtain ⟨c, q, d0, d1, d2⟩ := (show ∃ c q, u 18 = .pointer (some ⟨c, 0, none⟩) ∧ gb + 2 ≤ c ∧ CBox V c q from hdep ⟨18, .data⟩ (by simp) rfl)
      obtain ⟨z, hzm, y, hym, n, n1, n2, n3, d3⟩ := (show ∃ z ∈ mcourses, ∃ y ∈ partsL, ∃ n : Nat, 1 ≤ n ∧ n ≤ 2 ∧ (n : Int) ≤ s ∧ u 17 = .agg (cboxV (zeroN code z y n)) from hdep ⟨17, .data⟩ (by simp) rfl)
      have g0 := (putsA_get u 18 9 clsSlots a0 clsSlots_ok (by decide +kernel) (by rw [hs121]; decide)).trans d0
      have g1 := (putsA_get u 17 31 clsSlots a0 clsSlots_ok (by decide +kernel) (by rw [hs121]; decide)).trans d3
      obtain ⟨n0, n1', n2', n3', n4, n5, n6, n7, n8⟩ := d2.nine
      have f0 := d2.free 0
      have f1 := d2.free 1
      have f2 := d2.free 2
      have f3 := d2.free 3
      have f4 := d2.free 4
      have f5 := d2.free 5
      have f6 := d2.free 6
      have f7 := d2.free 7
      have f8 := d2.free 8
      have hgw := hgb.out
      have hputn : ∀ v, (putsA a0 u clsSlots).put none undef = putsA a0 (updV u 19 v) clsSlots := fun v => (put_none _).trans (putsA_upd_out u v 19 clsSlots a0 (by decide +kernel)).symm
      dsimp only
      generalize hb1 : putsA a0 u clsSlots = b1 at g0 g1 hputn ⊢
      refine wp_skip (w' := setC V c (zeroN code z y n)) ?run ?post
      case post =>
        refine ⟨undef, hputn _, ⟨setC_st hV (by omega) (by omega) _, by rw [setC_size]; exact hz⟩, ⟨c, (upd_ne u _ (by decide)).trans d0, d1, z, hzm, y, hym, n, n1, n2, n3, setC_box d2 _⟩, fun j o' _ hji _ h => clsR_set (setC_other _) d2 (setC_box d2 _) d1 d0 hji h⟩
      case run =>
        clear hputn hV hdep hz d0 d3 hzm hym d2 hgw hb1
        unfold setC
        unfold cboxV zeroN at g1
        unfold zeroN
        go_simp
    | n + 20, ho => simp at ho
    -- </sorry>
  case hfin =>
    rintro u V ⟨hV, hz⟩ hall
    obtain ⟨c, hu, hcb, z, hzm, y, hym, n, n1, n2, n3, hbox⟩ := (show ∃ c, u 18 = .pointer (some ⟨c, 0, none⟩) ∧ gb + 2 ≤ c ∧ ∃ z ∈ mcourses, ∃ y ∈ partsL, ∃ n : Nat, 1 ≤ n ∧ n ≤ 2 ∧ (n : Int) ≤ s ∧ CBox V c (zeroN code z y n) from hall 19 (by decide))
    subst hea
    have hgw := hgb.out
    have hcg : c ≠ g := by omega
    clear hall hsz hgt hs121 e0 e3 e5 hCd hC hW8 h8 hb0 hW hgb
    simp only [putsA, clsSlots, Act.put, hu]
    generalize u 0 = x0
    generalize u 1 = x1
    generalize u 2 = x2
    generalize u 3 = x3
    generalize u 4 = x4
    generalize u 5 = x5
    generalize u 6 = x6
    generalize u 7 = x7
    generalize u 8 = x8
    generalize u 9 = x9
    generalize u 10 = x10
    generalize u 11 = x11
    generalize u 12 = x12
    generalize u 13 = x13
    generalize u 14 = x14
    generalize u 15 = x15
    generalize u 16 = x16
    generalize u 17 = x17
    clear hu u
    go_wp2_with fail
    refine (set_walk B g (N : Int) (by omega) (by omega) V hV.thrown.dice).mono ?_
    rintro e w1 ⟨p, rfl, p1, p2, T1, -⟩
    rw [Int.toNat_natCast] at p2
    have hV1 := hV.on T1 (by omega)
    have hz1 := T1.size
    have hbox1 := hbox.thrown T1 hcg
    clear hV hbox T1
    have n4 := hbox1.c4
    have f4 := hbox1.free 4
    have hcl := hbox1.lt
    obtain ⟨W2, hW2⟩ : ∃ W2, (w1.setCell ⟨c, 4, none⟩ (.slice (some ⟨w1.heap.size, 0, none⟩) 1 1)).alloc (.cells #[.int .i64 p] 3) = W2 := ⟨_, rfl⟩
    have hS2 : ClS B w g gb c d s b m { zeroN code z y n with A4 := some ⟨w1.heap.size, 0, none⟩, n4 := 1, c4 := 1 } [p] [] [] W2 := by
      rw [← hW2]
      have hnew : ((w1.setCell ⟨c, 4, none⟩ (.slice (some ⟨w1.heap.size, 0, none⟩) 1 1)).alloc (.cells #[.int .i64 p] 3)).heap[w1.heap.size]? = some (.cells #[.int .i64 p] 3 (0, 0)) := by
        have := heap_alloc_new (w1.setCell ⟨c, 4, none⟩ (.slice (some ⟨w1.heap.size, 0, none⟩) 1 1)) (.cells #[.int .i64 p] 3)
        rwa [World.size_setCell] at this
      refine ⟨(hV1.set (by omega) (by omega) _).alloc _, (hbox1.set4 _ _ _).alloc _, ?_, Own.nil, Own.nil⟩
      exact Own.lit (K := kInt) hnew [p] [[.int .i64 p]] rfl rfl (by simp) (fun j x vs hj hv => by
        match j, hj, hv with
        | 0, hj, hv => simp at hj hv; subst hj hv; rfl
        | j + 1, hj, _ => simp at hj) (Nat.le_trans hz hz1)
    obtain ⟨pb, hpb⟩ : ∃ pb, w1.heap.size = pb := ⟨_, rfl⟩
    have hpb2 : gb + 2 ≤ pb := by rw [← hpb]; exact Nat.le_trans hz hz1
    rw [hpb] at hS2
    have hpz : pb < W2.heap.size := by rw [← hW2, World.size_alloc, World.size_setCell]; omega
    have hp0 : W2.cell? ⟨pb, 0, none⟩ = some (.int .i64 p) := by
      have := hS2.rps.any'
      obtain ⟨b', off', e1, -, -, h0⟩ := this.int (j := 0) rfl
      injection e1 with e1
      injection e1 with e1 e2
      subst e1 e2
      exact h0
    rw [hpb] at hW2
    replace hW2 := hide hW2
    replace hpb := hide hpb
    clear hV1 hbox1 hz1
    go_wp2_with fail
    clear n4 f4 hcl
    rw [hpb.out, hW2.out]
    refine (set_walk B g (N : Int) (by omega) (by omega) W2 hS2.cst.thrown.dice).mono ?_
    rintro e w3 ⟨p', rfl, p3, p4, T3, -⟩
    rw [Int.toNat_natCast] at p4
    have hS3 := hS2.on T3 (by omega) hcg (by omega)
    have hq0 := cell_only hp0 T3.only (by omega)
    clear hS2 T3 hp0
    have n4 := hS3.box.c4
    have f4 := hS3.box.free 4
    have hcl := hS3.box.lt
    clear hpz hW2 hpb hz
    obtain ⟨q, hq⟩ : ∃ q : Nine, { zeroN code z y n with A4 := some ⟨pb, 0, none⟩, n4 := 1, c4 := 1 } = q := ⟨_, rfl⟩
    have hq4 : q.A4 = some ⟨pb, 0, none⟩ ∧ q.n4 = 1 ∧ q.c4 = 1 := by rw [← hq]; exact ⟨rfl, rfl, rfl⟩
    have hqs : q.z = code ∧ q.co ∈ mcourses ∧ q.pa ∈ partsL ∧ (1 ≤ q.n ∧ q.n ≤ 2 ∧ q.n ≤ s) ∧ q.m = 0 ∧ (q.A7 = none ∧ q.n7 = 0 ∧ q.c7 = 0) := by rw [← hq]; exact ⟨rfl, hzm, hym, ⟨by show (1 : Int) ≤ (n : Int); omega, by show (n : Int) ≤ 2; omega, n3⟩, rfl, rfl, rfl, rfl⟩
    rw [hq] at hS3
    replace hqs := hide hqs
    clear hq hzm hym n1 n2 n3
    go_upto_region 4 with fail
    go_cut [49] (fun s49 wx => ∃ o : Bool, s49 = .bool o ∧ (o = true → p' ≠ p) ∧ ClS B w g gb c d s b m q [p] [] [] wx)
    case first =>
      -- <sorry>
      by_cases hpp : p' = p
      · subst hpp
        go_wp2_with fail
        go_meet
        exact ⟨false, rfl, (fun h => by cases h), hS3⟩
      · have hpn : (p' == p) = false := beq_false_of_ne hpp
        go_wp2_with fail
        refine (one_walk B g 3 (by decide) (by decide) w3 hS3.cst.thrown.dice).mono ?_
        rintro e w4 ⟨o, rfl, T4⟩
        have hS4 := hS3.on T4 (by omega) hcg (by omega)
        clear hS3 T4 n4 f4 hcl hq0
        go_wp2_with fail
        go_meet
        exact ⟨o, rfl, fun _ => hpp, hS4⟩
      -- </sorry>
    case rest =>
      clear hS3 n4 f4 hcl hq0
      obtain ⟨o, rfl, hpp, hS3⟩ := hcut
      go_upto_if 49 with fail
      go_cut [] (fun wx => ClP B w g gb c d s b m N code (fun _ ss => ss = []) wx)
      case first =>
        -- <sorry>
        cases o with
        | false =>
          go_wp2_with fail
          go_meet
          obtain ⟨h1, h2, h3, h4, h5, h6⟩ := hqs.out
          exact ⟨q, [p], [], [], h1, h2, h3, h4, ⟨by simp, by simp, by simp, fun x hx => by simp at hx; subst hx; exact ⟨p1, p2⟩⟩, by rw [h5]; exact ⟨by omega, by omega⟩, by simp, h6, rfl, hS3⟩
        | true =>
          have n4 := hS3.box.c4
          rw [hq4.1, hq4.2.1, hq4.2.2] at n4
          have hcl := hS3.box.lt
          have hown := hS3.rps
          rw [hq4.1, hq4.2.1, hq4.2.2] at hown
          have hzz := (hown.lt pb rfl).2
          go_wp2_with (at_builtin; refine wpList_own rfl _ _ rfl apd_nums (by decide) rfl (hown.alloc _) ?d1 (by decide) ⟨wc.heap.size, 0, none⟩ 1 rfl p' [.int .i64 p'] rfl (World.news_of_block (cs := #[.int .i64 p']) (t := 3) (fr := (0, 0)) (heap_alloc_new _ _)) (by decide) (Nat.zero_le _) ?d2 ?_)
          case d2 => omega
          intro v' w5 hown5 hgrow
          have hA := hS3.alloc (.cells #[.int .i64 p'] 3)
          have hlow : ∀ y, (Value.slice (some ⟨pb, 0, none⟩) 1 1).ownBlock = some y → gb + 2 ≤ y := fun y hy => (hown.lt y hy).1
          have hc5 := hA.cst.grown hgrow (by omega) hlow
          have hb5 := hA.box.rowed (hown.alloc _) (by decide) hgrow
          have hf5 := hA.rfs.rowed (hown.alloc _) (by decide) hgrow
          have hs5 := hA.rss.rowed (hown.alloc _) (by decide) hgrow
          obtain ⟨A', c', rfl⟩ := hown5.form
          have n4' := hb5.c4
          have f4' := hb5.free 4
          have hcl' := hb5.lt
          have hS5 := ClS.put4 hc5 hb5 hf5 hs5 (by omega) (by omega) hown5
          replace hS5 := hide hS5
          clear hA hc5 hf5 hs5 hown5 hgrow hown hS3 n4 hcl hb5 hlow
          go_wp2_with fail
          go_meet
          obtain ⟨h1, h2, h3, h4, h5, h6⟩ := hqs.out
          exact ⟨{ q with A4 := A', n4 := 2, c4 := c' }, [p, p'], [], [], h1, h2, h3, h4, ⟨by simp, by simp, by simp; exact fun e => hpp trivial e.symm, fun x hx => by simp at hx; rcases hx with rfl | rfl; exact ⟨p1, p2⟩; exact ⟨p3, p4⟩⟩, by show 0 ≤ q.m ∧ q.m ≤ 30; rw [h5]; exact ⟨by omega, by omega⟩, by simp, h6, rfl, hS5.out⟩
        -- </sorry>
      case rest =>
        clear hS3 hpp hq4 hqs p1 p2 p3 p4 o
        obtain ⟨q, ps, fs, ss, h1, h2, h3, h4, h5, h6, h7, h8, h9, hS⟩ := hcut
        go_wp2_with fail
        refine (one_walk B g 3 (by decide) (by decide) wc hS.cst.thrown.dice).mono ?_
        rintro e w4 ⟨o, rfl, T4⟩
        have hS4 := hS.on T4 (by omega) hcg (by omega)
        clear hS T4
        go_upto_if 58 with fail
        go_cut [] (fun wx => ClP B w g gb c d s b m N code (fun _ ss => ss = []) wx)
        case first =>
          -- <sorry>
          cases o with
          | true =>
            go_wp2_with fail
            go_meet
            exact ⟨q, ps, fs, ss, h1, h2, h3, h4, h5, h6, h7, h8, h9, hS4⟩
          | false =>
            go_wp2_with fail
            refine (next_walk B g 3 (by decide) w4 hS4.cst.thrown.dice).mono ?_
            rintro e w5 ⟨v, rfl, v1, v2, -, T5, -⟩
            have v2 := v2 (by decide)
            have hS5 := hS4.on T5 (by omega) hcg (by omega)
            have n5 := hS5.box.c5
            have f5 := hS5.box.free 5
            have hcl := hS5.box.lt
            have hw1 : IntKind.i64.wrap (10 * v) = 10 * v := by rw [IntKind.wrap_i64]; omega
            have hw2 : IntKind.i64.wrap (10 + 10 * v) = 10 + 10 * v := by rw [IntKind.wrap_i64]; omega
            have hS6 := hide (hS5.put5 (by omega) (by omega) (10 + 10 * v))
            clear hS4 T5 hS5
            go_wp2_with fail
            go_meet
            exact ⟨{ q with m := 10 + 10 * v }, ps, fs, ss, h1, h2, h3, h4, h5, ⟨by show 0 ≤ 10 + 10 * v; omega, by show 10 + 10 * v ≤ 30; omega⟩, h7, h8, h9, hS6.out⟩
          -- </sorry>
        case rest =>
          clear hS4 h1 h2 h3 h4 h5 h6 h7 h8 h9 q ps fs ss o
          obtain ⟨q, ps, fs, ss, h1, h2, h3, h4, h5, h6, h7, h8, h9, hS⟩ := hcut
          go_wp2_with fail
          rename World => wd
          refine (one_walk B g 4 (by decide) (by decide) _ hS.cst.thrown.dice).mono ?_
          rintro e w4 ⟨o, rfl, T4⟩
          have hS4 := hS.on T4 (by omega) hcg (by omega)
          clear hS T4
          go_upto_if 65 with fail
          go_cut [] (fun wx => ClP B w g gb c d s b m N code (fun _ ss => ss = []) wx)
          case first =>
            -- <sorry>
            cases o with
            | false =>
              go_wp2_with fail
              go_meet
              exact ⟨q, ps, fs, ss, h1, h2, h3, h4, h5, h6, h7, h8, h9, hS4⟩
            | true =>
              have hFw := hFv.below (hS4.cst.thrown.below hBg)
              obtain ⟨F, kF, hF0, hFA⟩ := strs_at hFw hBg
              have hsm := some_walk B g F featuresL kF 3 (by decide) (by decide) w4 hS4.cst.thrown.dice (by decide) hFA
              have hF3 : featuresL.length = 3 := rfl
              rw [hF3] at hF0 hsm
              clear hFA hFw hF3
              go_wp2_with fail
              refine hsm.mono ?_
              clear hsm
              rintro e w5 ⟨v8, L, rfl, hsub, hoL, T5⟩
              obtain ⟨A8, c8, rfl⟩ := hoL.form
              have hz4 : gb + 2 ≤ w4.heap.size := by have := hS4.box.lt; omega
              have hS5 := hS4.on T5 (by omega) hcg (by omega)
              have n6 := hS5.box.c6
              have f6 := hS5.box.free 6
              have hcl := hS5.box.lt
              have hS6 := hide (hS5.put6 (by omega) (by omega) (hoL.lower hz4))
              clear hS4 T5 hS5 hoL hF0
              go_wp2_with fail
              go_meet
              exact ⟨{ q with A6 := A8, n6 := L.length, c6 := c8 }, ps, L, ss, h1, h2, h3, h4, h5, h6, hsub, h8, h9, hS6.out⟩
            -- </sorry>
          case rest =>
            clear hS4 h1 h2 h3 h4 h5 h6 h7 h8 h9 q ps fs ss o
            obtain ⟨q, ps, fs, ss, h1, h2, h3, h4, h5, h6, h7, h8, rfl, hS⟩ := hcut
            have n7 := hS.box.c7
            have f7 := hS.box.free 7
            have hcl := hS.box.lt
            have hS7 := hS.put7 (by omega) (by omega) none 0 0
            clear hS
            go_wp2_with fail
            refine (next_walk B g 3 (by decide) _ hS7.cst.thrown.dice).mono ?_
            rintro e w8 ⟨v, rfl, p1, p2, -, T8, -⟩
            have p2 := p2 (by decide)
            obtain ⟨v, rfl⟩ := Int.eq_ofNat_of_zero_le p1
            have hS8 := hS7.on T8 (by omega) hcg (by omega)
            have hP8 : ClL B w g gb c d s b m N code (.int .i64 ((0 : Nat) : Int)) (.int .i64 ((1 + v : Nat) : Int)) w8 :=
              ⟨1 + v, 0, rfl, rfl, by omega, by omega, { q with A7 := none, n7 := 0, c7 := 0 }, ps, fs, [], h1, h2, h3, h4, h5, h6, h7, ⟨rfl, rfl, rfl⟩, ⟨by show 0 + (1 + v) ≤ 3; omega, by simp, fun x hx => by simp at hx⟩, hS8⟩
            clear hS7 T8 n7 f7 hcl hS8
            go_wp2_with fail
            go_loopw [11, 12] (fun v11 v12 wr => ClL B w g gb c d s b m N code v11 v12 wr) (fun _ v12 _ => (intOf v12).toNat)
            case atStart => simpa using hP8
            case round =>
              clear hP8 h1 h2 h3 h4 h5 h6 h7 h8 q ps fs
              obtain ⟨k, dy, rfl, rfl, hdy, hk3, q, ps, fs, ss, h1, h2, h3, h4, h5, h6, h7, h8, ⟨hlen, hst⟩, hS⟩ := hrel
              by_cases hk0 : 0 < k
              · obtain ⟨k, rfl⟩ : ∃ k', k = k' + 1 := ⟨k - 1, by omega⟩
                have hk1 : (0 : Int) < ((k + 1 : Nat) : Int) := by omega
                have hnw : IntKind.i64.wrap (((k + 1 : Nat) : Int) - 1) = (k : Int) := by rw [IntKind.wrap_i64]; omega
                obtain ⟨Z, hZ⟩ : ∃ Z, wr.heap.size = Z := ⟨_, rfl⟩
                have hcZ : c < Z := by rw [← hZ]; exact hS.box.lt
                have hgZ : gb + 2 ≤ Z := by omega
                have hwgb : w.heap.size ≤ gb := Nat.le_of_eq hgw
                have hrr : Hid (∀ v ∈ [Value.slice q.A4 q.n4 q.c4, .slice q.A6 q.n6 q.c6, .slice q.A8 q.n8 q.c8], ∀ y, v.ownBlock = some y → y < Z) := hide (by
                  intro v hv y hy
                  simp only [List.mem_cons, List.not_mem_nil, or_false] at hv
                  rcases hv with rfl | rfl | rfl
                  · rw [← hZ]; exact (hS.rps.lt y hy).2
                  · rw [← hZ]; exact (hS.rfs.lt y hy).2
                  · rw [← hZ]; exact (hS.rss.lt y hy).2)
                have hSS : SS B w g gb c d s b m q ps fs ss Z wr := SS.of hS (by omega) fun x a b => by omega
                have hSd := SS.drew hSS
                have hw1 : IntKind.i64.wrap (s - q.n) = s - q.n := by rw [IntKind.wrap_i64]; omega
                have hw2 : IntKind.i64.wrap (s - q.n + 1) = s - q.n + 1 := by rw [IntKind.wrap_i64]; omega
                have hN1 := hide (fun (V : World) (hV : SS B w g gb c d s b m q ps fs ss Z V) => throwS (by omega) (by omega) (by omega) 2 (by omega) (by omega) V hV)
                have hN2 := hide (fun (V : World) (hV : SS B w g gb c d s b m q ps fs ss Z V) => throwS (by omega) (by omega) (by omega) (s - q.n + 1) (by omega) (by omega) V hV)
                go_upto_region 15 with fail
                go_cut [13] (fun s13 wx => StCut B w g gb c d s b m q ps fs ss Z dy s13 wx)
                case first =>
                  go_region_held3 (fun W' => SS B w g gb c d s b m q ps fs ss Z W') (first | with_reducible assumption | ((with_reducible refine SS.alloc ?_ _ _); with_reducible assumption) | ((with_reducible refine SS.drew (SS.alloc ?_ _ _)); with_reducible assumption) | ((with_reducible refine SS.two ?_ hwgb hgZ hcZ hrr ?_ _ _); (with_reducible assumption); omega)) (first | (go_at_call 13; (with_reducible refine (hN1.out _ ?_).mono ?_); (first | with_reducible assumption); rintro e w' ⟨u1, rfl, hu1, hz1, hs1⟩; have hw3 : IntKind.i64.wrap ((dy : Int) + (u1 : Int)) = (dy : Int) + (u1 : Int) := (by rw [IntKind.wrap_i64]; omega)) | (go_at_call 13; (with_reducible refine (hN2.out _ ?_).mono ?_); (first | with_reducible assumption); rintro e w' ⟨u2, rfl, hu2, hz2, hs2⟩))
                  all_goals
                    go_wp2_with fail
                    go_meet
                    first
                      | exact stCut_alloc (by with_reducible assumption) (by simp [*]) hu1 hu2
                      | exact stCut_set (by with_reducible assumption) hwgb hgZ hcZ hrr.out (by omega) (by simp [*]) hu1 hu2
                case rest =>
                  clear hSS hSd hN1 hN2 hw1 hw2 hS
                  obtain ⟨x, v1, v2, rfl, hx, x0, x1, hx1, hx2, hx3, hS⟩ := hcut
                  have i0 := hS.cst.grid.c0
                  have n8 := hS.box.c8
                  have f8 := hS.box.free 8
                  have hcl := hS.box.lt
                  by_cases hd' : d ≤ (v1 : Int)
                  · clear hrr x1 n8 f8 hcl hx hx1 hx2 hx3 hgZ hcZ hZ hnw hk1
                    replace hlen : ss.length ≤ 3 := by omega
                    (
                      have hn8 := hS.rss.len_eq
                      by_cases h0 : ss.length = 0
                      · have m8 := hS.box.c8
                        rw [hn8, h0] at m8
                        obtain rfl := List.eq_nil_of_length_eq_zero h0
                        have i1 := hS.cst.grid.c1
                        have m3 := hS.box.c3
                        have hw1 : IntKind.i64.wrap (s - q.n) = s - q.n := by rw [IntKind.wrap_i64]; omega
                        have hw2 : IntKind.i64.wrap (s - q.n + 1) = s - q.n + 1 := by rw [IntKind.wrap_i64]; omega
                        clear h0 hlen hst
                        go_wp2_with fail
                        refine (next_walk B g (s - q.n + 1) (by omega) _ hS.cst.thrown.dice).mono ?_
                        rintro e w9 ⟨v, rfl, p1, p2, -, T9, -⟩
                        have p2 := p2 (by omega)
                        have hS9 := hS.on T9 (by omega) hcg (by omega)
                        clear hS T9 i1 m3 m8 hn8 hw1 hw2
                        have hz9 : gb + 2 ≤ w9.heap.size := by have := hS9.box.lt; omega
                        obtain ⟨W2, hW2⟩ : ∃ W2, (w9.setCell ⟨c, 8, none⟩ (.slice (some ⟨w9.heap.size, 0, none⟩) 1 1)).alloc (.cells #[.int .i64 0, .int .i64 v] 95) = W2 := ⟨_, rfl⟩
                        have hst : StartsMade d s q.n [((0 : Int), v)] := ⟨by simp, by simp, by simp, fun x hx => by simp at hx; subst hx; exact ⟨by show (0 : Int) ≤ 0; omega, by show (0 : Int) < d; omega, p1, by show v ≤ s - q.n; omega⟩⟩
                        have hS : ClS B w g gb c d s b m { q with A8 := some ⟨w9.heap.size, 0, none⟩, n8 := 1, c8 := 1 } ps fs [((0 : Int), v)] W2 := by
                          rw [← hW2]
                          have hnew : ((w9.setCell ⟨c, 8, none⟩ (.slice (some ⟨w9.heap.size, 0, none⟩) 1 1)).alloc (.cells #[.int .i64 0, .int .i64 v] 95)).heap[w9.heap.size]? = some (.cells #[.int .i64 0, .int .i64 v] 95 (0, 0)) := by
                            have := heap_alloc_new (w9.setCell ⟨c, 8, none⟩ (.slice (some ⟨w9.heap.size, 0, none⟩) 1 1)) (.cells #[.int .i64 0, .int .i64 v] 95)
                            rwa [World.size_setCell] at this
                          refine ⟨(hS9.cst.set (by omega) hcb _).alloc _, (hS9.box.set8 _ _ _).alloc _, (own_setC hS9.rps hS9.box (by decide)).alloc _, (own_setC hS9.rfs hS9.box (by decide)).alloc _, ?_⟩
                          exact Own.lit (K := kStart) hnew [((0 : Int), v)] [[.int .i64 0, .int .i64 v]] rfl rfl (by simp) (fun j x vs hj hv => by
                            match j, hj, hv with
                            | 0, hj, hv => simp at hj hv; subst hj hv; exact ⟨[_], [_], rfl, rfl, rfl⟩
                            | j + 1, hj, _ => simp at hj) hz9
                        replace hW2 := hide hW2
                        have n8 := hS9.box.c8
                        have f8 := hS9.box.free 8
                        have hcl := hS9.box.lt
                        clear hS9 p1 p2
                        obtain ⟨q, hq⟩ : ∃ r : Nine, { q with A8 := some ⟨w9.heap.size, 0, none⟩, n8 := 1, c8 := 1 } = r := ⟨_, rfl⟩
                        rw [hq] at hS
                        have h1 : q.z = code := by rw [← hq]; exact h1
                        have h2 : q.co ∈ mcourses := by rw [← hq]; exact h2
                        have h3 : q.pa ∈ partsL := by rw [← hq]; exact h3
                        have h4 : 1 ≤ q.n ∧ q.n ≤ 2 ∧ q.n ≤ s := by rw [← hq]; exact h4
                        have h6 : 0 ≤ q.m ∧ q.m ≤ 30 := by rw [← hq]; exact h6
                        have hst : StartsMade d s q.n [((0 : Int), v)] := by rw [← hq]; exact hst
                        replace hq := hide hq
                        go_upto_region 21 with fail
                        rw [hW2.out]
                        clear n8 f8 hcl hW2
                        (
                          have y0 := hS.box.c0
                          have y1 := hS.box.c1
                          have y2 := hS.box.c2
                          have y3 := hS.box.c3
                          have y4 := hS.box.c4
                          have y5 := hS.box.c5
                          have y6 := hS.box.c6
                          have y7 := hS.box.c7
                          have y8 := hS.box.c8
                          have r0 := hS.cst.res.c0
                          have r1 := hS.cst.res.c1
                          have r2 := hS.cst.res.c2
                          have r3 := hS.cst.res.c3
                          have r4 := hS.cst.res.c4
                          have r5 := hS.cst.res.c5
                          have r6 := hS.cst.res.c6
                          have r7 := hS.cst.res.c7
                          have r8 := hS.cst.res.c8
                          have q0 := hS.cst.res.free 0
                          have q1 := hS.cst.res.free 1
                          have q2 := hS.cst.res.free 2
                          have q3 := hS.cst.res.free 3
                          have q4 := hS.cst.res.free 4
                          have q5 := hS.cst.res.free 5
                          have q6 := hS.cst.res.free 6
                          have q7 := hS.cst.res.free 7
                          have q8 := hS.cst.res.free 8
                          replace hS := hide hS
                          replace h1 := hide h1
                          replace h8 := hide h8
                          go_wp2_with fail
                          refine end_clsX rfl (gb + 1) q _ rfl rfl hS.out.cst.res ?_
                          exact dcls_of h1.out h2 h3 h4 h5 h6 h7 hst hS.out hgw)
                      · have hst := hst.made (by omega) (by omega)
                        have hss0 : ¬ ((q.n8 : Int) = 0) := by omega
                        clear hn8 h0 hlen
                        (
                          have y0 := hS.box.c0
                          have y1 := hS.box.c1
                          have y2 := hS.box.c2
                          have y3 := hS.box.c3
                          have y4 := hS.box.c4
                          have y5 := hS.box.c5
                          have y6 := hS.box.c6
                          have y7 := hS.box.c7
                          have y8 := hS.box.c8
                          have r0 := hS.cst.res.c0
                          have r1 := hS.cst.res.c1
                          have r2 := hS.cst.res.c2
                          have r3 := hS.cst.res.c3
                          have r4 := hS.cst.res.c4
                          have r5 := hS.cst.res.c5
                          have r6 := hS.cst.res.c6
                          have r7 := hS.cst.res.c7
                          have r8 := hS.cst.res.c8
                          have q0 := hS.cst.res.free 0
                          have q1 := hS.cst.res.free 1
                          have q2 := hS.cst.res.free 2
                          have q3 := hS.cst.res.free 3
                          have q4 := hS.cst.res.free 4
                          have q5 := hS.cst.res.free 5
                          have q6 := hS.cst.res.free 6
                          have q7 := hS.cst.res.free 7
                          have q8 := hS.cst.res.free 8
                          replace hS := hide hS
                          replace h1 := hide h1
                          replace h8 := hide h8
                          go_wp2_with fail
                          refine end_clsX rfl (gb + 1) q _ rfl rfl hS.out.cst.res ?_
                          exact dcls_of h1.out h2 h3 h4 h5 h6 h7 hst hS.out hgw))
                  · have hown := hS.rss
                    have hxc : ¬ x = c := by omega
                    have hcx : ¬ c = x := by omega
                    have hxg : ¬ x = gb := by omega
                    have hwcz : gb + 2 ≤ wc.heap.size := by omega
                    have hlow : ∀ y, (Value.slice q.A8 q.n8 q.c8).ownBlock = some y → gb + 2 ≤ y := fun y hy => (hown.lt y hy).1
                    have hxr : some x ≠ (Value.slice q.A8 q.n8 q.c8).ownBlock := fun e => by have := hrr.out (.slice q.A8 q.n8 q.c8) (by simp) x e.symm; omega
                    go_wp2_with (at_builtin; refine wpList_own rfl _ _ rfl apd_starts (by decide) rfl (hown.alloc _) ?e1 (by decide) ⟨wc.heap.size, 0, none⟩ 1 rfl ((v1 : Int), (v2 : Int)) [.int .i64 (v1 : Int), .int .i64 (v2 : Int)] ⟨[_], [_], rfl, rfl, rfl⟩ (World.news_of_block (cs := #[.int .i64 (v1 : Int), .int .i64 (v2 : Int)]) (t := 95) (fr := (0, 0)) (heap_alloc_new _ _)) (by decide) (Nat.zero_le _) ?e2 ?_)
                    case e1 => omega
                    case e2 => omega
                    intro v' w5 hown5 hgrow
                    have hA := hS.alloc (.cells #[.int .i64 (v1 : Int), .int .i64 (v2 : Int)] 95)
                    have hc5 := hA.cst.grown hgrow (by omega) hlow
                    have hb5 := hA.box.rowed (hown.alloc _) (by decide) hgrow
                    have hp5 := hA.rps.rowed (hown.alloc _) (by decide) hgrow
                    have hf5 := hA.rfs.rowed (hown.alloc _) (by decide) hgrow
                    have x5 := cell_grown (cell_alloc_of x0 (.cells #[.int .i64 (v1 : Int), .int .i64 (v2 : Int)] 95)) hgrow hxr
                    obtain ⟨A', c', rfl⟩ := hown5.form
                    rw [show (ss ++ [((v1 : Int), (v2 : Int))]).length = ss.length + 1 from by simp] at hown5 ⊢
                    have n8' := hb5.c8
                    have f8' := hb5.free 8
                    have hcl' := hb5.lt
                    have hS5 := ClS.put8 hc5 hb5 hp5 hf5 (by omega) hcb hown5
                    have hst5 := hide (hst.snoc hx1 (by omega) hx3)
                    replace hS5 := hide hS5
                    clear hA hc5 hp5 hf5 hown5 hgrow hown hS n8 hcl hb5 hlow hxr x0 x1 i0 f8 hrr
                    go_wp2_with fail
                    go_roundw
                    case rel => exact ⟨k, v1 + 1, by go_num, by first | rfl | go_num, by omega, by omega, { q with A8 := A', n8 := ss.length + 1, c8 := c' }, ps, fs, _, h1, h2, h3, h4, h5, h6, h7, h8, ⟨by rw [List.length_append]; simp; omega, hst5.out⟩, hS5.out⟩
                    case measure => first | (simp [intOf]; done) | (simp [intOf]; omega)
              · obtain rfl : k = 0 := by omega
                replace hlen : ss.length ≤ 3 := by omega
                have hk1 : ¬ (0 : Int) < ((0 : Nat) : Int) := by omega
                clear hk0 hk3
                (
                  have hn8 := hS.rss.len_eq
                  by_cases h0 : ss.length = 0
                  · have m8 := hS.box.c8
                    rw [hn8, h0] at m8
                    obtain rfl := List.eq_nil_of_length_eq_zero h0
                    have i1 := hS.cst.grid.c1
                    have m3 := hS.box.c3
                    have hw1 : IntKind.i64.wrap (s - q.n) = s - q.n := by rw [IntKind.wrap_i64]; omega
                    have hw2 : IntKind.i64.wrap (s - q.n + 1) = s - q.n + 1 := by rw [IntKind.wrap_i64]; omega
                    clear h0 hlen hst
                    go_wp2_with fail
                    refine (next_walk B g (s - q.n + 1) (by omega) _ hS.cst.thrown.dice).mono ?_
                    rintro e w9 ⟨v, rfl, p1, p2, -, T9, -⟩
                    have p2 := p2 (by omega)
                    have hS9 := hS.on T9 (by omega) hcg (by omega)
                    clear hS T9 i1 m3 m8 hn8 hw1 hw2
                    have hz9 : gb + 2 ≤ w9.heap.size := by have := hS9.box.lt; omega
                    obtain ⟨W2, hW2⟩ : ∃ W2, (w9.setCell ⟨c, 8, none⟩ (.slice (some ⟨w9.heap.size, 0, none⟩) 1 1)).alloc (.cells #[.int .i64 0, .int .i64 v] 95) = W2 := ⟨_, rfl⟩
                    have hst : StartsMade d s q.n [((0 : Int), v)] := ⟨by simp, by simp, by simp, fun x hx => by simp at hx; subst hx; exact ⟨by show (0 : Int) ≤ 0; omega, by show (0 : Int) < d; omega, p1, by show v ≤ s - q.n; omega⟩⟩
                    have hS : ClS B w g gb c d s b m { q with A8 := some ⟨w9.heap.size, 0, none⟩, n8 := 1, c8 := 1 } ps fs [((0 : Int), v)] W2 := by
                      rw [← hW2]
                      have hnew : ((w9.setCell ⟨c, 8, none⟩ (.slice (some ⟨w9.heap.size, 0, none⟩) 1 1)).alloc (.cells #[.int .i64 0, .int .i64 v] 95)).heap[w9.heap.size]? = some (.cells #[.int .i64 0, .int .i64 v] 95 (0, 0)) := by
                        have := heap_alloc_new (w9.setCell ⟨c, 8, none⟩ (.slice (some ⟨w9.heap.size, 0, none⟩) 1 1)) (.cells #[.int .i64 0, .int .i64 v] 95)
                        rwa [World.size_setCell] at this
                      refine ⟨(hS9.cst.set (by omega) hcb _).alloc _, (hS9.box.set8 _ _ _).alloc _, (own_setC hS9.rps hS9.box (by decide)).alloc _, (own_setC hS9.rfs hS9.box (by decide)).alloc _, ?_⟩
                      exact Own.lit (K := kStart) hnew [((0 : Int), v)] [[.int .i64 0, .int .i64 v]] rfl rfl (by simp) (fun j x vs hj hv => by
                        match j, hj, hv with
                        | 0, hj, hv => simp at hj hv; subst hj hv; exact ⟨[_], [_], rfl, rfl, rfl⟩
                        | j + 1, hj, _ => simp at hj) hz9
                    replace hW2 := hide hW2
                    have n8 := hS9.box.c8
                    have f8 := hS9.box.free 8
                    have hcl := hS9.box.lt
                    clear hS9 p1 p2
                    obtain ⟨q, hq⟩ : ∃ r : Nine, { q with A8 := some ⟨w9.heap.size, 0, none⟩, n8 := 1, c8 := 1 } = r := ⟨_, rfl⟩
                    rw [hq] at hS
                    have h1 : q.z = code := by rw [← hq]; exact h1
                    have h2 : q.co ∈ mcourses := by rw [← hq]; exact h2
                    have h3 : q.pa ∈ partsL := by rw [← hq]; exact h3
                    have h4 : 1 ≤ q.n ∧ q.n ≤ 2 ∧ q.n ≤ s := by rw [← hq]; exact h4
                    have h6 : 0 ≤ q.m ∧ q.m ≤ 30 := by rw [← hq]; exact h6
                    have hst : StartsMade d s q.n [((0 : Int), v)] := by rw [← hq]; exact hst
                    replace hq := hide hq
                    go_upto_region 21 with fail
                    rw [hW2.out]
                    clear n8 f8 hcl hW2
                    (
                      have y0 := hS.box.c0
                      have y1 := hS.box.c1
                      have y2 := hS.box.c2
                      have y3 := hS.box.c3
                      have y4 := hS.box.c4
                      have y5 := hS.box.c5
                      have y6 := hS.box.c6
                      have y7 := hS.box.c7
                      have y8 := hS.box.c8
                      have r0 := hS.cst.res.c0
                      have r1 := hS.cst.res.c1
                      have r2 := hS.cst.res.c2
                      have r3 := hS.cst.res.c3
                      have r4 := hS.cst.res.c4
                      have r5 := hS.cst.res.c5
                      have r6 := hS.cst.res.c6
                      have r7 := hS.cst.res.c7
                      have r8 := hS.cst.res.c8
                      have q0 := hS.cst.res.free 0
                      have q1 := hS.cst.res.free 1
                      have q2 := hS.cst.res.free 2
                      have q3 := hS.cst.res.free 3
                      have q4 := hS.cst.res.free 4
                      have q5 := hS.cst.res.free 5
                      have q6 := hS.cst.res.free 6
                      have q7 := hS.cst.res.free 7
                      have q8 := hS.cst.res.free 8
                      replace hS := hide hS
                      replace h1 := hide h1
                      replace h8 := hide h8
                      go_wp2_with fail
                      refine end_clsX rfl (gb + 1) q _ rfl rfl hS.out.cst.res ?_
                      exact dcls_of h1.out h2 h3 h4 h5 h6 h7 hst hS.out hgw)
                  · have hst := hst.made (by omega) (by omega)
                    have hss0 : ¬ ((q.n8 : Int) = 0) := by omega
                    clear hn8 h0 hlen
                    (
                      have y0 := hS.box.c0
                      have y1 := hS.box.c1
                      have y2 := hS.box.c2
                      have y3 := hS.box.c3
                      have y4 := hS.box.c4
                      have y5 := hS.box.c5
                      have y6 := hS.box.c6
                      have y7 := hS.box.c7
                      have y8 := hS.box.c8
                      have r0 := hS.cst.res.c0
                      have r1 := hS.cst.res.c1
                      have r2 := hS.cst.res.c2
                      have r3 := hS.cst.res.c3
                      have r4 := hS.cst.res.c4
                      have r5 := hS.cst.res.c5
                      have r6 := hS.cst.res.c6
                      have r7 := hS.cst.res.c7
                      have r8 := hS.cst.res.c8
                      have q0 := hS.cst.res.free 0
                      have q1 := hS.cst.res.free 1
                      have q2 := hS.cst.res.free 2
                      have q3 := hS.cst.res.free 3
                      have q4 := hS.cst.res.free 4
                      have q5 := hS.cst.res.free 5
                      have q6 := hS.cst.res.free 6
                      have q7 := hS.cst.res.free 7
                      have q8 := hS.cst.res.free 8
                      replace hS := hide hS
                      replace h1 := hide h1
                      replace h8 := hide h8
                      go_wp2_with fail
                      refine end_clsX rfl (gb + 1) q _ rfl rfl hS.out.cst.res ?_
                      exact dcls_of h1.out h2 h3 h4 h5 h6 h7 hst hS.out hgw))
end Go.Proofs.YthejgholpkeldaaGreatDoor
