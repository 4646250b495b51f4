/- Requests that were made: they are valid, and are read as they were written (plain). No walk. Walk of Dice.Requests: what is made. Conditions: the dice's cells; the classes'. The students of requests, and what each of them wants: sums and orders (plain). No walk. Walks of slices.SortStableFunc at requests, and of the sort by priorities. Conditions: the row is their own; fewer than 2^60 requests. Walk of requests.Wanted. Conditions: the requests' cells; at most 1000000000 requests, each with at most as many courses instead. The check at the head of law 12. Condition: the program's variables hold what Std says. -/
import Derived.Test.YthejgholpkeldaaGreatDoorShelfS
import Derived.Test.YthejgholpkeldaaGreatDoorRows
import Derived.WalkKit
import Derived.WalkSpells
import Derived.WalkLawsBesides
import Derived.BigGuardPart
import Derived.Lib.Hide
import Derived.Laws.BitsAllLaws
import Derived.Laws.BitsLemmas
import Derived.Lib.LaidTab
import Derived.Test.YthejgholpkeldaaGreatDoorShelf
import Derived.Lib.ConvBytes
import Derived.Deep.QuietTactic
import Derived.BigQuiet
import Derived.Laws.ResultCell
import Derived.RegionTactic
import Derived.BigRegion
import Derived.Deep.RegionHeld3
import Derived.Deep.DeepCutAuto
import Derived.Lib.SmallJoins
import Derived.Lib.SplitLaws
import Derived.Lib.CountLaws
import Derived.Lib.IndexMore
import Derived.Lib.Split
import Derived.Lib.Join
import Derived.Lib.ItoaNum
import Derived.Laws.AppendOwn
import Derived.Test.YthejgholpkeldaaGreatDoorShelfT
import Derived.Lib.ItoaLen
import Derived.Lib.AppendIntMem
import Derived.Deep.AppendLies
import Derived.Lib.PathFns
import Derived.Maps.Range
import Derived.Lib.OwnBridge
import Derived.Sort.OwnSorted
import Derived.Sort.Walk0
import Derived.Test.YthejgholpkeldaaGreatDoorCards
import Derived.Test.YthejgholpkeldaaGreatDoorTie
import Derived.ProofKit
import Derived.OpenShut
import Derived.LaidMore
import Derived.Lay
import Derived.SevenTiedAt
import Derived.Stop.Joined
import Derived.Stop.LaidErr
import Derived.Deep.DeepHandedRow
import Derived.Lib.LaidU8
import Derived.LaidSub
import Derived.Deep.Slices
import Derived.Deep.Fields
import Derived.ChangeSame
import Derived.Maps.OwnSet
import Derived.Deep.RegionLaw
import Derived.Deep.RegionLawGrows
import Derived.StringKeys
import Derived.Sort.LotA
import Derived.Shelf.SlSortCmp.NoneTotal
import Derived.Shelf.SlSortCmp.InsertionK
import Derived.Shelf.SlSortCmp.SiftDownK
import Derived.Shelf.SlSortCmp.KitK
import Derived.Shelf.SlSortCmp.ReverseRangeK
import Derived.Test.YthejgholpkeldaaGreatDoorZDCls
import Derived.Test.YthejgholpkeldaaGreatDoorZDOddQ
import Derived.Test.YthejgholpkeldaaGreatDoorZShortP
import Derived.Test.YthejgholpkeldaaGreatDoorZDClss
import Derived.Test.YthejgholpkeldaaGreatDoorZStabS
import Derived.Test.YthejgholpkeldaaGreatDoorZCmpR
import Derived.Test.YthejgholpkeldaaGreatDoorZPlainA
import Derived.Test.YthejgholpkeldaaGreatDoorZQStudR
namespace Go.Proofs.YthejgholpkeldaaGreatDoor
open Go.RowKit
set_option maxRecDepth 100000

def sName (q : Nat) : ByteArray := (⟨#[115]⟩ : ByteArray) ++ ⟨#[UInt8.ofNat (48 + q)]⟩
/-- What is known of one made request. -/
def ReqIs (x : Req) : Prop := (∃ q, 1 ≤ q ∧ q ≤ 5 ∧ x.1 = sName q) ∧ x.2.1 ∈ mcourses ∧ 1 ≤ x.2.2.1 ∧ x.2.2.1 ≤ 9 ∧ (x.2.2.2 = [] ∨ ∃ z ∈ mcourses, z ≠ x.2.1 ∧ x.2.2.2 = [z])
def keyQ (x : Req) : ByteArray × ByteArray := (x.1, x.2.1)
def QMade (ls : List Req) : Prop := ls.length ≤ 15 ∧ (∀ x ∈ ls, ReqIs x) ∧ (ls.map keyQ).Nodup
theorem sName_ok : ∀ q : Nat, q < 6 → 1 ≤ q → codeB (sName q) = true ∧ (sName q).size ≤ 100 ∧ ∀ p : Nat, p < 6 → 1 ≤ p → sName p = sName q → p = q := by decide +kernel
theorem insE_is {x : Req} (h : ReqIs x) : insE x.2.1 x.2.2.2 x.2.2.2.length = 0 := by
  obtain ⟨-, -, -, -, h5⟩ := h
  rcases h5 with h5 | ⟨z, hz, hne, h5⟩
  · rw [h5]; rfl
  · rw [h5]
    show insE x.2.1 [z] 1 = 0
    rw [insE, if_neg (by simp [insE])]
    rw [show ([z] : List ByteArray).getD 0 ⟨#[]⟩ = z from rfl, if_neg (by rw [mcourses_ok z hz]; simp), if_neg]
    rintro (h | h)
    · exact hne h
    · have := idx_memS.1 h; simp at this
theorem reqEx_is {x : Req} (h : ReqIs x) : reqEx x = 0 := by
  have hi := insE_is h
  obtain ⟨⟨q, q1, q2, h1⟩, h2, h3, h4, h5⟩ := h
  unfold reqEx
  rw [if_neg (by rw [h1, (sName_ok q (by omega) q1).1]; simp), if_neg (by rw [mcourses_ok _ h2]; simp), if_neg (by omega), if_neg (by omega), if_neg (by rcases h5 with h5 | ⟨z, -, -, h5⟩ <;> rw [h5] <;> simp)]
  exact hi
theorem hasQ_take {ls : List Req} (hn : (ls.map keyQ).Nodup) {j : Nat} {x : Req} (hx : ls[j]? = some x) : hasQ (ls.take j) x.1 x.2.1 = false := by
  cases hh : hasQ (ls.take j) x.1 x.2.1 with
  | false => rfl
  | true =>
    exfalso
    obtain ⟨y, hy, hq⟩ := hasQ_iff.1 hh
    have hq := of_decide_eq_true hq
    obtain ⟨i, hi, he⟩ := List.mem_take_iff_getElem.1 hy
    have hj := (List.getElem?_eq_some_iff.1 hx).1
    have h1 : (ls.map keyQ)[i]? = some (x.1, x.2.1) := by
      rw [List.getElem?_map, List.getElem?_eq_getElem (by omega), he]
      show some (keyQ y) = _
      unfold keyQ
      rw [hq.1, hq.2]
    have h2 : (ls.map keyQ)[j]? = some (x.1, x.2.1) := by rw [List.getElem?_map, hx]; rfl
    have hlen : i < (ls.map keyQ).length := by rw [List.length_map]; omega
    have := (List.getElem_inj (h₀ := hlen) (h₁ := by rw [List.length_map]; exact hj) hn).1 (by
      have e1 := (List.getElem?_eq_some_iff.1 h1).2
      have e2 := (List.getElem?_eq_some_iff.1 h2).2
      rw [e1, e2])
    omega
theorem validQ_of {ls : List Req} (h4 : ls.length ≤ 400) (h : ∀ (j : Nat) (x : Req), ls[j]? = some x → reqE x (ls.take j) = 0) : validQ ls = 0 := by
  unfold validQ
  rw [if_neg (by omega)]
  have key : ∀ n, n ≤ ls.length → reqErr ls n = 0 := by
    intro n
    induction n with
    | zero => intro _; rfl
    | succ n ih =>
      intro hn
      exact req_on (List.getElem?_eq_getElem (by omega)) (ih (by omega)) (h n _ (List.getElem?_eq_getElem (by omega)))
  exact key _ (Nat.le_refl _)
theorem QMade.valid {ls : List Req} (h : QMade ls) : validQ ls = 0 := by
  obtain ⟨h1, h2, h3⟩ := h
  refine validQ_of (by omega) fun j x hx => ?_
  unfold reqE
  rw [if_neg (by rw [reqEx_is (h2 x (List.mem_of_getElem? hx))]; simp), if_neg (by rw [hasQ_take h3 hx]; simp), if_neg]
  have := fresh_len (studs (ls.take j ++ [x]))
  have h5 : (studs (ls.take j ++ [x])).length ≤ 16 := by unfold studs; rw [List.length_map, List.length_append, List.length_take]; simp; omega
  omega
theorem join_back : ∀ a ∈ ([] :: mcourses.map fun z => [z]), shortV (joinV a).2 = (0, a) ∧ (listV (joinV a).2).2 = a ∧ (joinV a).2.size ≤ 100 := by decide +kernel
theorem dec_back : ∀ n : Nat, n < 10 → 1 ≤ n → numS 1 (decB n) = some n ∧ (decB n).size ≤ 100 := by decide +kernel
theorem mcourses_size : ∀ z ∈ mcourses, z.size ≤ 100 := by decide +kernel
theorem ins_mem {x : Req} (h : ReqIs x) : x.2.2.2 ∈ ([] :: mcourses.map fun z => [z]) := by
  obtain ⟨-, -, -, -, h5⟩ := h
  rcases h5 with h5 | ⟨z, hz, -, h5⟩
  · rw [h5]; simp
  · rw [h5]; exact List.mem_cons_of_mem _ (List.mem_map.2 ⟨z, hz, rfl⟩)
theorem rowQ_small {x : Req} (h : ReqIs x) : (rowQ x).length = 4 ∧ ∀ z ∈ rowQ x, z.size ≤ 100 := by
  refine ⟨rfl, fun z hz => ?_⟩
  have h6 := (join_back _ (ins_mem h)).2.2
  obtain ⟨⟨q, q1, q2, h1⟩, h2, h3, h4, h5⟩ := h
  unfold rowQ at hz
  simp at hz
  rcases hz with rfl | rfl | rfl | rfl
  · rw [h1]; exact (sName_ok q (by omega) q1).2.1
  · exact mcourses_size _ h2
  · exact (dec_back x.2.2.1.toNat (by omega) (by omega)).2
  · exact h6
theorem rowsQ_small {ls : List Req} (h : QMade ls) : rowsQ ls = ls.map rowQ ∧ (rowsQ ls).length = ls.length ∧ ∀ x ∈ rowsQ ls, x.length = 4 ∧ ∀ z ∈ x, z.size ≤ 100 := by
  have e : rowsQ ls = ls.map rowQ := if_pos h.valid
  refine ⟨e, by rw [e, List.length_map], fun x hx => ?_⟩
  rw [e] at hx
  obtain ⟨y, hy, rfl⟩ := List.mem_map.1 hx
  exact rowQ_small (h.2.1 y hy)
end Go.Proofs.YthejgholpkeldaaGreatDoor

namespace Go.Proofs.YthejgholpkeldaaGreatDoor
open Go.RowKit
set_option maxRecDepth 100000

def digB (q : Nat) : ByteArray := ⟨#[UInt8.ofNat (48 + q)]⟩
theorem conv_cell {V : World} {nb : Nat} (q : Nat) (hq : q ≤ 100) (h : V.cell? ⟨nb, 0, none⟩ = some (.int .u8 (48 + (q : Int)))) (cap : Nat) : (convert 46 9 (.slice (some ⟨nb, 0, none⟩) 1 cap)).run Tryz.prog V = .ok (.string ⟨#[UInt8.ofNat (48 + q)]⟩) V :=
  run_convert_bytes_back _ 46 9 5 ⟨nb, 0, none⟩ cap [UInt8.ofNat (48 + q)] Tryz.underlying46 Tryz.underlying5 Tryz.underlying9 (by
    intro j hj
    have hj : j = 0 := by simp at hj; omega
    subst hj
    have he : ((UInt8.ofNat (48 + q)).toNat : Int) = 48 + (q : Int) := by
      rw [UInt8.toNat_ofNat']; omega
    simp [Addr.add, h]
    omega)
theorem lt_ofCell {w : World} {b o : Nat} {v : Value} (h : w.cell? ⟨b, o, none⟩ = some v) : b < w.heap.size := World.block_lt_of_cell? w ⟨b, o, none⟩ h
theorem keepByte {B g b : Nat} {V w4 : World} {v : Value} (h : Thrown B V g w4) (hg : b ≠ g) (hb : V.heap[b]? = some (.cells #[v] 5 (0, 0))) : w4.cell? ⟨b, 0, none⟩ = some v := by
  have hb4 : w4.heap[b]? = some (.cells #[v] 5 (0, 0)) := (h.only.block b (Array.getElem?_eq_some_iff.1 hb).1 (fun e => by injection e with e; exact hg e)).trans hb
  rw [cell_of_row w4 b _ _ _ _ hb4]; rfl
theorem keepBox {B g b : Nat} {V w4 : World} {x0 x1 x2 x3 : Value} (h : Thrown B V g w4) (hg : b ≠ g) (hb : V.heap[b]? = some (.cells #[x0, x1, x2, x3] 53 (0, 0))) :
    w4.heap[b]? = some (.cells #[x0, x1, x2, x3] 53 (0, 0)) ∧ w4.cell? ⟨b, 0, none⟩ = some x0 ∧ w4.cell? ⟨b, 1, none⟩ = some x1 ∧ w4.cell? ⟨b, 2, none⟩ = some x2 ∧ w4.cell? ⟨b, 3, none⟩ = some x3 ∧ ∀ j, w4.frozen? ⟨b, j, none⟩ = false := by
  have hb4 : w4.heap[b]? = some (.cells #[x0, x1, x2, x3] 53 (0, 0)) := (h.only.block b (Array.getElem?_eq_some_iff.1 hb).1 (fun e => by injection e with e; exact hg e)).trans hb
  refine ⟨hb4, ?_, ?_, ?_, ?_, fun j => by simp [World.frozen?, hb4]⟩ <;> (rw [cell_of_row w4 b _ _ _ _ hb4]; rfl)
/-- A world on the way: the dice, and a course. -/
structure DqSt (B : Nat) (w : World) (g b o : Nat) (y : ByteArray) (V : World) : Prop where
  thrown : Thrown B w g V
  cell : V.cell? ⟨b, o, none⟩ = some (.string y)
theorem DqSt.alloc {B g b o : Nat} {w V : World} {y : ByteArray} (h : DqSt B w g b o y V) (x : Obj) : DqSt B w g b o y (V.alloc x) := ⟨h.thrown.alloc x, cell_alloc_of h.cell x⟩
theorem DqSt.drew {B g b o : Nat} {w V : World} {y : ByteArray} (h : DqSt B w g b o y V) : DqSt B w g b o y V.drew := ⟨h.thrown.later (ext_drew (Below.refl _ _)), h.cell⟩
theorem rowBox {W : World} {bx : Nat} {x0 x1 x2 x3 : Value} (h : W.heap[bx]? = some (.cells #[x0, x1, x2, x3] 53 (0, 0))) : Box4 W bx x0 x1 x2 x3 ∧ ∀ j, W.frozen? ⟨bx, j, none⟩ = false := by
  refine ⟨⟨?_, ?_, ?_, ?_⟩, fun j => by simp [World.frozen?, h]⟩ <;> (rw [cell_of_row W bx _ _ _ _ h]; rfl)
theorem keepRow {B g b : Nat} {V w4 : World} {o : Obj} (h : Thrown B V g w4) (hg : b ≠ g) (hb : V.heap[b]? = some o) : w4.heap[b]? = some o :=
  (h.only.block b (Array.getElem?_eq_some_iff.1 hb).1 (fun e => by injection e with e; exact hg e)).trans hb
theorem notTy {W : World} {C bx : Nat} {cs : Array Value} {fr : Nat × Nat} (h : W.heap[bx]? = some (.cells cs 53 fr)) : ¬ (C ≤ bx ∧ TyAt [9] W bx) := by
  rintro ⟨-, cs', t', hc, ht⟩
  rw [h] at hc
  injection hc with h3
  injection h3 with _ h4
  rw [← h4] at ht
  exact absurd ht (by decide)
theorem At.tyOnly {g C bx : Nat} {a b : World} {A : Option Addr} {L : List ByteArray} {cs : Array Value} {e : TypeId} {fr : Nat × Nat} (h : At kStr (fun x => x ≠ g ∧ Ty [9] 0 C a x) a A L) (ho : Only bx a b) (hx : a.heap[bx]? = some (.cells cs e fr)) (he : e ≠ 9) : At kStr (fun x => x ≠ g ∧ Ty [9] 0 C b x) b A L :=
  h.kept fun x ⟨h1, h2⟩ hlt => by
    have hne : some x ≠ some bx := by
      intro e1
      injection e1 with e1
      subst e1
      rcases h2 with h2 | ⟨-, cs', t, h3, h4⟩
      · exact absurd h2 (Nat.not_lt_zero _)
      · rw [hx] at h3
        injection h3 with h3
        injection h3 with _ h5
        rw [← h5] at h4
        exact he (by simpa using h4)
    have hb := ho.block x hlt hne
    refine ⟨⟨h1, ?_⟩, Nat.lt_of_lt_of_le hlt ho.size, hb⟩
    rcases h2 with h2 | ⟨h2, cs', t, h3, h4⟩
    · exact .inl h2
    · exact .inr ⟨h2, cs', t, hb.trans h3, h4⟩
/-- The box of a request that was just made. -/
structure RqBox (B : Nat) (w : World) (g bx : Nat) (x0 x1 x2 x3 : Value) (W : World) : Prop where
  thrown : Thrown B w g W
  lo : w.heap.size ≤ bx
  row : W.heap[bx]? = some (.cells #[x0, x1, x2, x3] 53 (0, 0))
theorem RqBox.alloc {B g bx : Nat} {w W : World} {x0 x1 x2 x3 : Value} (h : RqBox B w g bx x0 x1 x2 x3 W) (o : Obj) : RqBox B w g bx x0 x1 x2 x3 (W.alloc o) := ⟨h.thrown.alloc o, h.lo, block_after h.row⟩
theorem RqBox.new {B g : Nat} {w W : World} (h : Thrown B w g W) (x0 x1 x2 x3 : Value) : RqBox B w g W.heap.size x0 x1 x2 x3 (W.alloc (.cells #[x0, x1, x2, x3] 53)) :=
  ⟨h.alloc _, h.size, heap_alloc_new _ _⟩
theorem RqBox.new2 {B g : Nat} {w W : World} (h : Thrown B w g W) (o : Obj) (x0 x1 x2 x3 : Value) : RqBox B w g (W.heap.size + 1) x0 x1 x2 x3 ((W.alloc o).alloc (.cells #[x0, x1, x2, x3] 53)) := by
  have := RqBox.new (h.alloc o) x0 x1 x2 x3
  rwa [World.size_alloc] at this
theorem RqBox.set {B g bx : Nat} {w W : World} (h : Thrown B w g W) (hlo : w.heap.size ≤ bx) {v0 v1 v2 v3 : Value} (hb : W.heap[bx]? = some (.cells #[v0, v1, v2, v3] 53 (0, 0))) (x0 x1 x2 x3 : Value) :
    RqBox B w g bx x0 x1 x2 x3 ((((W.setCell ⟨bx, 0, none⟩ x0).setCell ⟨bx, 1, none⟩ x1).setCell ⟨bx, 2, none⟩ x2).setCell ⟨bx, 3, none⟩ x3) :=
  ⟨h.set4 hlo _ _ _ _, hlo, (heap_setCell_same _ _ _ _ _ _ ((heap_setCell_same _ _ _ _ _ _ ((heap_setCell_same _ _ _ _ _ _ ((heap_setCell_same _ _ _ _ _ _ hb).trans rfl)).trans rfl)).trans rfl)).trans rfl⟩
def RqCut (B : Nat) (w : World) (g k : Nat) (y : ByteArray) (s9 : Value) (wx : World) : Prop :=
  ∃ bx p : Nat, s9 = .pointer (some ⟨bx, 0, none⟩) ∧ p < 9 ∧ RqBox B w g bx (.string (sName k)) (.string y) (.int .i64 (1 + (p : Int))) (.slice none 0 0) wx
theorem RqCut.of {B g k bx p : Nat} {w wx : World} {y : ByteArray} (h : RqBox B w g bx (.string (sName k)) (.string y) (.int .i64 (1 + (p : Int))) (.slice none 0 0) wx) (hp : p < 9) : RqCut B w g k y (.pointer (some ⟨bx, 0, none⟩)) wx := ⟨bx, p, rfl, hp, h⟩
theorem sName_is (q : Nat) : (⟨#[115]⟩ : ByteArray) ++ digB q = sName q := rfl
def DReq (B : Nat) (w : World) (g : Nat) (e : Ending) (w' : World) : Prop :=
  ∃ v ls, e = .returned v ∧ QMade ls ∧ Own kReq 53 [9] 0 w.heap.size w' v ls ∧ Thrown B w g w'
/-- What was made while s students are still to come, and the first i courses of the one at hand are done. -/
def QUpto (L : List ByteArray) (s i : Nat) (ls : List Req) : Prop :=
  (∀ x ∈ ls, ReqIs x ∧ x.2.1 ∈ L ∧ ∃ q, q ≤ 5 ∧ x.1 = sName q ∧ (s < q ∨ q = s ∧ x.2.1 ∈ L.take i)) ∧ (ls.map keyQ).Nodup ∧ ls.length ≤ (5 - s) * 3 + i
theorem QUpto.key {L : List ByteArray} {s i : Nat} {ls : List Req} (h : QUpto L s i ls) (hL : L.Nodup) {c : ByteArray} (hc : L[i]? = some c) (hs1 : 1 ≤ s) (hs : s ≤ 5) : ¬ (sName s, c) ∈ ls.map keyQ := by
  intro hm
  obtain ⟨x, hx, he⟩ := List.mem_map.1 hm
  unfold keyQ at he
  injection he with e1 e2
  obtain ⟨-, -, q, hq5, hq, hor⟩ := h.1 x hx
  rcases hor with hlt | ⟨rfl, hmem⟩
  · have := (sName_ok s (by omega) hs1).2.2 q (by omega) (by omega) (hq.symm.trans e1)
    omega
  · rw [e2] at hmem
    obtain ⟨k, hk⟩ := List.getElem?_of_mem hmem
    rw [List.getElem?_take] at hk
    split at hk
    · rename_i hki
      exact get_nodup hL hki hk hc
    · cases hk
theorem QUpto.skip {L : List ByteArray} {s i : Nat} {ls : List Req} (h : QUpto L s i ls) : QUpto L s (i + 1) ls := by
  obtain ⟨h1, h2, h3⟩ := h
  refine ⟨fun x hx => ?_, h2, by omega⟩
  obtain ⟨a, b, q, hq5, hq, hor⟩ := h1 x hx
  refine ⟨a, b, q, hq5, hq, ?_⟩
  rcases hor with hlt | ⟨hqs, hm⟩
  · exact Or.inl hlt
  · refine Or.inr ⟨hqs, ?_⟩
    rw [List.take_add_one]
    exact List.mem_append_left _ hm
theorem QUpto.snoc {L : List ByteArray} {s i : Nat} {ls : List Req} (h : QUpto L s i ls) (hL : L.Nodup) {c : ByteArray} (hc : L[i]? = some c) (hs1 : 1 ≤ s) (hs : s ≤ 5) {x : Req} (hx1 : x.1 = sName s) (hx2 : x.2.1 = c) (hx : ReqIs x) : QUpto L s (i + 1) (ls ++ [x]) := by
  have hk := h.key hL hc hs1 hs
  obtain ⟨h1, h2, h3⟩ := h.skip
  refine ⟨fun y hy => ?_, ?_, by have := h.2.2; rw [List.length_append]; simp; omega⟩
  · rcases List.mem_append.1 hy with hy | hy
    · exact h1 y hy
    · simp at hy
      subst hy
      refine ⟨hx, by rw [hx2]; exact List.mem_of_getElem? hc, s, hs, hx1, Or.inr ⟨rfl, ?_⟩⟩
      rw [List.take_add_one, hc, hx2]
      simp
  · rw [List.map_append]
    refine List.nodup_append.2 ⟨h2, by simp, fun a ha b hb => ?_⟩
    simp at hb
    subst hb
    rintro rfl
    apply hk
    have : keyQ x = (sName s, c) := by unfold keyQ; rw [hx1, hx2]
    rw [← this]
    exact ha
theorem QUpto.down {L : List ByteArray} {s : Nat} {ls : List Req} (h : QUpto L (s + 1) L.length ls) (hL : L.length ≤ 3) (hs : s ≤ 4) : QUpto L s 0 ls := by
  obtain ⟨h1, h2, h3⟩ := h
  refine ⟨fun x hx => ?_, h2, by omega⟩
  obtain ⟨a, b, q, hq5, hq, hor⟩ := h1 x hx
  exact ⟨a, b, q, hq5, hq, Or.inl (by rcases hor with h | ⟨h, -⟩ <;> omega)⟩
theorem QUpto.down' {L : List ByteArray} {k i : Nat} {ls : List Req} (h : QUpto L k i ls) (hi : i = L.length) (hk : 1 ≤ k) (hL : L.length ≤ 3) (hk5 : k ≤ 5) : QUpto L (k - 1) 0 ls := by
  obtain ⟨s, rfl⟩ : ∃ s, k = s + 1 := ⟨k - 1, by omega⟩
  subst hi
  exact h.down hL (by omega)
theorem QUpto.made {L : List ByteArray} {s : Nat} {ls : List Req} (h : QUpto L s 0 ls) : QMade ls := ⟨by have := h.2.2; omega, fun x hx => (h.1 x hx).1, h.2.1⟩
/-- The requests made so far, the list of courses, the dice. -/
def DQLoop (B : Nat) (w : World) (g : Nat) (L : List ByteArray) (A5 : Option Addr) (v6 v7 : Value) (wr : World) : Prop :=
  ∃ (k : Nat) (ls : List Req), v7 = .int .i64 k ∧ k ≤ 5 ∧ QUpto L k 0 ls ∧ Own kReq 53 [9] 0 w.heap.size wr v6 ls ∧ Thrown B w g wr ∧ At kStr (fun b => b ≠ g ∧ Ty [9] 0 w.heap.size wr b) wr A5 L
def DQIn (B : Nat) (w : World) (g : Nat) (L : List ByteArray) (A5 : Option Addr) (k : Nat) (v6 v8 : Value) (wr : World) : Prop :=
  ∃ (i : Nat) (ls : List Req), v8 = .int .i64 i ∧ i ≤ L.length ∧ QUpto L k i ls ∧ Own kReq 53 [9] 0 w.heap.size wr v6 ls ∧ Thrown B w g wr ∧ At kStr (fun b => b ≠ g ∧ Ty [9] 0 w.heap.size wr b) wr A5 L
def DqNext (B : Nat) (w V0 : World) (g b o : Nat) (y : ByteArray) (e : Ending) (V : World) : Prop := ∃ k : Nat, e = .returned (.int .i64 (k : Int)) ∧ k < 9 ∧ DqSt B w g b o y V ∧ V.cell? ⟨b, o, none⟩ = some (.string y) ∧ Thrown B V0 g V
set_option maxHeartbeats 80000000 in
theorem dreq_walk (B g : Nat) (A : Option Addr) (l : List Cls) (c : Nat) (w : World) (h : DiceOk B w g) (hl : l.length ≤ 1000) (hA : At kCls (fun b => b ≠ g) w A l) (hm : ∀ x ∈ l, x.2.1 ∈ mcourses) :
    Calls Tryz.prog 8 #[.pointer (some ⟨g, 0, none⟩), .slice A l.length c] w fun e w' => DReq B w g e w' := by
  have hcw := courses_walk A l c w (by omega) hA.any
  obtain ⟨L, hL⟩ : ∃ L, coursesV l [] = L := ⟨_, rfl⟩
  have hLn : L.Nodup := by rw [← hL]; exact coursesV_nodup l [] (by simp)
  have hLm : ∀ z ∈ L, z ∈ mcourses := fun z hz => by
    rw [← hL] at hz
    rcases coursesV_mem l [] z hz with h | ⟨x, hx, rfl⟩
    · simp at h
    · exact hm x hx
  have hLl : L.length ≤ 3 := hLn.length_le_of_subset hLm
  unfold CrsIs at hcw
  rw [hL] at hcw
  clear hL hA hm
  obtain ⟨n, hnn⟩ : ∃ n, l.length = n := ⟨_, rfl⟩
  rw [hnn] at hcw ⊢
  clear hnn hl
  have hgw := h.lt
  replace hLn := hide hLn
  replace hLm := hide hLm
  go_enter Tryz.func8, Tryz.ntmps8
  go_wp2_with fail
  refine hcw.mono ?_
  clear hcw
  rintro e w1 ⟨v5, rfl, hown, hb1⟩
  obtain ⟨A5, c5, rfl⟩ := hown.form
  have hat : At kStr (fun b => b ≠ g ∧ Ty [9] 0 w.heap.size w1 b) w1 A5 L := by
    obtain ⟨A', c', e, -, h1⟩ := hown.at
    injection e with e _ _
    subst e
    refine h1.more fun b hb => ⟨?_, hb⟩
    rcases hb with hb | ⟨hb, -⟩
    · exact absurd hb (Nat.not_lt_zero _)
    · omega
  have hcap := hown.cap
  have D1 := h.later hb1
  have T1 : Thrown B w g w1 := ⟨hgw, D1, only_of_below hb1 _⟩
  clear hown h D1 hb1
  go_wp2_with fail
  refine (next_walk B g 6 (by omega) w1 T1.dice).mono ?_
  rintro e w2 ⟨k0, rfl, p2, q2, -, T2, -⟩
  have q2 := q2 (by omega)
  obtain ⟨k0, rfl⟩ := Int.eq_ofNat_of_zero_le p2
  replace hat := hat.tyTossed T2
  replace T1 := T1.trans T2
  clear T2 p2
  go_wp2_with fail
  go_loopw [6, 7] (fun v6 v7 wr => DQLoop B w g L A5 v6 v7 wr) (fun _ v7 _ => (intOf v7).toNat)
  case atStart => exact ⟨k0, [], rfl, by omega, ⟨fun x hx => by simp at hx, by simp, by simp⟩, Own.nil, T1, hat⟩
  case round =>
    clear hat T1
    obtain ⟨k, ls, rfl, hk, hmade, hown, T, hat⟩ := hrel
    by_cases hgo : 0 < k ∧ 0 < L.length
    · obtain ⟨hk0, hL0⟩ := hgo
      have hk1 : (0 : Int) < (k : Int) := by omega
      have hL1 : (0 : Int) < (L.length : Int) := by omega
      have hnw : IntKind.i64.wrap ((k : Int) - 1) = ((k - 1 : Nat) : Int) := by rw [IntKind.wrap_i64]; omega
      obtain ⟨M, hM⟩ : ∃ M, L.length = M := ⟨_, rfl⟩
      rw [hM] at hL1 hLl hL0 ⊢
      replace hM := hide hM
      go_wp2_with fail
      go_loopw [6, 8] (fun v6 v8 wi => DQIn B w g L A5 k v6 v8 wi) (fun _ v8 _ => M - (intOf v8).toNat)
      case atStart => exact ⟨0, ls, rfl, Nat.zero_le _, hmade, hown, T, hat⟩
      case round =>
        clear hmade hown T hat
        obtain ⟨i, ls, rfl, hi, hmade, hown, T, hat⟩ := hrel
        rw [hM.out] at hi
        by_cases hlt : i < M
        · obtain ⟨y, hy⟩ : ∃ y, L[i]? = some y := ⟨_, List.getElem?_eq_getElem (by rw [hM.out]; exact hlt)⟩
          have hi0 : (0 : Int) ≤ (i : Int) := by omega
          have hi1 : (i : Int) < (M : Int) := by omega
          go_wp2_with fail
          refine (one_walk B g 2 (by omega) (by omega) wr T.dice).mono ?_
          rintro e w3 ⟨bo, rfl, T3⟩
          have hown3 := hown.thrown T3 hgw (Nat.zero_le _)
          have hat3 := hat.tyTossed T3
          have TT := T.trans T3
          clear hown hat T T3
          cases bo with
          | false =>
            go_wp2_with fail
            go_roundw
            case rel => exact ⟨i + 1, ls, by go_num, by rw [hM.out]; omega, hmade.skip, hown3, TT, hat3⟩
            case measure => first | (simp [intOf]; done) | (simp [intOf]; omega)
          | true =>
            obtain ⟨cb, co, rfl, ⟨hcg, -⟩, hcl, y0⟩ := hat3.str hy
            have hg3 : g < w3.heap.size := by have := TT.size; omega
            have hst : DqSt B w3 g cb (co + i) y w3 := ⟨Thrown.refl TT.dice, y0⟩
            have hstd := hst.drew
            have w48 : IntKind.u8.wrap (48 + (k : Int)) = 48 + (k : Int) := by simp [IntKind.wrap, IntKind.bits, IntKind.signed]; omega
            have w48b : IntKind.i64.wrap (48 + (k : Int)) = 48 + (k : Int) := by rw [IntKind.wrap_i64]; omega
            have hnext := hide (fun (V : World) (hV : DqSt B w3 g cb (co + i) y V) => (next_walk B g 9 (by omega) V hV.thrown.dice).mono fun e V' ⟨v, he, p, q', _, T', _⟩ => (by
              obtain ⟨v, rfl⟩ := Int.eq_ofNat_of_zero_le p
              have := q' (by omega)
              exact ⟨v, he, by omega, ⟨hV.thrown.trans T', T'.cell hcg hV.cell⟩, T'.cell hcg hV.cell, T'⟩ : DqNext B w3 V g cb (co + i) y e V'))
            have hk100 : k ≤ 100 := by omega
            have hconv : ∀ (V : World) (nb : Nat), V.cell? ⟨nb, 0, none⟩ = some (.int .u8 (48 + (k : Int))) → (convert 46 9 (.slice (some ⟨nb, 0, none⟩) 1 1)).run Tryz.prog V = .ok (.string (digB k)) V := fun V nb hV => conv_cell k hk100 hV 1
            have hsn := sName_is k
            go_upto_region 10 with fail
            go_cut [9] (fun s9 wx => RqCut B w3 g k y s9 wx)
            case first =>
              have y0d : w3.drew.cell? ⟨cb, co + i, none⟩ = some (.string y) := y0
              have hgn : w3.heap.size ≠ g := by omega
              have hgn1 : w3.heap.size + 1 ≠ g := by omega
              go_region_with (first | (go_at_call 13; refine (hnext.out _ (by repeat (first | (with_reducible assumption) | (with_reducible refine DqSt.alloc ?_ _) | (with_reducible refine DqSt.drew ?_)))).mono ?_; rintro e w4 ⟨p, rfl, hp, hst4, hy4, hon4⟩; have hyl4 := lt_ofCell hy4; have hpw : IntKind.i64.wrap (1 + (p : Int)) = 1 + (p : Int) := (by rw [IntKind.wrap_i64]; omega); (try (have hb4 := keepByte hon4 hgn (heap_alloc_new _ _); have hl4 := lt_ofCell hb4)); (try (have hb4 := keepByte hon4 hgn (block_after (heap_alloc_new _ _)); have hl4 := lt_ofCell hb4)); (try (have hb5 := keepByte hon4 hgn1 (heap_new2 _ _ _); have hl5 := lt_ofCell hb5)); (try (obtain ⟨hxb, hx0, hx1, hx2, hx3, hxf⟩ := keepBox hon4 hgn (heap_alloc_new _ _); have hl6 := lt_ofCell hx0)); (try (obtain ⟨hxb, hx0, hx1, hx2, hx3, hxf⟩ := keepBox hon4 hgn (block_after (heap_alloc_new _ _)); have hl6 := lt_ofCell hx0)); (try (obtain ⟨hyb, hy0, hy1, hy2, hy3, hyf⟩ := keepBox hon4 hgn1 (heap_new2 _ _ _); have hl7 := lt_ofCell hy0))))
              all_goals
                go_wp2_with fail
                go_meet
                (try simp only [hsn])
                first
                  | (with_reducible exact RqCut.of (RqBox.new hst4.thrown _ _ _ _) hp)
                  | (with_reducible exact RqCut.of (RqBox.new2 hst4.thrown _ _ _ _ _) hp)
                  | (with_reducible exact RqCut.of ((RqBox.new hst4.thrown _ _ _ _).alloc _) hp)
                  | (with_reducible exact RqCut.of (RqBox.set hst4.thrown (Nat.le_succ _) hyb _ _ _ _) hp)
                  | (with_reducible exact RqCut.of (RqBox.set hst4.thrown (Nat.le_refl _) hxb _ _ _ _) hp)
                  | (with_reducible exact RqCut.of ((RqBox.set hst4.thrown (Nat.le_refl _) hxb _ _ _ _).alloc _) hp)
                  | (exact RqCut.of (RqBox.new hst4.thrown _ _ _ _) hp)
            case rest =>
              obtain ⟨bx, p, rfl, hp, hR⟩ := hcut
              have hsep : ∀ b, u6.ownBlock = some b → b < w3.heap.size := fun b hb => (hown3.lt b hb).2
              have hown5 := hown3.thrown hR.thrown hgw (Nat.zero_le _)
              have hat5 := hat3.tyTossed hR.thrown
              have TT5 := TT.trans hR.thrown
              have hlo := hR.lo
              have hzw3 := TT.size
              have hbg : bx ≠ g := by omega
              have hRow := hR.row
              have hsep2 : u6.ownBlock ≠ some bx := fun e => by have := hsep bx e; omega
              have hlen : ls.length ≤ 15 := by have := hmade.2.2; omega
              have hym : y ∈ mcourses := hLm.out y (List.mem_of_getElem? hy)
              have hwbx : w.heap.size ≤ bx := by omega
              clear hown3 hat3 TT y0 hst hnext hconv hsn hcl hzw3 hR hsep
              obtain ⟨j, hj, hjM⟩ : ∃ j : Nat, Int.tmod ((i : Int) + 1) (M : Int) = (j : Int) ∧ j < M := ⟨(i + 1) % M, by rw [show ((i : Int) + 1) = ((i + 1 : Nat) : Int) from by omega]; exact (Int.ofNat_tmod _ _).symm, Nat.mod_lt _ hL0⟩
              have hiw : IntKind.i64.wrap ((i : Int) + 1) = (i : Int) + 1 := by rw [IntKind.wrap_i64]; omega
              have hjw : IntKind.i64.wrap (j : Int) = (j : Int) := by rw [IntKind.wrap_i64]; omega
              have hMz : ¬ (M : Int) = 0 := by omega
              by_cases hji : j = i
              · have hjb : ((j : Int) == (i : Int)) = true := by simp [hji]
                have hjq : (j : Int) = (i : Int) := by omega
                obtain ⟨hBx, hFx⟩ := rowBox hRow
                have hld := load4q wc bx _ _ _ _ hBx.c0 hBx.c1 hBx.c2 hBx.c3
                have h0 := hBx.c0
                have h1 := hBx.c1
                have h2 := hBx.c2
                have h3 := hBx.c3
                have hrq := Kind.tyL kReq (req_rep (z := sName k) (co := y) (m := 1 + (p : Int)) (l := []) (F := none) (n := 0) (c := 0) (S := Ty [9] 0 w.heap.size wc) (W := wc) ⟨none, 0, rfl, Nat.le_refl _, fun h => absurd h (Nat.lt_irrefl 0)⟩) (ext_alloc (Below.refl _ _) (.cells #[.string (sName k), .string y, .int .i64 (1 + (p : Int)), .slice none 0 0] 53))
                have hown9 := hown5.alloc (.cells #[.string (sName k), .string y, .int .i64 (1 + (p : Int)), .slice none 0 0] 53)
                have hmade6 := hide (hmade.snoc (x := (sName k, y, 1 + (p : Int), [])) hLn.out hy (by omega) (by omega) rfl rfl ⟨⟨k, by omega, by omega, rfl⟩, hym, (by show (1 : Int) ≤ 1 + (p : Int); omega), (by show 1 + (p : Int) ≤ 9; omega), Or.inl rfl⟩)
                have hzz := TT5.size
                obtain ⟨A6, c6, rfl⟩ := hown5.form
                have hl6 : ls.length ≤ 15 := hlen
                go_wp2_with (at_builtin; refine wpList_own rfl _ _ rfl apd_reqs (by decide) rfl hown9 ?d1 (by decide) ⟨wc.heap.size, 0, none⟩ 1 rfl (sName k, y, 1 + (p : Int), []) [.string (sName k), .string y, .int .i64 (1 + (p : Int)), .slice none 0 0] hrq (World.news_of_block (cs := #[.string (sName k), .string y, .int .i64 (1 + (p : Int)), .slice none 0 0]) (t := 53) (fr := (0, 0)) (heap_alloc_new _ _)) (by decide) (Nat.zero_le _) ?d2 ?_)
                case d1 => omega
                case d2 => simp only [World.size_alloc]; omega
                intro v9 w9 hownF hgrow
                have T9 : Thrown B w g w9 := (TT5.alloc _).grown hgrow (fun y hy => (hown9.lt y hy).1)
                have hat9 : At kStr (fun x => x ≠ g ∧ Ty [9] 0 w.heap.size w9 x) w9 (some ⟨cb, co, none⟩) L := by
                  obtain ⟨vss, -, ho, -⟩ := hown9
                  exact (hat5.tyLater (ext_alloc (Below.refl _ _) _)).tyGrown ho (by decide) hgrow
                clear hown9 hgrow hrq h0 h1 h2 h3 hld hBx hFx
                go_wp2
                go_roundw
                case rel => exact ⟨i + 1, ls ++ [(sName k, y, 1 + (p : Int), [])], by go_num, by rw [hM.out]; omega, hmade6.out, hownF, T9, hat9⟩
                case measure => first | (simp [intOf]; done) | (simp [intOf]; omega)
              · have hjb : ((j : Int) == (i : Int)) = false := beq_false_of_ne (by omega)
                have hjq : ¬ (j : Int) = (i : Int) := by omega
                go_wp2_with fail
                refine (one_walk B g 2 (by omega) (by omega) wc TT5.dice).mono ?_
                rintro e w6 ⟨bo, rfl, T6⟩
                have hown7 := hown5.thrown T6 hgw (Nat.zero_le _)
                have hat7 := hat5.tyTossed T6
                have TT7 := TT5.trans T6
                have hRow7 := keepRow T6 hbg hRow
                clear hown5 hat5 TT5 hRow T6
                cases bo with
                | false =>
                  obtain ⟨hBx, hFx⟩ := rowBox hRow7
                  have hld := load4q w6 bx _ _ _ _ hBx.c0 hBx.c1 hBx.c2 hBx.c3
                  have h0 := hBx.c0
                  have h1 := hBx.c1
                  have h2 := hBx.c2
                  have h3 := hBx.c3
                  have hrq := Kind.tyL kReq (req_rep (z := sName k) (co := y) (m := 1 + (p : Int)) (l := []) (F := none) (n := 0) (c := 0) (S := Ty [9] 0 w.heap.size w6) (W := w6) ⟨none, 0, rfl, Nat.le_refl _, fun h => absurd h (Nat.lt_irrefl 0)⟩) (ext_alloc (Below.refl _ _) (.cells #[.string (sName k), .string y, .int .i64 (1 + (p : Int)), .slice none 0 0] 53))
                  have hown9 := hown7.alloc (.cells #[.string (sName k), .string y, .int .i64 (1 + (p : Int)), .slice none 0 0] 53)
                  have hmade6 := hide (hmade.snoc (x := (sName k, y, 1 + (p : Int), [])) hLn.out hy (by omega) (by omega) rfl rfl ⟨⟨k, by omega, by omega, rfl⟩, hym, (by show (1 : Int) ≤ 1 + (p : Int); omega), (by show 1 + (p : Int) ≤ 9; omega), Or.inl rfl⟩)
                  have hzz := TT7.size
                  obtain ⟨A6, c6, rfl⟩ := hown7.form
                  have hl6 : ls.length ≤ 15 := hlen
                  go_wp2_with (at_builtin; refine wpList_own rfl _ _ rfl apd_reqs (by decide) rfl hown9 ?d1 (by decide) ⟨w6.heap.size, 0, none⟩ 1 rfl (sName k, y, 1 + (p : Int), []) [.string (sName k), .string y, .int .i64 (1 + (p : Int)), .slice none 0 0] hrq (World.news_of_block (cs := #[.string (sName k), .string y, .int .i64 (1 + (p : Int)), .slice none 0 0]) (t := 53) (fr := (0, 0)) (heap_alloc_new _ _)) (by decide) (Nat.zero_le _) ?d2 ?_)
                  case d1 => omega
                  case d2 => simp only [World.size_alloc]; omega
                  intro v9 w9 hownF hgrow
                  have T9 : Thrown B w g w9 := (TT7.alloc _).grown hgrow (fun y hy => (hown9.lt y hy).1)
                  have hat9 : At kStr (fun x => x ≠ g ∧ Ty [9] 0 w.heap.size w9 x) w9 (some ⟨cb, co, none⟩) L := by
                    obtain ⟨vss, -, ho, -⟩ := hown9
                    exact (hat7.tyLater (ext_alloc (Below.refl _ _) _)).tyGrown ho (by decide) hgrow
                  clear hown9 hgrow hrq h0 h1 h2 h3 hld hBx hFx
                  go_wp2
                  go_roundw
                  case rel => exact ⟨i + 1, ls ++ [(sName k, y, 1 + (p : Int), [])], by go_num, by rw [hM.out]; omega, hmade6.out, hownF, T9, hat9⟩
                  case measure => first | (simp [intOf]; done) | (simp [intOf]; omega)
                | true =>
                  obtain ⟨z, hz⟩ : ∃ z, L[j]? = some z := ⟨_, List.getElem?_eq_getElem (by rw [hM.out]; exact hjM)⟩
                  obtain ⟨cb', co', he, -, hcl7, z0⟩ := hat7.str hz
                  injection he with he
                  injection he with he1 he2
                  subst he1 he2
                  have hzm : z ∈ mcourses := hLm.out z (List.mem_of_getElem? hz)
                  have hzy : z ≠ y := by
                    rintro rfl
                    rcases Nat.lt_or_gt_of_ne hji with h | h
                    · exact get_nodup hLn.out h hz hy
                    · exact get_nodup hLn.out h hy hz
                  obtain ⟨hB7, hF7⟩ := rowBox hRow7
                  have h0 := hB7.c0
                  have h1 := hB7.c1
                  have h2 := hB7.c2
                  have h3 := hB7.c3
                  have hf3 := hF7 3
                  have hxl := hB7.lt
                  have hj0 : (0 : Int) ≤ (j : Int) := by omega
                  have hj1 : (j : Int) < (M : Int) := by omega
                  have honS : Only bx w6 (w6.setCell ⟨bx, 3, none⟩ (.slice (some ⟨w6.heap.size, 0, none⟩) 1 1)) := only_setCell (World.grownBy.refl _ _) (Or.inl rfl) _
                  have hownS := (hown7.kept honS (Or.inr hsep2) (fun x hx => by
                    injection hx with hx
                    subst hx
                    exact ⟨Nat.zero_le _, notTy hRow7⟩)).alloc (.cells #[.string z] 9)
                  have hatS := (hat7.tyOnly honS hRow7 (by decide)).tyLater (ext_alloc (Below.refl _ _) (.cells #[.string z] 9))
                  have hRow8 : ((w6.setCell ⟨bx, 3, none⟩ (.slice (some ⟨w6.heap.size, 0, none⟩) 1 1)).alloc (.cells #[.string z] 9)).heap[bx]? = some (.cells #[.string (sName k), .string y, .int .i64 (1 + (p : Int)), (.slice (some ⟨w6.heap.size, 0, none⟩) 1 1)] 53 (0, 0)) := block_after ((heap_setCell_same _ _ _ _ _ _ hRow7).trans rfl)
                  have TT8 := (TT7.set (p := ⟨bx, 3, none⟩) hwbx (.slice (some ⟨w6.heap.size, 0, none⟩) 1 1)).alloc (.cells #[.string z] 9)
                  have hsz6 := TT7.size
                  have hlit : Own kStr 9 [] 0 w.heap.size ((w6.setCell ⟨bx, 3, none⟩ (.slice (some ⟨w6.heap.size, 0, none⟩) 1 1)).alloc (.cells #[.string z] 9)) (.slice (some ⟨w6.heap.size, 0, none⟩) 1 1) [z] :=
                    Own.lit (K := kStr) (g := w6.heap.size) (cs := #[.string z]) (by have := heap_alloc_new (w6.setCell ⟨bx, 3, none⟩ (.slice (some ⟨w6.heap.size, 0, none⟩) 1 1)) (.cells #[.string z] 9); rwa [World.size_setCell] at this) [z] [[.string z]] rfl rfl (by simp) (fun j x vs hj hv => by
                      match j, hj, hv with
                      | 0, hj, hv =>
                        simp at hj hv
                        subst hj hv
                        exact rfl) hsz6
                  go_upto_region 14 with fail
                  obtain ⟨W8, hW8⟩ : ∃ V, (w6.setCell ⟨bx, 3, none⟩ (.slice (some ⟨w6.heap.size, 0, none⟩) 1 1)).alloc (.cells #[.string z] 9) = V := ⟨_, rfl⟩
                  rw [hW8] at hownS hatS hRow8 TT8 hlit ⊢
                  have hlr := hlit.rep
                  obtain ⟨v3, hv3⟩ : ∃ v : Nat, w6.heap.size = v := ⟨_, rfl⟩
                  clear hW8 h0 h1 h2 h3 hf3 hxl hB7 hF7 hRow7 hown7 hat7 TT7 honS hlit hsep2
                  rw [hv3] at hRow8 hlr ⊢
                  clear hv3
                  obtain ⟨hBx, hFx⟩ := rowBox hRow8
                  have hld := load4q W8 bx _ _ _ _ hBx.c0 hBx.c1 hBx.c2 hBx.c3
                  have h0 := hBx.c0
                  have h1 := hBx.c1
                  have h2 := hBx.c2
                  have h3 := hBx.c3
                  have hrq := Kind.tyL kReq (req_rep (z := sName k) (co := y) (m := 1 + (p : Int)) hlr) (ext_alloc (Below.refl _ _) (.cells #[.string (sName k), .string y, .int .i64 (1 + (p : Int)), .slice (some ⟨v3, 0, none⟩) 1 1] 53))
                  have hown9 := hownS.alloc (.cells #[.string (sName k), .string y, .int .i64 (1 + (p : Int)), .slice (some ⟨v3, 0, none⟩) 1 1] 53)
                  have hmade6 := hide (hmade.snoc (x := (sName k, y, 1 + (p : Int), [z])) hLn.out hy (by omega) (by omega) rfl rfl ⟨⟨k, by omega, by omega, rfl⟩, hym, (by show (1 : Int) ≤ 1 + (p : Int); omega), (by show 1 + (p : Int) ≤ 9; omega), Or.inr ⟨z, hzm, hzy, rfl⟩⟩)
                  have hzz := TT8.size
                  obtain ⟨A6, c6, rfl⟩ := hownS.form
                  have hl6 : ls.length ≤ 15 := hlen
                  go_wp2_with (at_builtin; refine wpList_own rfl _ _ rfl apd_reqs (by decide) rfl hown9 ?d1 (by decide) ⟨W8.heap.size, 0, none⟩ 1 rfl (sName k, y, 1 + (p : Int), [z]) [.string (sName k), .string y, .int .i64 (1 + (p : Int)), .slice (some ⟨v3, 0, none⟩) 1 1] hrq (World.news_of_block (cs := #[.string (sName k), .string y, .int .i64 (1 + (p : Int)), .slice (some ⟨v3, 0, none⟩) 1 1]) (t := 53) (fr := (0, 0)) (heap_alloc_new _ _)) (by decide) (Nat.zero_le _) ?d2 ?_)
                  case d1 => omega
                  case d2 => simp only [World.size_alloc]; omega
                  intro v9 w9 hownF hgrow
                  have T9 : Thrown B w g w9 := (TT8.alloc _).grown hgrow (fun y hy => (hown9.lt y hy).1)
                  have hat9 : At kStr (fun x => x ≠ g ∧ Ty [9] 0 w.heap.size w9 x) w9 (some ⟨cb, co, none⟩) L := by
                    obtain ⟨vss, -, ho, -⟩ := hown9
                    exact (hatS.tyLater (ext_alloc (Below.refl _ _) _)).tyGrown ho (by decide) hgrow
                  clear hown9 hgrow hrq h0 h1 h2 h3 hld hBx hFx
                  go_wp2
                  go_roundw
                  case rel => exact ⟨i + 1, ls ++ [(sName k, y, 1 + (p : Int), [z])], by go_num, by rw [hM.out]; omega, hmade6.out, hownF, T9, hat9⟩
                  case measure => first | (simp [intOf]; done) | (simp [intOf]; omega)
        · have hi1 : ¬ (i : Int) < (M : Int) := by omega
          have hmade2 := hide (hmade.down' (by rw [hM.out]; omega) (by omega) (by rw [hM.out]; exact hLl) hk)
          have hfin := hide hown
          clear hmade hown
          go_wp2
          go_roundw
          case rel => exact ⟨k - 1, ls, by go_num, by omega, hmade2.out, hfin.out, T, hat⟩
          case measure => first | (simp [intOf]; done) | (simp [intOf]; omega)
    · have hfin := hide hown
      have hmade2 := hide hmade.made
      by_cases hk0 : 0 < k
      · have hk1 : (0 : Int) < (k : Int) := by omega
        have hL0 : ¬ (0 : Int) < (L.length : Int) := by omega
        clear hown hmade
        go_wp2
        go_ret
        exact ⟨_, ls, rfl, hmade2.out, hfin.out, T⟩
      · have hk1 : ¬ (0 : Int) < (k : Int) := by omega
        clear hown hmade
        go_wp2
        go_ret
        exact ⟨_, ls, rfl, hmade2.out, hfin.out, T⟩
end Go.Proofs.YthejgholpkeldaaGreatDoor

namespace Go.Proofs.YthejgholpkeldaaGreatDoor
open Go.RowKit
set_option maxRecDepth 100000

theorem studsV_perm (l : List Req) : (studsV l).Perm (freshS (studs l)) := ascG_perm _
theorem studsV_mem (l : List Req) (z : ByteArray) : z ∈ studsV l ↔ ∃ x ∈ l, x.1 = z := by
  rw [(studsV_perm l).mem_iff, mem_fresh]
  unfold studs
  exact List.mem_map
theorem studsV_nodup (l : List Req) : (studsV l).Nodup := (studsV_perm l).nodup_iff.2 (fresh_nodup _)
theorem studsV_len (l : List Req) : (studsV l).length ≤ l.length := by
  have h : ∀ (l m : List ByteArray), l.Nodup → (∀ z ∈ l, z ∈ m) → l.length ≤ m.length := fun l m h1 h2 => List.Nodup.length_le_of_subset h1 h2
  have := h (studsV l) (studs l) (studsV_nodup l) (fun z hz => by
    obtain ⟨x, hx, e⟩ := (studsV_mem l z).1 hz
    exact List.mem_map.2 ⟨x, hx, e⟩)
  simpa [studs] using this
theorem studs_small {ls : List Req} (h : QMade ls) : (studsV ls).length ≤ 15 ∧ ∀ z ∈ studsV ls, z.size ≤ 100 := by
  refine ⟨Nat.le_trans (studsV_len ls) h.1, fun z hz => ?_⟩
  obtain ⟨x, hx, rfl⟩ := (studsV_mem ls z).1 hz
  obtain ⟨⟨q, q1, q2, h1⟩, -⟩ := h.2.1 x hx
  rw [h1]
  exact (sName_ok q (by omega) q1).2.1
/-- The sizes that the functions ask for. -/
theorem QMade.sizes {ls : List Req} (h : QMade ls) : ∀ x ∈ ls, x.1.size ≤ 100 ∧ x.2.1.size ≤ 100 ∧ x.2.2.2.length ≤ 1 := fun x hx => by
  obtain ⟨⟨q, q1, q2, h1⟩, h2, -, -, h5⟩ := h.2.1 x hx
  refine ⟨by rw [h1]; exact (sName_ok q (by omega) q1).2.1, mcourses_size _ h2, ?_⟩
  rcases h5 with h5 | ⟨z, -, -, h5⟩ <;> rw [h5] <;> simp
end Go.Proofs.YthejgholpkeldaaGreatDoor

namespace Go.Proofs.YthejgholpkeldaaGreatDoor
open Go.RowKit Go.Lib Go.Sort Go.Shelf
set_option maxRecDepth 100000

/-- A request with the place of its courses instead. -/
abbrev ReqA := Req × (Option Addr × Nat)
def lessP (a b : ReqA) : Bool := lessQ a.1 b.1
def encA (a : ReqA) : List Value := [.string a.1.1, .string a.1.2.1, .int .i64 a.1.2.2.1, .slice a.2.1 a.1.2.2.2.length a.2.2]
def encM (x : ReqA × Nat) : List Value := encA x.1
def prioI (m n : Int) : Int := if m < n then -1 else if n < m then 1 else 0
def cfM (x y : ReqA × Nat) : Int := prioI x.1.1.2.2.1 y.1.1.2.2.1
theorem prioI_neg (m n : Int) : prioI m n < 0 ↔ m < n := by
  unfold prioI
  split
  · rename_i h; exact ⟨fun _ => h, fun _ => by decide⟩
  · rename_i h
    split
    · exact ⟨fun h' => absurd h' (by decide), fun h' => absurd h' h⟩
    · exact ⟨fun h' => absurd h' (by decide), fun h' => absurd h' h⟩
theorem ltM : ltOf cfM = lessM lessP := by
  funext x y
  unfold ltOf lessM lessP lessQ cfM
  exact decide_eq_decide.2 (prioI_neg _ _)
theorem swoPr : SWO lessP where
  irrefl x := by unfold lessP lessQ; simp
  trans x y z h1 h2 := by
    unfold lessP lessQ at *
    have h1 := of_decide_eq_true h1
    have h2 := of_decide_eq_true h2
    exact decide_eq_true (by omega)
  ntrans x y z h1 h2 := by
    unfold lessP lessQ at *
    have h1 := of_decide_eq_false h1
    have h2 := of_decide_eq_false h2
    exact decide_eq_false (by omega)
theorem swoM : SWO (ltOf cfM) := by rw [ltM]; exact lessM_swo swoPr
def zReqA : ReqA := (zReq, (none, 0))
theorem posG_fst {x : ReqA} {out : List ReqA} : ∀ k, posG lessP zReqA x out k = posG lessQ zReq x.1 (out.map Prod.fst) k
  | 0 => rfl
  | k + 1 => by
    have e : (out.map Prod.fst).getD k zReq = (out.getD k zReqA).1 := by
      rw [List.getD_eq_getElem?_getD, List.getD_eq_getElem?_getD, List.getElem?_map]
      cases out[k]? <;> rfl
    rw [posG, posG, e, posG_fst k]; rfl
theorem ascG_fst (l : List ReqA) : (ascG lessP zReqA l).map Prod.fst = ascQ (l.map Prod.fst) := by
  induction l using snoc_ind with
  | h0 => rfl
  | h1 l x ih =>
    unfold ascQ at ih ⊢
    rw [List.map_append, List.map_cons, List.map_nil, ascG_snoc, ascG_snoc, ← ih]
    unfold insG
    rw [posG_fst, List.length_map, List.map_append, List.map_take, List.map_cons, List.map_drop]
/-! Rows, cell by cell. -/
theorem flatK_list {α : Type} [Inhabited α] (enc : α → List Value) (k : Nat) (h0 : 0 < k) (hk : ∀ x, (enc x).length = k) (d : List α) : (flatK enc k d.toArray).toList = d.flatMap enc := by
  refine List.ext_getElem? fun t => ?_
  have hs : (flatK enc k d.toArray).size = d.length * k := by simp
  have hall : ∀ vs ∈ d.map enc, vs.length = k := fun vs hv => by obtain ⟨x, -, rfl⟩ := List.mem_map.1 hv; exact hk x
  by_cases ht : t < d.length * k
  · have h1 : (flatK enc k d.toArray).toList[t]? = some ((flatK enc k d.toArray)[t]!) := by
      rw [Array.getElem?_toList, Array.getElem?_eq_getElem (by omega), getElem!_pos _ t (by omega)]
    have hq : t / k < d.length := (Nat.div_lt_iff_lt_mul h0).2 ht
    have hm : t % k < k := Nat.mod_lt _ h0
    rw [h1, get_flatK _ _ _ _ (by simpa using ht), List.flatMap_def]
    have h2 := flatten_at (k := k) (d.map enc) hall (t / k) (t % k) (enc d[t / k]) (by rw [List.getElem?_map, List.getElem?_eq_getElem hq]; rfl) hm
    rw [show t / k * k + t % k = t from by rw [Nat.mul_comm]; exact Nat.div_add_mod t k] at h2
    rw [h2, getElem!_pos d.toArray (t / k) (by simpa using hq)]
    simp only [List.getElem_toArray]
    have h3 : t % k < (enc d[t / k]).length := by rw [hk]; exact hm
    rw [List.getElem?_eq_getElem h3, getElem!_pos _ (t % k) h3]
  · rw [List.getElem?_eq_none (by rw [Array.length_toList]; omega), List.getElem?_eq_none]
    rw [List.flatMap_def]
    have : ∀ vss : List (List Value), (∀ vs ∈ vss, vs.length = k) → vss.flatten.length = vss.length * k := by
      intro vss
      induction vss with
      | nil => intro _; simp
      | cons x vss ih => intro h; rw [List.flatten_cons, List.length_append, h x (by simp), ih (fun v hv => h v (by simp [hv])), List.length_cons, Nat.add_mul, Nat.one_mul, Nat.add_comm]
    rw [this _ hall, List.length_map]
    omega
theorem heap_putQ {w : World} {g n : Nat} {os : Array Obj} {cur F : Array Value} {e : TypeId} {fr : Nat × Nat} (hb : w.heap[g]? = some (.cells cur e fr)) :
    (grow (putRow id (Sort.ahead w n) g 0 F) os).heap[g]? = some (.cells (putCells id 0 F cur) e fr) := by
  have hg : g < w.heap.size := (Array.getElem?_eq_some_iff.1 hb).1
  rw [heap_grow_old _ _ (by simpa using hg)]
  simp [putRow, mapBlock, Sort.ahead, Array.getElem?_modify, hb, onCells]
theorem grownBy_putQ {w : World} {g n : Nat} {os : Array Obj} (F : Array Value) : w.grownBy (grow (putRow id (Sort.ahead w n) g 0 F) os) (some g) := by
  refine ⟨rfl, rfl, rfl, by simp, fun k hk hne => ?_⟩
  rw [heap_grow_old _ _ (by simpa using hk)]
  have : g ≠ k := fun e => hne (by rw [e])
  simp [putRow, mapBlock, Sort.ahead, Array.getElem?_modify, this]
theorem take_putQ (cur F : Array Value) (h : F.size ≤ cur.size) : (putCells id 0 F cur).toList.take F.size = F.toList := by
  apply List.ext_getElem?
  intro j
  by_cases hj : j < F.size
  · rw [List.getElem?_take_of_lt hj, Array.getElem?_toList]
    simp [putCells, hj, show j < cur.size by omega]
  · rw [List.getElem?_take_eq_none (by omega), List.getElem?_eq_none (by simp; omega)]
section
variable {ts : List TypeId} {B0 B : Nat} {w : World} {v : Value} {l : List Req}
/-- A row of requests, with the places of their courses instead. -/
theorem own_reqs (h : Own kReq 53 ts B0 B w v l) : ∃ ps : List ReqA, ps.map Prod.fst = l ∧ w.ownsRow B 53 4 v l.length (ps.flatMap encA) ∧ ∀ p ∈ ps, (kSlice kStr).rep (Ty ts B0 B w) w p.1.2.2.2 [.slice p.2.1 p.1.2.2.2.length p.2.2] := by
  obtain ⟨vss, e1, e2, e3⟩ := h
  obtain ⟨ys, hy1, hy2⟩ := list_choice (R := fun j (x : Req) (y : Option Addr × Nat) => vss[j]? = some (encA (x, y)) ∧ (kSlice kStr).rep (Ty ts B0 B w) w x.2.2.2 [.slice y.1 x.2.2.2.length y.2]) l (fun j x hx => by
    have hj := (List.getElem?_eq_some_iff.1 hx).1
    have hv : vss[j]? = some vss[j] := List.getElem?_eq_getElem (by omega)
    obtain ⟨F, c, e, hr⟩ := req_unrep (e3 j x _ hx hv)
    exact ⟨(F, c), by rw [hv, e]; rfl, hr⟩)
  have hfst : (l.zip ys).map Prod.fst = l := List.map_fst_zip (by omega)
  refine ⟨l.zip ys, hfst, ?_, fun p hp => ?_⟩
  · have : vss = (l.zip ys).map encA := by
      refine List.ext_getElem? fun j => ?_
      rw [List.getElem?_map]
      rcases Nat.lt_or_ge j l.length with hj | hj
      · have hx : l[j]? = some l[j] := List.getElem?_eq_getElem hj
        have hy : ys[j]? = some ys[j] := List.getElem?_eq_getElem (by omega)
        rw [(hy2 j _ _ hx hy).1, show (l.zip ys)[j]? = some (l[j], ys[j]) from List.getElem?_zip_eq_some.2 ⟨hx, hy⟩]; rfl
      · rw [List.getElem?_eq_none (by omega), List.getElem?_eq_none (by simp; omega)]; rfl
    rw [List.flatMap_def, ← this]
    exact e2
  · obtain ⟨j, hj⟩ := List.getElem?_of_mem hp
    obtain ⟨h1, h2⟩ := List.getElem?_zip_eq_some.1 hj
    exact (hy2 j _ _ h1 h2).2
theorem reqs_own {ps : List ReqA} {n : Nat} (hn : ps.length = n) (h1 : w.ownsRow B 53 4 v n (ps.flatMap encA)) (h2 : ∀ p ∈ ps, (kSlice kStr).rep (Ty ts B0 B w) w p.1.2.2.2 [.slice p.2.1 p.1.2.2.2.length p.2.2]) : Own kReq 53 ts B0 B w v (ps.map Prod.fst) := by
  subst hn
  refine ⟨ps.map encA, by simp, ?_, fun j x vs hj hv => ?_⟩
  · rw [List.length_map, ← List.flatMap_def]; exact h1
  · rw [List.getElem?_map] at hj hv
    cases hp : ps[j]? with
    | none => rw [hp] at hj; cases hj
    | some p =>
      rw [hp] at hj hv
      cases hj; cases hv
      exact req_rep (h2 p (List.mem_of_getElem? hp))
end
/-! The walks. -/
theorem sort1_walk (z1 c1 : ByteArray) (m1 : Int) (F1 : Option Addr) (n1 k1 : Nat) (z2 c2 : ByteArray) (m2 : Int) (F2 : Option Addr) (n2 k2 : Nat) (w : World) :
    Calls Tryz.prog 78 #[.agg #[.string z1, .string c1, .int .i64 m1, .slice F1 n1 k1], .agg #[.string z2, .string c2, .int .i64 m2, .slice F2 n2 k2]] w fun e w' => e = .returned (.int .i64 (prioI m1 m2)) ∧ Gr w w' := by
  have hb : Gr w ((w.alloc (.cells #[.string z1, .string c1, .int .i64 m1, .slice F1 n1 k1] 53)).alloc (.cells #[.string z2, .string c2, .int .i64 m2, .slice F2 n2 k2] 53)) := Gr.alloc (Gr.alloc (Gr.refl w) _) _
  unfold prioI
  by_cases h1 : m1 < m2
  · rw [if_pos h1]
    go_enter Tryz.func78, Tryz.ntmps78
    go_wp2
    go_ret
    exact ⟨rfl, hb⟩
  · rw [if_neg h1]
    by_cases h2 : m2 < m1
    · rw [if_pos h2]
      go_enter Tryz.func78, Tryz.ntmps78
      go_wp2
      go_ret
      exact ⟨rfl, hb⟩
    · rw [if_neg h2]
      go_enter Tryz.func78, Tryz.ntmps78
      go_wp2
      go_ret
      exact ⟨rfl, hb⟩
theorem stab_none (A : Option Addr) (c : Nat) (fv : Value) (w : World) :
    Calls Tryz.prog 109 #[.slice A 0 c, .int .i64 0, fv] w fun e w' => e = .returned (.tuple #[]) ∧ w' = w := by
  have hi := AnyF.insertionSortCmpFunc_none Tryz.insReq A c fv w
  change Calls Tryz.prog 141 _ _ _ at hi
  go_enter Tryz.func109, Tryz.ntmps109
  go_wp2_with fail
  go_loopg [7, 8] 0 (fun kx sa sb wr => sa = .int .i64 0 ∧ sb = .int .i64 20 ∧ w = wr)
  case atStart => exact ⟨rfl, rfl, rfl⟩
  case round =>
    obtain ⟨rfl, rfl, rfl⟩ := hrel
    go_wp2_with fail
    refine hi.mono ?_
    rintro e w2 ⟨rfl, rfl⟩
    go_wp2_with fail
    go_loopg [6] 0 (fun kx sk wr => sk = .int .i64 20 ∧ w2 = wr)
    case atStart => exact ⟨rfl, rfl⟩
    case round =>
      obtain ⟨rfl, rfl⟩ := hrel
      go_wp2_with fail
      go_end0
      exact ⟨rfl, rfl⟩
def SortedQ (ts : List TypeId) (B0 B : Nat) (A : Option Addr) (c : Nat) (l : List Req) (w : World) (e : Ending) (w' : World) : Prop :=
  e = .returned (.tuple #[]) ∧ Own kReq 53 ts B0 B w' (.slice A l.length c) (ascQ l) ∧ w.grownBy w' (Value.slice A l.length c).ownBlock
set_option maxHeartbeats 1000000 in
theorem stabQ_walk (ts : List TypeId) (B0 B : Nat) (A : Option Addr) (c : Nat) (l : List Req) (w : World) (hl : l.length ≤ 1000000000) (hB : B0 ≤ B) (hts : 53 ∉ ts) (h : Own kReq 53 ts B0 B w (.slice A l.length c) l) :
    Calls Tryz.prog 109 #[.slice A l.length c, .int .i64 l.length, .func (.func 78) #[] #[]] w fun e w' => SortedQ ts B0 B A c l w e w' := by
  obtain ⟨ps, hps, hrow, hrep⟩ := own_reqs h
  have hpl : ps.length = l.length := by rw [← hps, List.length_map]
  rcases hrow.2 with ⟨he, h0⟩ | ⟨g, cap, cur, he, hBg, hg, hn, hm, hsz, ht⟩
  · obtain rfl := List.eq_nil_of_length_eq_zero h0
    refine (stab_none A c _ w).mono fun e w' ⟨h1, h2⟩ => ⟨h1, ?_, ?_⟩
    · rw [h2]; exact h
    · rw [h2]; exact World.grownBy.refl _ _
  · injection he with h1 _ h2
    subst h1 h2
    have eg : ∀ args w, (callFunc 78 args).run Tryz.prog w = .ok (.enter 78 args) w := enters_of Tryz.func78 (by kernel_rfl) rfl
    obtain ⟨d, hd⟩ : ∃ d, ps.zipIdx = d := ⟨_, rfl⟩
    have hdl : d.length = l.length := by rw [← hd, List.length_zipIdx]; exact hpl
    have hde : d.flatMap encM = ps.flatMap encA := by
      rw [← hd]
      have : ∀ (q : List ReqA) (k : Nat), (q.zipIdx k).flatMap encM = q.flatMap encA := by
        intro q
        induction q with
        | nil => intro k; rfl
        | cons x q ih => intro k; rw [List.zipIdx_cons, List.flatMap_cons, List.flatMap_cons, ih]; rfl
      exact this ps 0
    have hfl := flatK_list encM 4 (by decide) (fun _ => rfl) d
    have hH : HoldsK encM 4 w g 0 d.toArray := by
      intro j hj
      have hj2 : j < l.length * 4 := by rw [← hdl]; simpa using hj
      refine ⟨?_, by simp [World.frozen?, hg]⟩
      have h1 : (cur.toList.take (l.length * 4))[j]? = (flatK encM 4 d.toArray).toList[j]? := by rw [ht, hfl, hde]
      rw [List.getElem?_take_of_lt hj2] at h1
      rw [Nat.zero_add, cell_of_row w g j cur _ (0, 0) hg, ← Array.getElem?_toList, h1, Array.getElem?_toList, Array.getElem?_eq_getElem hj, getElem!_pos _ j hj]
      rfl
    have hR : RowK encM 4 w g 0 d.toArray := ⟨fun _ => rfl, fun x v hv => by simp [encM, encA] at hv; rcases hv with rfl | rfl | rfl | rfl <;> rfl, hH, blk_lt hg⟩
    have hcon := stab_walk 4 Tryz.isAgg53 Tryz.sizeOf53 encM cfM 78 #[] g 0 c d.toArray w eg (fun m os dk _ x y => (sort1_walk x.1.1.1 x.1.1.2.1 x.1.1.2.2.1 x.1.2.1 x.1.1.2.2.2.length x.1.2.2 y.1.1.1 y.1.1.2.1 y.1.1.2.2.1 y.1.2.1 y.1.1.2.2.2.length y.1.2.2 _).mono fun e w' ⟨he, hgr⟩ => ⟨he, hgr.grown⟩) hR swoM d.toArray w rfl (SWK.start hH) (by rw [List.size_toArray, hdl]; omega)
    rw [List.size_toArray, hdl] at hcon
    refine hcon.mono ?_
    rintro e w' ⟨h1, n, os, rfl⟩
    have hso := stable_ascG swoPr zReqA ps
    rw [hd, hpl, ← ltM] at hso
    obtain ⟨m, hm'⟩ : ∃ m : List (ReqA × Nat), stable (ltOf cfM) l.length d.toArray = m.toArray := ⟨(stable (ltOf cfM) l.length d.toArray).toList, by simp⟩
    rw [hm'] at hso ⊢
    have hso : m.map Prod.fst = ascG lessP zReqA ps := hso
    have hml : m.length = l.length := by have := congrArg List.length hso; rw [List.length_map, ascG_len, hpl] at this; exact this
    have hfm := flatK_list encM 4 (by decide) (fun _ => rfl) m
    have hmm : m.flatMap encM = (m.map Prod.fst).flatMap encA := by rw [List.flatMap_map]; rfl
    have hF : (flatK encM 4 m.toArray).size = l.length * 4 := by rw [size_flatK, List.size_toArray, hml]
    have hb : (sortWorldK encM 4 w g 0 n m.toArray os).heap[g]? = some (.cells (putCells id 0 (flatK encM 4 m.toArray) cur) 53 (0, 0)) := heap_putQ hg
    have hgr : w.grownBy (sortWorldK encM 4 w g 0 n m.toArray os) (some g) := grownBy_putQ _
    refine ⟨h1, ?_, hgr⟩
    have hfin : (m.map Prod.fst).map Prod.fst = ascQ l := by rw [hso, ascG_fst, hps]
    rw [← hfin]
    refine reqs_own (n := l.length) (by rw [List.length_map, hml]) ?_ ?_
    · refine ⟨?_, .inr ⟨g, c, _, rfl, hBg, hb, hn, hm, by simp [putCells, hsz], ?_⟩⟩
      · rw [← hmm]
        have := congrArg List.length hfm
        rw [Array.length_toList, hF] at this
        exact this.symm
      · rw [← hmm, ← hfm, ← hF]
        exact take_putQ cur _ (by rw [hF, hsz]; exact Nat.mul_le_mul_right _ hn)
    · intro p hp
      have hp' : p ∈ ps := by
        rw [hso] at hp
        exact (ascG_perm ps).mem_iff.1 hp
      refine (kSlice kStr).kept (hrep p hp') fun b hs hlt => ?_
      have hbk : (sortWorldK encM 4 w g 0 n m.toArray os).heap[b]? = w.heap[b]? := hgr.block b hlt fun e => by
        injection e with e
        subst e
        rcases hs with hs | ⟨-, cs, t', hc, ht'⟩
        · omega
        · rw [hg] at hc
          injection hc with hc
          injection hc with _ hc _
          exact hts (hc ▸ ht')
      refine ⟨?_, Nat.lt_of_lt_of_le hlt hgr.size, hbk⟩
      rcases hs with hs | ⟨hs, cs, t', hc, ht'⟩
      · exact .inl hs
      · exact .inr ⟨hs, cs, t', hbk.trans hc, ht'⟩
theorem prios_walk (ts : List TypeId) (B0 B : Nat) (A : Option Addr) (c : Nat) (l : List Req) (w : World) (hl : l.length ≤ 1000000000) (hB : B0 ≤ B) (hts : 53 ∉ ts) (h : Own kReq 53 ts B0 B w (.slice A l.length c) l) :
    Calls Tryz.prog 45 #[.slice A l.length c] w fun e w' => SortedQ ts B0 B A c l w e w' := by
  have hcall := stabQ_walk ts B0 B A c l w hl hB hts h
  have hst : Calls Tryz.prog 77 #[.slice A l.length c, .func (.func 78) #[] #[]] w fun e w' => SortedQ ts B0 B A c l w e w' := by
    unfold SortedQ at hcall ⊢
    obtain ⟨S, hS⟩ : ∃ S, ascQ l = S := ⟨_, rfl⟩
    rw [hS] at hcall ⊢
    obtain ⟨n, hn⟩ : ∃ n, l.length = n := ⟨_, rfl⟩
    rw [hn] at hcall ⊢
    clear h hn hS
    go_enter Tryz.func77, Tryz.ntmps77
    go_wp2_with fail
    refine hcall.mono ?_
    clear hcall
    rintro e w2 ⟨rfl, hr⟩
    go_wp2_with fail
    go_end0
    exact ⟨rfl, hr⟩
  clear hcall
  unfold SortedQ at hst ⊢
  obtain ⟨S, hS⟩ : ∃ S, ascQ l = S := ⟨_, rfl⟩
  rw [hS] at hst ⊢
  obtain ⟨n, hn⟩ : ∃ n, l.length = n := ⟨_, rfl⟩
  rw [hn] at hst ⊢
  clear h hn hS
  go_enter Tryz.func45, Tryz.ntmps45
  go_wp2_with fail
  refine hst.mono ?_
  clear hst
  rintro e w2 ⟨rfl, hr⟩
  go_wp2_with fail
  go_end0
  exact ⟨rfl, hr⟩
end Go.Proofs.YthejgholpkeldaaGreatDoor

namespace Go.Proofs.YthejgholpkeldaaGreatDoor
open Go.RowKit
set_option maxRecDepth 100000

theorem apd_prios : Apd Tryz.prog 87 53 4 64 := apd Tryz.underlying87 (z := .agg #[.string ⟨#[]⟩, .string ⟨#[]⟩, .int .i64 0, .slice none 0 0]) (by kernel_rfl) rfl
theorem own_ofStrsQ {B : Nat} {w : World} {v : Value} {zs : List ByteArray} (h : w.ownsRow B 9 1 v zs.length (zs.map Value.string)) : Own kStr 9 [] 0 B w v zs := by
  have hf : ∀ zs : List ByteArray, (zs.map fun z => [Value.string z]).flatten = zs.map Value.string := fun zs => by
    induction zs with
    | nil => rfl
    | cons z zs ih => rw [List.map_cons, List.flatten_cons, List.map_cons, ih]; rfl
  refine ⟨zs.map fun z => [.string z], by simp, by rw [hf]; exact h, fun j x vs hj hv => ?_⟩
  rw [List.getElem?_map, hj] at hv
  exact (Option.some.inj hv).symm
theorem clone_strsQ (D : Option Addr) (bs : List ByteArray) (d : Nat) (w : World) (hl : bs.length ≤ 1000000000) (h : At kStr AnyB w D bs) :
    Calls Tryz.prog 44 #[.slice D bs.length d] w fun e w' => ∃ v', e = .returned v' ∧ Own kStr 9 [] 0 w.heap.size w' v' bs ∧ Below w.heap.size w w' := by
  by_cases hn : 0 < bs.length
  · obtain ⟨b, off, rfl, -, hb, hc⟩ := h hn
    refine (Tryz.slices_Clone_string b off bs.length d bs w (Nat.le_refl _) (by omega) (fun j hj => ?_)).mono ?_
    · have hz : bs[j]? = some bs[j] := List.getElem?_eq_getElem hj
      obtain ⟨vs, hr, hcell⟩ := hc j _ hz
      rw [rep_str] at hr
      subst hr
      have := hcell 0 _ rfl
      rw [show bs.getD j ByteArray.empty = bs[j] from by rw [List.getD_eq_getElem?_getD, hz]; rfl]
      simpa [kStr] using this
    · rintro e w' ⟨v', rfl, ho, -, hb'⟩
      rw [List.take_length] at ho
      exact ⟨v', rfl, own_ofStrsQ ho, hb'⟩
  · obtain rfl : bs = [] := List.eq_nil_of_length_eq_zero (by omega)
    cases D with
    | none =>
      refine (Tryz.slices_Clone_string_nil 0 d w).mono ?_
      rintro e w' ⟨rfl, rfl⟩
      exact ⟨_, rfl, Own.nil, Below.refl _ _⟩
    | some a =>
      refine (Tryz.slices_Clone_string_zero a d w).mono ?_
      rintro e w' ⟨v', rfl, ho, -, hb'⟩
      exact ⟨v', rfl, own_ofStrsQ ho, hb'⟩
theorem ofS_take {l : List Req} {i : Nat} {x : Req} (s : ByteArray) (hx : l[i]? = some x) : ofS s (l.take (i + 1)) = if x.1 = s then ofS s (l.take i) ++ [x] else ofS s (l.take i) := by
  unfold ofS
  rw [List.take_add_one, hx]
  by_cases e : x.1 = s
  · simp [e]
  · simp [e]
theorem ofS_len (s : ByteArray) (l : List Req) : (ofS s l).length ≤ l.length := List.length_filter_le _ _
set_option maxHeartbeats 4000000 in
theorem wantQ_walk (A : Option Addr) (l : List Req) (c : Nat) (st : ByteArray) (w : World) (hn : l.length ≤ 1000000000) (hm : ∀ x ∈ l, x.2.2.2.length ≤ 1000000000) (h : At kReq AnyB w A l) :
    Calls Tryz.prog 21 #[.slice A l.length c, .string st] w fun e w' => ∃ v, e = .returned v ∧ Own kReq 53 [9] 0 w.heap.size w' v (wantV st l) ∧ Below w.heap.size w w' := by
  obtain ⟨N, hN⟩ : ∃ N, l.length = N := ⟨_, rfl⟩
  rw [hN] at hn ⊢
  replace hN := hide hN
  replace hm := hide hm
  go_enter Tryz.func21, Tryz.ntmps21
  go_wp2_with fail
  go_loopw [5, 10] (fun v u wr => ∃ i : Nat, i ≤ N ∧ u = .int .i64 i ∧ Own kReq 53 [9] 0 w.heap.size wr v (ofS st (l.take i)) ∧ Below w.heap.size w wr) (fun _ u _ => N - (intOf u).toNat)
  case atStart => exact ⟨0, Nat.zero_le _, rfl, Own.nil, Below.refl _ _⟩
  case round =>
    obtain ⟨i, hi, rfl, hown, hb⟩ := hrel
    by_cases hlt : i < N
    · obtain ⟨x0, hx0⟩ : ∃ x, l[i]? = some x := ⟨_, List.getElem?_eq_getElem (by rw [hN.out]; exact hlt)⟩
      obtain ⟨kb, off, F, c3, rfl, -, hkb, ⟨q0, q1, q2, q3⟩, l3, a3⟩ := (h.later hb).req hx0
      have hn3 := hm.out x0 (List.mem_of_getElem? hx0)
      have hnx := ofS_take st hx0
      have hol : (ofS st (l.take i)).length ≤ 4000000000 := by
        refine Nat.le_trans (ofS_len _ _) ?_
        rw [List.length_take, hN.out]
        omega
      obtain ⟨out, hout⟩ : ∃ out, ofS st (l.take i) = out := ⟨_, rfl⟩
      rw [hout] at hown hnx hol
      obtain ⟨z, co, m, ts⟩ := x0
      dsimp only at q0 q1 q2 q3 l3 a3 hn3 hnx
      have heq := toList_eqD z st
      obtain ⟨nt, hnt⟩ : ∃ nt, ts.length = nt := ⟨_, rfl⟩
      have hbn : Below wr.heap.size wr (wr.alloc (.cells #[.string z, .string co, .int .i64 m, .slice F nt c3] 53)) := ext_alloc (Below.refl _ _) _
      have hcl := clone_strsQ F ts c3 _ hn3 (a3.any.later hbn)
      rw [hnt] at q3 hcl
      have hj0 : (0 : Int) ≤ (i : Int) := by omega
      have hj1 : (i : Int) < (N : Int) := by omega
      by_cases hzs : z = st
      · rw [if_pos hzs] at hnx
        rw [decide_eq_true hzs] at heq
        have y0 : (wr.alloc (.cells #[.string z, .string co, .int .i64 m, .slice F nt c3] 53)).cell? ⟨wr.heap.size, 0, none⟩ = some (.string z) := by simp
        have y1 : (wr.alloc (.cells #[.string z, .string co, .int .i64 m, .slice F nt c3] 53)).cell? ⟨wr.heap.size, 1, none⟩ = some (.string co) := by simp
        have y2 : (wr.alloc (.cells #[.string z, .string co, .int .i64 m, .slice F nt c3] 53)).cell? ⟨wr.heap.size, 2, none⟩ = some (.int .i64 m) := by simp
        have y3 : (wr.alloc (.cells #[.string z, .string co, .int .i64 m, .slice F nt c3] 53)).cell? ⟨wr.heap.size, 3, none⟩ = some (.slice F nt c3) := by simp
        have yh : (wr.alloc (.cells #[.string z, .string co, .int .i64 m, .slice F nt c3] 53)).heap[wr.heap.size]? = some (.cells #[.string z, .string co, .int .i64 m, .slice F nt c3] 53 (0, 0)) := heap_alloc_new _ _
        have yf : (wr.alloc (.cells #[.string z, .string co, .int .i64 m, .slice F nt c3] 53)).frozen? ⟨wr.heap.size, 3, none⟩ = false := by simp
        have hown5 := hown.later hbn
        have hbw5 := ext_trans hb hbn
        have hux : ∀ y, u5.ownBlock = some y → y < wr.heap.size := fun y e => (hown.lt y e).2
        replace hnx := hide hnx
        clear hx0 hout hown a3 l3 hnt hzs
        go_upto_region 6 with fail
        clear q0 q1 q2 q3
        obtain ⟨x, hxx⟩ : ∃ x, wr.heap.size = x := ⟨_, rfl⟩
        obtain ⟨W5, hW5⟩ : ∃ W5, wr.alloc (.cells #[.string z, .string co, .int .i64 m, .slice F nt c3] 53) = W5 := ⟨_, rfl⟩
        have hxw : w.heap.size ≤ x := by rw [← hxx]; exact hb.size
        rw [hxx] at y0 y1 y2 y3 yh yf hux ⊢
        rw [hW5] at y0 y1 y2 y3 yh yf hcl hown5 hbw5 ⊢
        clear hbn hxx hW5
        have hxl := World.block_lt_of_cell? _ _ y0
        go_wp2_with fail
        refine hcl.mono ?_
        clear hcl
        rintro e w6 ⟨v6, rfl, ho6, hb6⟩
        obtain ⟨A6, c6, rfl⟩ := ho6.form
        have hx6 : x < w6.heap.size := Nat.lt_of_lt_of_le hxl hb6.size
        have p0 := cell_later hb6 y0
        have p1 := cell_later hb6 y1
        have p2 := cell_later hb6 y2
        have p3 := cell_later hb6 y3
        have ph := (hb6.block x hxl).trans yh
        have pf := (hb6.frozen (p := ⟨x, 3, none⟩) hxl).trans yf
        have hown6 := hown5.later hb6
        have hbw6 := ext_trans hbw5 hb6
        have z0 : (w6.setCell ⟨x, 3, none⟩ (.slice A6 ts.length c6)).cell? ⟨x, 0, none⟩ = some (.string z) := (World.cell?_setCell_other _ _ _ _ (by simp)).trans p0
        have z1 : (w6.setCell ⟨x, 3, none⟩ (.slice A6 ts.length c6)).cell? ⟨x, 1, none⟩ = some (.string co) := (World.cell?_setCell_other _ _ _ _ (by simp)).trans p1
        have z2 : (w6.setCell ⟨x, 3, none⟩ (.slice A6 ts.length c6)).cell? ⟨x, 2, none⟩ = some (.int .i64 m) := (World.cell?_setCell_other _ _ _ _ (by simp)).trans p2
        have z3 : (w6.setCell ⟨x, 3, none⟩ (.slice A6 ts.length c6)).cell? ⟨x, 3, none⟩ = some (.slice A6 ts.length c6) := World.cell?_setCell_same _ _ _ p3
        have hxo : Only x w6 (w6.setCell ⟨x, 3, none⟩ (.slice A6 ts.length c6)) := only_setCell (Only.refl x w6) (p := ⟨x, 3, none⟩) (Or.inl rfl) _
        have hrep6 := (ho6.noting hxo hxl).lower (C := w.heap.size) (by have := hbw5.size; omega)
        have hown7 := hown6.kept hxo (by
          cases hu : u5.ownBlock with
          | none => exact Or.inl rfl
          | some y => exact Or.inr fun e => by injection e with e; have := hux y hu; omega) (fun g e => ⟨Nat.zero_le _, by
            injection e with e
            subst e
            rintro ⟨-, cs, t', hc, ht⟩
            rw [ph] at hc
            injection hc with hc
            injection hc with _ hc _
            exact absurd (hc ▸ ht) (by decide)⟩)
        have hbw7 : Below w.heap.size w (w6.setCell ⟨x, 3, none⟩ (.slice A6 ts.length c6)) := hbw6.setCell (p := ⟨x, 3, none⟩) hxw _
        have hz7 : (w6.setCell ⟨x, 3, none⟩ (.slice A6 ts.length c6)).heap.size = w6.heap.size := World.size_setCell _ _ _
        obtain ⟨L, hL⟩ : ∃ L, ts.length = L := ⟨_, rfl⟩
        rw [hL] at z0 z1 z2 z3 hrep6 hown7 hbw7 hz7 ⊢
        have hrepr := Own.rep hrep6
        clear y0 y1 y2 y3 yh yf hown5 hbw5 ho6 hb6 hown6 hbw6 hxo ph
        go_upto_region 7 with fail
        obtain ⟨W7, hW7⟩ : ∃ W7, w6.setCell ⟨x, 3, none⟩ (.slice A6 L c6) = W7 := ⟨_, rfl⟩
        rw [hW7] at z0 z1 z2 z3 hrepr hown7 hbw7 hz7 ⊢
        have hx7 : x < W7.heap.size := by omega
        clear p0 p1 p2 p3 pf hW7 hrep6 hz7
        have hrq := req_rep (z := z) (co := co) (m := m) hrepr
        have hrq2 := kReq.kept hrq (w' := W7.alloc (.cells #[.string z, .string co, .int .i64 m, .slice A6 L c6] 53)) (S' := Ty [9] 0 w.heap.size (W7.alloc (.cells #[.string z, .string co, .int .i64 m, .slice A6 L c6] 53))) (fun b hs hlt => by
          have hbk : (W7.alloc (.cells #[.string z, .string co, .int .i64 m, .slice A6 L c6] 53)).heap[b]? = W7.heap[b]? := (ext_alloc (Below.refl _ _) _ : Below W7.heap.size W7 _).block b hlt
          refine ⟨?_, by rw [World.size_alloc]; omega, hbk⟩
          rcases hs with hs | ⟨hs, cs, t', hc, ht'⟩
          · exact .inl hs
          · exact .inr ⟨hs, cs, t', hbk.trans hc, ht'⟩)
        go_wp2_with (at_builtin; refine wpList_own rfl _ _ rfl apd_prios (by decide) rfl (hown7.alloc _) ?c1 (by decide) ⟨W7.heap.size, 0, none⟩ 1 rfl (z, co, m, ts) [.string z, .string co, .int .i64 m, .slice A6 L c6] hrq2 (World.news_of_block (cs := #[.string z, .string co, .int .i64 m, .slice A6 L c6]) (t := 53) (fr := (0, 0)) (heap_alloc_new _ _)) (by decide) (Nat.zero_le _) ?c2 ?_)
        case c1 => exact hol
        case c2 => rw [World.size_alloc]; have := hbw7.size; omega
        intro v8 w8 hown8 hg8
        have hb8 : Below w.heap.size w w8 := (hown7.alloc (.cells #[.string z, .string co, .int .i64 m, .slice A6 L c6] 53)).below_grown (ext_alloc hbw7 _) (Nat.le_refl _) hg8
        clear hown7 hg8 hrq hrq2 hrepr
        go_wp2
        go_roundw
        case rel => exact ⟨i + 1, by omega, by go_num, by rw [hnx.out]; exact hown8, hb8⟩
        case measure => first | (simp [intOf]; done) | (simp [intOf]; omega)
      · rw [if_neg hzs, ← hout] at hnx
        rw [decide_eq_false hzs] at heq
        have hown5 := hown.later hbn
        rw [← hout] at hown5
        replace hnx := hide hnx
        clear hx0 hown hcl a3 l3 hnt hzs hout
        go_wp2_with fail
        go_roundw
        case rel => exact ⟨i + 1, by omega, by go_num, by rw [hnx.out]; exact hown5, ext_trans hb hbn⟩
        case measure => first | (simp [intOf]; done) | (simp [intOf]; omega)
    · obtain rfl : i = N := by omega
      have hall : Hid (ofS st (l.take i) = ofS st l) := hide (by rw [← hN.out, List.take_length])
      rw [hall.out] at hown
      obtain ⟨A6, c6, rfl⟩ := hown.form
      have hlen : (ofS st l).length ≤ 1000000000 := Nat.le_trans (ofS_len _ _) (by rw [hN.out]; exact hn)
      have hsort := prios_walk [9] 0 w.heap.size A6 c6 (ofS st l) wr hlen (Nat.zero_le _) (by decide) hown
      unfold SortedQ at hsort
      have hfin : Hid (ascQ (ofS st l) = wantV st l) := hide rfl
      rw [hfin.out] at hsort
      obtain ⟨n, hn'⟩ : ∃ n, (ofS st l).length = n := ⟨_, rfl⟩
      have hlt2 : ∀ y, (Value.slice A6 (ofS st l).length c6).ownBlock = some y → w.heap.size ≤ y := fun y e => (hown.lt y e).1
      rw [hn'] at hsort hlt2 ⊢
      replace hlt2 := hide hlt2
      clear hown hall hfin hn' h hlen
      go_wp2_with fail
      refine hsort.mono ?_
      clear hsort
      rintro e w5 ⟨rfl, ho5, hg5⟩
      have hb5 : Below w.heap.size w w5 := Below.grown hb hg5 hb.size hlt2.out
      go_wp2
      go_ret
      exact ⟨_, rfl, ho5, hb5⟩
end Go.Proofs.YthejgholpkeldaaGreatDoor

namespace Go.Proofs.YthejgholpkeldaaGreatDoor
open Go.RowKit
set_option maxRecDepth 100000

def s1B : ByteArray := ⟨#[115, 49]⟩
def recs12 : List (List ByteArray) := [[s1B, ⟨#[65]⟩, ⟨#[50]⟩, ⟨#[]⟩], [s1B, ⟨#[66]⟩, ⟨#[49]⟩, ⟨#[67]⟩]]
def reqs12 : List Req := [(s1B, ⟨#[65]⟩, 2, []), (s1B, ⟨#[66]⟩, 1, [⟨#[67]⟩])]
theorem read12 : (readReq (plainR 1 recs12)).ls = reqs12 ∧ (readReq (plainR 1 recs12)).ps = [] := ⟨by kernel_rfl, by kernel_rfl⟩
theorem want12 : wantV s1B reqs12 = [(s1B, ⟨#[66]⟩, 1, [⟨#[67]⟩]), (s1B, ⟨#[65]⟩, 2, [])] := by kernel_rfl
theorem lists_four {U : World} {b1 b2 b3 : Nat} {t1 t2 t3 : TypeId} {a b c d a' b' c' d' : ByteArray} (h1 : U.heap[b1]? = some (.cells #[.string a, .string b, .string c, .string d] t1 (0, 0))) (h2 : U.heap[b2]? = some (.cells #[.string a', .string b', .string c', .string d'] t2 (0, 0))) (h3 : U.heap[b3]? = some (.cells #[.slice (some ⟨b1, 0, none⟩) 4 4, .slice (some ⟨b2, 0, none⟩) 4 4] t3 (0, 0))) : ListsIn U.heap.size U (some ⟨b3, 0, none⟩) [[a, b, c, d], [a', b', c', d']] := by
  intro _
  refine ⟨b3, 0, rfl, blk_lt h3, fun j x hx => ?_⟩
  have four : ∀ (g : Nat) (t : TypeId) (p q r s : ByteArray), U.heap[g]? = some (.cells #[.string p, .string q, .string r, .string s] t (0, 0)) → StrsIn U.heap.size U (some ⟨g, 0, none⟩) [p, q, r, s] := fun g t p q r s h _ => ⟨g, 0, rfl, blk_lt h, fun k z hz => by
    match k, hz with
    | 0, hz => simp at hz; subst hz; rw [cell_of_row U g _ _ _ _ h]; rfl
    | 1, hz => simp at hz; subst hz; rw [cell_of_row U g _ _ _ _ h]; rfl
    | 2, hz => simp at hz; subst hz; rw [cell_of_row U g _ _ _ _ h]; rfl
    | 3, hz => simp at hz; subst hz; rw [cell_of_row U g _ _ _ _ h]; rfl
    | k + 4, hz => simp at hz⟩
  match j, hx with
  | 0, hx =>
    simp at hx
    subst hx
    exact ⟨some ⟨b1, 0, none⟩, 4, by rw [cell_of_row U b3 _ _ _ _ h3]; rfl, four _ _ _ _ _ _ h1⟩
  | 1, hx =>
    simp at hx
    subst hx
    exact ⟨some ⟨b2, 0, none⟩, 4, by rw [cell_of_row U b3 _ _ _ _ h3]; rfl, four _ _ _ _ _ _ h2⟩
  | j + 2, hx => simp at hx
set_option maxHeartbeats 8000000 in
theorem awake12_walk (w : World) (hS : Std w) :
    Calls Tryz.prog 6 #[] w fun e w' => e = .returned (.bool true) ∧ Below w.heap.size w w' := by
  obtain ⟨u1, u2, u3⟩ := heap3c w (.cells #[.string ⟨#[115, 49]⟩, .string ⟨#[65]⟩, .string ⟨#[50]⟩, .string ⟨#[]⟩] 9) (.cells #[.string ⟨#[115, 49]⟩, .string ⟨#[66]⟩, .string ⟨#[49]⟩, .string ⟨#[67]⟩] 9) (.cells #[.slice (some ⟨w.heap.size, 0, none⟩) 4 4, .slice (some ⟨w.heap.size + 1, 0, none⟩) 4 4] 41)
  have hb0 : Below w.heap.size w (((w.alloc (.cells #[.string ⟨#[115, 49]⟩, .string ⟨#[65]⟩, .string ⟨#[50]⟩, .string ⟨#[]⟩] 9)).alloc (.cells #[.string ⟨#[115, 49]⟩, .string ⟨#[66]⟩, .string ⟨#[49]⟩, .string ⟨#[67]⟩] 9)).alloc (.cells #[.slice (some ⟨w.heap.size, 0, none⟩) 4 4, .slice (some ⟨w.heap.size + 1, 0, none⟩) 4 4] 41)) := (by repeat (first | exact Below.refl _ _ | refine ext_alloc ?_ _ | refine ext_drewN ?_ _ | refine ext_drew ?_ | refine ext_trans ?_ (by assumption)))
  obtain ⟨U, hU⟩ : ∃ U, ((w.alloc (.cells #[.string ⟨#[115, 49]⟩, .string ⟨#[65]⟩, .string ⟨#[50]⟩, .string ⟨#[]⟩] 9)).alloc (.cells #[.string ⟨#[115, 49]⟩, .string ⟨#[66]⟩, .string ⟨#[49]⟩, .string ⟨#[67]⟩] 9)).alloc (.cells #[.slice (some ⟨w.heap.size, 0, none⟩) 4 4, .slice (some ⟨w.heap.size + 1, 0, none⟩) 4 4] 41) = U := ⟨_, rfl⟩
  rw [hU] at u1 u2 u3 hb0
  have hpl := plain_walk (some ⟨w.heap.size + 2, 0, none⟩) recs12 2 U (lists_four u1 u2 u3) (by decide) (by decide)
  have hS0 := hS.after hb0
  replace hU := hide hU
  clear u1 u2 u3 hS
  go_enter Tryz.func6, Tryz.ntmps6
  go_wp2_with fail
  rw [hU.out]
  refine hpl.mono ?_
  clear hpl
  rintro e w1 ⟨v, rfl, hR, hb1⟩
  obtain ⟨A1, c1, rfl⟩ : ∃ A1 c1, v = .slice A1 2 c1 := by obtain ⟨us, -, h, -⟩ := hR; exact owns_form h
  have hR1 := recs_at hR
  have hread := qRead_walk A1 (plainR 1 recs12) c1 w1 (hS0.after hb1) hR1 (by decide) (by decide)
  replace hb0 := ext_trans hb0 hb1
  clear hR hR1 hb1 hS0 hU
  go_wp2_with fail
  refine hread.mono ?_
  clear hread
  rintro e w2 ⟨v6, v8, rfl, hL, hP, hb2⟩
  rw [read12.1] at hL
  rw [read12.2] at hP
  obtain ⟨A6, c6, rfl⟩ : ∃ A6 c6, v6 = .slice A6 2 c6 := hL.form
  obtain ⟨A8, c8, rfl⟩ : ∃ A8 c8, v8 = .slice A8 0 c8 := owns_form hP
  have hwant := wantQ_walk A6 reqs12 c6 s1B w2 (by decide) (by decide) hL.any'.any
  rw [want12] at hwant
  replace hb0 := ext_trans hb0 hb2
  clear hL hP hb2
  go_wp2_with fail
  refine hwant.mono ?_
  clear hwant
  rintro e w3 ⟨v3, rfl, hO, hb3⟩
  obtain ⟨A3, c3, rfl⟩ : ∃ A3 c3, v3 = .slice A3 2 c3 := hO.form
  obtain ⟨b, off, F, cF, rfl, -, hbl, ⟨-, k1, -, -⟩, -, -⟩ := hO.any'.req (j := 0) rfl
  dsimp only at k1
  rw [Nat.zero_mul, Nat.add_zero] at k1
  replace hb0 := ext_trans hb0 hb3
  clear hO hb3
  go_wp2_with fail
  go_ret
  exact ⟨rfl, hb0⟩
end Go.Proofs.YthejgholpkeldaaGreatDoor
