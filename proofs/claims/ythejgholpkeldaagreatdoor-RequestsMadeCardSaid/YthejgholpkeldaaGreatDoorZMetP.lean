/- A copy of a row of data that lie elsewhere. No condition. Rows of texts: a part at the front, what is appended that lies elsewhere. No condition. A map in which codes are noted, as it is read and written. No condition. -/
import Derived.Test.YthejgholpkeldaaGreatDoorRows
import Derived.WalkKit
import Derived.WalkSpells
import Derived.WalkLawsBesides
import Derived.BigGuardPart
import Derived.Lib.Hide
import Derived.Laws.BitsAllLaws
import Derived.Laws.BitsLemmas
import Derived.Lib.LaidTab
import Derived.Test.YthejgholpkeldaaGreatDoorShelf
import Derived.Lib.ConvBytes
import Derived.Deep.QuietTactic
import Derived.BigQuiet
import Derived.Lib.SmallJoins
import Derived.Lib.SplitLaws
import Derived.Lib.CountLaws
import Derived.Lib.IndexMore
import Derived.Lib.Split
import Derived.Lib.Join
import Derived.Lib.ItoaNum
import Derived.Laws.AppendOwn
import Derived.Laws.ResultCell
import Derived.RegionTactic
import Derived.BigRegion
import Derived.Deep.RegionHeld3
import Derived.Deep.DeepCutAuto
import Derived.Deep.AppendLies
import Derived.Lib.PathFns
import Derived.Test.YthejgholpkeldaaGreatDoorShelfS
import Derived.Test.YthejgholpkeldaaGreatDoorShelfT
import Derived.Lib.ItoaLen
import Derived.Lib.AppendIntMem
import Derived.Maps.Range
import Derived.Lib.OwnBridge
import Derived.Sort.OwnSorted
import Derived.Deep.RegionLaw
import Derived.Deep.RegionLawGrows
import Derived.Test.YthejgholpkeldaaGreatDoorZIdxS
import Derived.Maps.OwnSet
import Derived.StringKeys
import Derived.Test.YthejgholpkeldaaGreatDoorZSameL
namespace Go.Proofs.YthejgholpkeldaaGreatDoor
open Go.RowKit
set_option maxRecDepth 100000

/-- A row of its own from block B on; what its elements point to lies in blocks S. -/
def OwnS {α : Type} (K : Kind α) (t : TypeId) (S : Nat → Prop) (B : Nat) (w : World) (v : Value) (l : List α) : Prop :=
  ∃ vss : List (List Value), vss.length = l.length ∧ w.ownsRow B t K.k v l.length vss.flatten ∧ ∀ (j : Nat) (x : α) (vs : List Value), l[j]? = some x → vss[j]? = some vs → K.rep S w x vs
section
variable {α : Type} {K : Kind α} {t : TypeId} {S : Nat → Prop} {B : Nat} {w : World} {v : Value} {l : List α}
theorem OwnS.form (h : OwnS K t S B w v l) : ∃ A c, v = .slice A l.length c := by obtain ⟨vss, -, h, -⟩ := h; exact owns_form h
theorem OwnS.tossed {C g : Nat} {b : World} (h : OwnS K t S B w v l) (T : Thrown C w g b) (hg : g < B) (hS : ∀ x, S x → x ≠ g) : OwnS K t S B b v l := by
  obtain ⟨vss, e1, e2, e3⟩ := h
  refine ⟨vss, e1, e2.kept T.only ?_, fun j x vs hj hv => K.kept (e3 j x vs hj hv) fun y hs hlt => ⟨hs, Nat.lt_of_lt_of_le hlt T.size, T.only.block y hlt (fun e => hS y hs (by injection e))⟩⟩
  cases hv : v.ownBlock with
  | none => exact .inl rfl
  | some y => exact .inr fun e => by have := (World.ownsRow.lt e2 y hv).1; injection e with e; omega
theorem OwnS.own {ts : List TypeId} (h : OwnS K t S B w v l) (hS : ∀ x, S x → x < B) : Own K t ts B B w v l := by
  obtain ⟨vss, e1, e2, e3⟩ := h
  exact ⟨vss, e1, e2, fun j x vs hj hv => K.more (e3 j x vs hj hv) fun b hb => .inl (hS b hb)⟩
theorem wpList_at_copy {P : Program} {t2 : TypeId} {bytes : Nat} {ops : Array Oper} {rest : List Oper} {o : Oper} {a : Act} {Q : Exit → Act → World → Prop} (hgd : o.guard = none) (s x : Operand)
    (ho : o.op = .call { callee := .builtin .append, args := #[s, x], argTypes := #[t2, t2] }) (hA : Apd P t2 t K.k bytes) (hk0 : 0 < K.k) (hs : a.eval s = .slice none 0 0) {A : Option Addr} {n c : Nat} (hn : l.length = n) (hx : a.eval x = .slice A n c) (h : At K S w A l) (hl : n ≤ 4000000000) (hby : bytes ≤ 1000)
    (hk : ∀ v' w', OwnS K t S w.heap.size w' v' l → (∀ y, v'.ownBlock = some y → w.heap.size ≤ y) → w.grownBy w' none → wpList P ops Q rest (a.put o.dst v') w') : wpList P ops Q (o :: rest) a w := by
  obtain ⟨i, z, hi, hz, h1, h2, h3⟩ := hA.i
  by_cases h0 : n = 0
  · subst h0
    obtain rfl : l = [] := List.eq_nil_of_length_eq_zero hn
    refine wpList_plain hgd fun K' hK => ?_
    have hrun : (Builtin.append_ #[t2, t2] o.type #[.slice none 0 0, .slice A 0 c]).run P w = .ok (.slice none 0 0) w := by
      cases A <;> simp [Builtin.append_, run_underlying hA.u, sizeOf, typeInfo, hi, Builtin.lenOf, Builtin.firstCells, loadCells, loadCellsFrom]
    unfold Oper.wp
    simp [execOp, ho, resolve, invoke, builtin, hs, hx, hrun, Result.andThen]
    exact hK _ _ (hk (.slice none 0 0) w ⟨[], rfl, World.ownsRow_nil _ _ _ _, fun j x vs h => by simp at h⟩ (fun y e => by simp [Value.ownBlock] at e) (World.grownBy.refl _ _))
  · obtain ⟨b, off, vss, rfl, hb, hvl, hrep, hc⟩ := h.rows (by omega)
    obtain ⟨r1, r2⟩ := reps_len l vss hvl hrep
    refine wpList_append_own w hgd s x t2 ho w.heap.size t i z K.k bytes hA.u hi hz h1 h2 h3 hk0 (.slice none 0 0) 0 [] hs (World.ownsRow_nil _ _ _ _) ⟨b, off, none⟩ n c vss.flatten hx (by rw [r1, hn]) (fun j u hj => by rw [Addr.add_lit]; exact hc j u hj) r2 (by unfold maxLen; omega) ?_ (Nat.le_refl _) fun v' w' hown hgr _ => hk v' w' ⟨vss, hvl, by rw [hn]; simpa using hown, fun j x vs hj hv => K.kept (hrep j x vs hj hv) fun y hs hlt => ⟨hs, Nat.lt_of_lt_of_le hlt hgr.size, hgr.block y hlt (by simp [Value.ownBlock])⟩⟩ (fun y hy => (World.ownsRow.lt hown y hy).1) hgr
    exact Nat.le_trans (Nat.mul_le_mul (by omega : 0 + n ≤ 4000000000) hby) (by decide)
end
end Go.Proofs.YthejgholpkeldaaGreatDoor

namespace Go.Proofs.YthejgholpkeldaaGreatDoor
open Go.RowKit
set_option maxRecDepth 100000

theorem flatten_take {k : Nat} : ∀ (vss : List (List Value)), (∀ vs ∈ vss, vs.length = k) → ∀ n, (vss.take n).flatten = vss.flatten.take (n * k)
  | [], _, n => by simp
  | vs :: vss, h, 0 => by simp
  | vs :: vss, h, n + 1 => by
    have h1 := h vs (by simp)
    rw [List.take_succ_cons, List.flatten_cons, List.flatten_cons, flatten_take vss (fun x hx => h x (by simp [hx])) n, List.take_append, h1]
    rw [List.take_of_length_le (l := vs) (by rw [h1, Nat.add_mul]; omega), show (n + 1) * k - k = n * k from by rw [Nat.add_mul]; omega]
theorem Own.front {α : Type} {K : Kind α} {t : TypeId} {ts : List TypeId} {B0 B n c k : Nat} {w : World} {A : Option Addr} {l : List α} (h : Own K t ts B0 B w (.slice A n c) l) (hk : k ≤ n) : Own K t ts B0 B w (.slice A k c) (l.take k) := by
  obtain ⟨vss, e1, e2, e3⟩ := h
  have hall : ∀ vs ∈ vss, vs.length = K.k := by
    intro vs hv
    obtain ⟨j, hj⟩ := List.getElem?_of_mem hv
    have hjl := (List.getElem?_eq_some_iff.1 hj).1
    exact K.len (e3 j _ vs (List.getElem?_eq_getElem (by omega)) hj)
  have hfl := (reps_len l vss e1 e3).1
  have hn : n = l.length := by obtain ⟨A', c', e⟩ := owns_form e2; injection e
  have htl : (l.take k).length = k := by rw [List.length_take]; omega
  refine ⟨vss.take k, by rw [List.length_take, htl]; omega, ?_, fun j x vs hj hv => ?_⟩
  · rw [flatten_take vss hall k, htl]
    refine ⟨by rw [List.length_take, hfl]; exact Nat.min_eq_left (Nat.mul_le_mul_right _ (by omega)), ?_⟩
    rcases e2.2 with ⟨e, h0⟩ | ⟨g, cap, cur, e, hB, hg, h1, h2, h3, h4⟩
    · injection e with e e' e''
      have hk0 : k = 0 := by omega
      subst e e''
      exact .inl ⟨by rw [hk0], hk0⟩
    · injection e with e e' e''
      subst e e''
      refine .inr ⟨g, c, cur, rfl, hB, hg, by omega, h2, h3, ?_⟩
      rw [← h4, List.take_take]
      congr 1
      exact (Nat.min_eq_left (Nat.mul_le_mul_right _ (by omega))).symm
  · rw [List.getElem?_take] at hj hv
    split at hj
    · rename_i hjk
      rw [if_pos hjk] at hv
      exact e3 j x vs hj hv
    · cases hj
theorem step_own_app {P : Program} {t2 t : TypeId} {B bytes ns cs : Nat} {w : World} {As : Option Addr} {l : List ByteArray} {ops : Array Oper} {o : Oper} {a : Act} {K' : Act → World → Prop} {Q : Exit → Act → World → Prop} {E : Prop} (hgd : o.guard = none) (s x : Operand)
    (ho : o.op = .call { callee := .builtin .append, args := #[s, x], argTypes := #[t2, t2] }) (hA : Apd P t2 t 1 bytes) (hs : a.eval s = .slice As ns cs) (h : Own kStr t [] 0 B w (.slice As ns cs) l) {F : Option Addr} {es : List ByteArray} {k c : Nat} (hk0 : es.length = k) (hpos : 0 < k) (hx : a.eval x = .slice F k c) (hF : At kStr AnyB w F es) (hl : l.length + k ≤ 4000000000) (hby : bytes ≤ 1000) (hB : B ≤ w.heap.size)
    (hk : ∀ g cap w', Own kStr t [] 0 B w' (.slice (some ⟨g, 0, none⟩) (l.length + k) cap) (l ++ es) → w.grownBy w' (Value.slice As ns cs).ownBlock → g < w'.heap.size → K' (a.put o.dst (.slice (some ⟨g, 0, none⟩) (l.length + k) cap)) w') :
    if Region.wanted o (yielded ops a.tmps) = true then Oper.wp P o a w K' Q else E := by
  obtain ⟨i, z, hi, hz, h1, h2, h3⟩ := hA.i
  obtain ⟨b, off, vss, rfl, hb, hvl, hrep, hc⟩ := hF.rows (by omega)
  obtain ⟨vs0, e1, e2, e3⟩ := h
  obtain ⟨r1, r2⟩ := reps_len es vss hvl hrep
  refine step_append_lies w hgd s x t2 ho B t i z 1 bytes hA.u hi hz h1 h2 h3 (by decide) _ l.length vs0.flatten hs e2 ⟨b, off, none⟩ k c vss.flatten hx (by rw [r1, hk0]; rfl) (fun j u hj => by rw [Addr.add_lit]; exact hc j u hj) r2 hpos (by unfold maxLen; omega) (Nat.le_trans (Nat.mul_le_mul hl hby) (by decide)) hB w.heap.size rfl fun g cap w' hn hg _ hlt => hk g cap w' ?_ hg hlt
  have := Own.append (K := kStr) (B0 := 0) es vss vs0 e1 e2 e3 hvl (fun j x vs hj hv => hrep j x vs hj hv) (by simp) (Nat.zero_le _) hg (v' := .slice (some ⟨g, 0, none⟩) (l.length + k) cap) (by rw [hk0]; exact hn)
  exact this
end Go.Proofs.YthejgholpkeldaaGreatDoor

namespace Go.Proofs.YthejgholpkeldaaGreatDoor
open Go.RowKit
set_option maxRecDepth 100000

theorem met_inj {x y : ByteArray} (h : x.data.toList = y.data.toList) : x = y := by
  cases x; cases y
  simp only [ByteArray.mk.injEq]
  exact Array.toList_inj.1 h
end Go.Proofs.YthejgholpkeldaaGreatDoor
