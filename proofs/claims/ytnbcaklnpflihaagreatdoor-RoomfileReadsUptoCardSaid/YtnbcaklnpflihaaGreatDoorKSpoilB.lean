/- Slices of bytes of a call's own: what appends leave of them. For Dice.Spoil. Conditions: short slices. Walk of Dice.Spoil: it gives a text of at most one byte more. Conditions: short texts. -/
import Derived.Test.YtnbcaklnpflihaaGreatDoorKDice
import Derived.Lib.ConvBytes
import Derived.Lib.SmallJoins
import Derived.Laws.AppendOwn
import Derived.Deep.RegionLaw
import Derived.Deep.RegionLawGrows
import Derived.Deep.DeepCutAuto
namespace Go.Proofs.YtnbcaklnpflihaaGreatDoor
open Go.RowKit
set_option maxRecDepth 100000

theorem infoU8 : (Tryz.prog.info? 5).map (fun i => (i.zero, i.size, i.bytes)) = some (some (.int .u8 0), 1, 1) := by kernel_rfl
/-- A slice of n bytes in a block from B on; its spare places are there and free. -/
structure BS (B : Nat) (w : World) (g o n cap : Nat) : Prop where
  lo : B ≤ g
  le : n ≤ cap
  max : cap ≤ maxLen
  cells : ∀ j, j < n → ∃ x : UInt8, w.cell? ⟨g, o + j, none⟩ = some (.int .u8 (x.toNat : Int))
  there : ∀ j, j < cap → (w.cell? ⟨g, o + j, none⟩).isSome = true ∧ w.frozen? ⟨g, o + j, none⟩ = false
theorem BS.take {B : Nat} {w : World} {g o n cap : Nat} (h : BS B w g o n cap) {k : Nat} (hk : k ≤ n) : BS B w g o k cap :=
  ⟨h.lo, Nat.le_trans hk h.le, h.max, fun j hj => h.cells j (by omega), h.there⟩
theorem BS.drop {B : Nat} {w : World} {g o n cap : Nat} (h : BS B w g o n cap) {k : Nat} (hk : k ≤ n) : BS B w g (o + k) (n - k) (cap - k) := by
  have := h.le
  refine ⟨h.lo, by omega, by have := h.max; omega, fun j hj => ?_, fun j hj => ?_⟩
  · rw [Nat.add_assoc]; exact h.cells (k + j) (by omega)
  · rw [Nat.add_assoc]; exact h.there (k + j) (by omega)
theorem BS.lt {B : Nat} {w : World} {g o n cap : Nat} (h : BS B w g o n cap) (hn : 0 < n) : g < w.heap.size := by
  obtain ⟨x, hx⟩ := h.cells 0 hn
  exact World.block_lt_of_cell? _ _ hx
theorem BS.kept {B : Nat} {w w' : World} {g o n cap : Nat} (h : BS B w g o n cap) (hb : g < w.heap.size → w'.heap[g]? = w.heap[g]?) : BS B w' g o n cap := by
  refine ⟨h.lo, h.le, h.max, fun j hj => ?_, fun j hj => ?_⟩
  · obtain ⟨x, hx⟩ := h.cells j hj
    exact ⟨x, (World.cell?_of_block (w := w) (a := ⟨g, o + j, none⟩) (hb (World.block_lt_of_cell? _ _ hx))).trans hx⟩
  · have hj' := h.there j hj
    obtain ⟨v, hv⟩ := Option.isSome_iff_exists.1 hj'.1
    have hlt : g < w.heap.size := World.block_lt_of_cell? _ _ hv
    have e1 := World.cell?_of_block (w := w) (w' := w') (a := ⟨g, o + j, none⟩) (hb hlt)
    have e2 := World.frozen?_of_block (w := w) (w' := w') (a := ⟨g, o + j, none⟩) (hb hlt)
    rw [e1, e2]; exact hj'
theorem BS.later {B : Nat} {w w' : World} {g o n cap : Nat} (h : BS B w g o n cap) (hb : Below w.heap.size w w') : BS B w' g o n cap := h.kept fun hg => hb.block g hg
/-- The bytes of a slice as a list. -/
theorem BS.list {B : Nat} {w : World} {g o cap : Nat} : ∀ {n : Nat}, BS B w g o n cap → ∃ l : List UInt8, l.length = n ∧ ∀ j (hj : j < l.length), w.cell? ⟨g, o + j, none⟩ = some (.int .u8 (l[j].toNat : Int))
  | 0, _ => ⟨[], rfl, fun j hj => by simp at hj⟩
  | n + 1, h => by
    obtain ⟨l, hl, hc⟩ := (h.take (Nat.le_succ n)).list
    obtain ⟨x, hx⟩ := h.cells n (Nat.lt_succ_self n)
    refine ⟨l ++ [x], by simp [hl], fun j hj => ?_⟩
    by_cases e : j < l.length
    · rw [List.getElem_append_left e]; exact hc j e
    · have e' : j = l.length := by simp at hj; omega
      subst e'
      simp [hl, hx]
/-- The slice that a text becomes. -/
theorem bs_bytes (w : World) (s : ByteArray) (hs : s.size ≤ 1000000) : BS w.heap.size (Lib.bytesWorld w 5 s) w.heap.size 0 s.size (grownCap w s.size 0 5) := by
  have hge := grownCap_ge w s.size 0 5
  have hcs : (Lib.bytesCells w 5 s).size = grownCap w s.size 0 5 := by
    unfold Lib.bytesCells
    rw [Array.size_append, Array.size_replicate, Array.size_map]
    show s.size + (_ - s.size) = _
    omega
  refine ⟨Nat.le_refl _, hge, grownCap_le_maxLen w s.size 0 5 (by unfold maxLen; omega), fun j hj => ?_, fun j hj => ?_⟩
  · exact ⟨s.data.toList.getD j 0, by rw [Nat.zero_add]; exact Lib.bytesWorld_cell w 5 s j hj⟩
  · rw [Nat.zero_add]
    have hn := Lib.bytesWorld_at_new w 5 s
    constructor
    · rw [cell_of_row _ _ j _ _ _ hn, Array.getElem?_eq_getElem (by rw [hcs]; exact hj)]; rfl
    · simp [World.frozen?, hn]; omega
theorem BS.set {B : Nat} {w : World} {g o n cap : Nat} (h : BS B w g o n cap) (k : Nat) (c : UInt8) (hk : k < n) : BS B (w.setCell ⟨g, o + k, none⟩ (.int .u8 (c.toNat : Int))) g o n cap := by
  refine ⟨h.lo, h.le, h.max, fun j hj => ?_, fun j hj => ?_⟩
  · by_cases e : j = k
    · subst e
      obtain ⟨x, hx⟩ := h.cells j hj
      exact ⟨c, World.cell?_setCell_same _ _ _ (h := hx)⟩
    · obtain ⟨x, hx⟩ := h.cells j hj
      exact ⟨x, (World.cell?_setCell_other _ _ _ _ (fun e' => by injection e' with _ e1; omega)).trans hx⟩
  · have hj' := h.there j hj
    obtain ⟨v, hv⟩ := Option.isSome_iff_exists.1 hj'.1
    obtain ⟨v', hv'⟩ := cell?_setCell_some (w := w) (p := ⟨g, o + k, none⟩) (x := .int .u8 (c.toNat : Int)) hv
    rw [hv', World.frozen?_setCell]
    exact ⟨rfl, hj'.2⟩

theorem below_setCells {B g : Nat} (hg : B ≤ g) : ∀ (vs : List Value) (o : Nat) {w w' : World}, Below B w w' → Below B w (w'.setCells g o vs)
  | [], _, _, _, h => h
  | v :: vs, o, _, _, h => below_setCells hg vs (o + 1) (h.setCell (p := ⟨g, o, none⟩) hg v)
theorem bs_put {B : Nat} {w : World} {g o n cap m : Nat} (h : BS B w g o n cap) (l : List UInt8) (hl : l.length = m) (hroom : n + m ≤ cap) :
    BS B (w.setCells g (o + n) (l.map fun b => Value.int .u8 (b.toNat : Int))) g o (n + m) cap := by
  have hex : ∀ j, j < (l.map fun b => Value.int .u8 (b.toNat : Int)).length → (w.cell? ⟨g, o + n + j, none⟩).isSome = true := fun j hj => by
    rw [List.length_map] at hj
    rw [Nat.add_assoc]; exact (h.there (n + j) (by omega)).1
  refine ⟨h.lo, hroom, h.max, fun j hj => ?_, fun j hj => ?_⟩
  · by_cases hjn : j < n
    · obtain ⟨x, hx⟩ := h.cells j hjn
      exact ⟨x, (World.cell?_setCells_out g _ _ w ⟨g, o + j, none⟩ (fun _ _ => Or.inl (by show o + j < o + n; omega))).trans hx⟩
    · have hlt : j - n < (l.map fun b => Value.int .u8 (b.toNat : Int)).length := by rw [List.length_map]; omega
      have := World.cell?_setCells_in g _ (o + n) w hex (j - n) hlt
      rw [show o + n + (j - n) = o + j from by omega] at this
      rw [List.getElem_map] at this
      exact ⟨_, this⟩
  · rw [World.frozen?_setCells]
    refine ⟨?_, (h.there j hj).2⟩
    by_cases hin : n ≤ j ∧ j < n + m
    · have hlt : j - n < (l.map fun b => Value.int .u8 (b.toNat : Int)).length := by rw [List.length_map]; omega
      have := World.cell?_setCells_in g _ (o + n) w hex (j - n) hlt
      rw [show o + n + (j - n) = o + j from by omega] at this
      rw [this]; rfl
    · rw [World.cell?_setCells_out g _ _ w ⟨g, o + j, none⟩ (fun _ _ => by
        rw [List.length_map]
        show o + j < o + n ∨ o + n + l.length ≤ o + j
        omega)]
      exact (h.there j hj).1
theorem one_bytes (l : List UInt8) : ∀ u ∈ (l.map fun b => Value.int .u8 (b.toNat : Int)), u.oneCell' = true := by
  intro u hu
  obtain ⟨b, -, rfl⟩ := List.mem_map.1 hu
  rfl
theorem bytes_at {w : World} {g o : Nat} {l : List UInt8} (h : ∀ j (hj : j < l.length), w.cell? ⟨g, o + j, none⟩ = some (.int .u8 (l[j].toNat : Int))) :
    ∀ j u, (l.map fun b => Value.int .u8 (b.toNat : Int))[j]? = some u → w.cell? ((⟨g, o, none⟩ : Addr).add j) = some u := by
  intro j u hu
  rw [List.getElem?_map] at hu
  cases hj : l[j]? with
  | none => rw [hj] at hu; cases hu
  | some b =>
    rw [hj] at hu
    obtain rfl := Option.some.inj hu
    obtain ⟨hlt, rfl⟩ := List.getElem?_eq_some_iff.1 hj
    have hadd : (⟨g, o, none⟩ : Addr).add j = ⟨g, o + j, none⟩ := by simp [Addr.add]
    rw [hadd]; exact h j hlt
/-- A slice appended to another one where there is room. -/
theorem step_bs_room {ops : Array Oper} {op : Oper} {a : Act} {w : World} {K : Act → World → Prop} {Q : Exit → Act → World → Prop} {E : Prop} (hgd : op.guard = none) (s x : Operand)
    (hop : op.op = Op.call { callee := Callee.builtin Builtin.append, args := #[s, x], argTypes := #[100, 100] }) {B B' g o n cap g' o' m c : Nat} (hs : a.eval s = .slice (some ⟨g, o, none⟩) n cap) (h : BS B w g o n cap)
    (hx : a.eval x = .slice (some ⟨g', o', none⟩) m c) (h' : BS B' w g' o' m c) (hroom : n + m ≤ cap)
    (hK : ∀ w', BS B w' g o (n + m) cap → Below B w w' → K (a.put op.dst (.slice (some ⟨g, o, none⟩) (n + m) cap)) w') :
    if Region.wanted op (yielded ops a.tmps) = true then Oper.wp Tryz.prog op a w K Q else E := by
  obtain ⟨i0, hi, hz0, hz1, hz2⟩ := info_parts infoU8
  obtain ⟨l, hl, hc⟩ := h'.list
  refine step_append_room hgd s x 100 hop 5 i0 1 Tryz.underlying100 hi hz1 g o n cap hs ⟨g', o', none⟩ m c (l.map fun b => Value.int .u8 (b.toNat : Int)) hx (by rw [List.length_map, hl, Nat.mul_one]) (bytes_at hc) (one_bytes l) hroom (fun j hj => ?_) ?_
  · rw [List.length_map] at hj
    rw [Nat.mul_one, Nat.add_assoc]
    exact h.there (n + j) (by omega)
  · rw [Nat.mul_one]
    exact hK _ (bs_put h l hl hroom) (below_setCells h.lo _ _ (Below.refl _ _))
theorem bs_of_owns {B : Nat} {w : World} {v : Value} {n : Nat} {l : List UInt8} (hn : 0 < n) (hl : l.length = n) (h : w.ownsRow B 5 1 v n (l.map fun b => Value.int .u8 (b.toNat : Int))) : ∃ g cap, v = .slice (some ⟨g, 0, none⟩) n cap ∧ BS B w g 0 n cap := by
  obtain ⟨-, h2⟩ := h
  rcases h2 with ⟨-, h0⟩ | ⟨g, cap, cur, rfl, hb, hg, hnc, hm, hs, ht⟩
  · omega
  · rw [Nat.mul_one] at hs ht
    refine ⟨g, cap, rfl, hb, hnc, hm, fun j hj => ?_, fun j hj => ?_⟩
    · have e : (cur.toList.take n)[j]? = (l.map fun b => Value.int .u8 (b.toNat : Int))[j]? := by rw [ht]
      rw [List.getElem?_take, if_pos hj, List.getElem?_map, List.getElem?_eq_getElem (l := l) (i := j) (by omega)] at e
      refine ⟨l[j]'(by omega), ?_⟩
      rw [Nat.zero_add, cell_of_row w g j _ _ _ hg, ← Array.getElem?_toList, e]; rfl
    · rw [Nat.zero_add]
      constructor
      · rw [cell_of_row w g j _ _ _ hg, Array.getElem?_eq_getElem (show j < cur.size from by rw [hs]; exact hj)]; rfl
      · simp [World.frozen?, hg]
/-- A slice appended to another one where there is no room. -/
theorem step_bs_grows {ops : Array Oper} {op : Oper} {a : Act} {w : World} {K : Act → World → Prop} {Q : Exit → Act → World → Prop} {E : Prop} (hgd : op.guard = none) (s x : Operand)
    (hop : op.op = Op.call { callee := Callee.builtin Builtin.append, args := #[s, x], argTypes := #[100, 100] }) {B B' g o n cap g' o' m c : Nat} (hs : a.eval s = .slice (some ⟨g, o, none⟩) n cap) (h : BS B w g o n cap)
    (hx : a.eval x = .slice (some ⟨g', o', none⟩) m c) (h' : BS B' w g' o' m c) (hfull : cap < n + m) (hb : n + m ≤ 1000000)
    (hK : ∀ g2 c2 w', BS w.heap.size w' g2 0 (n + m) c2 → Below w.heap.size w w' → K (a.put op.dst (.slice (some ⟨g2, 0, none⟩) (n + m) c2)) w') :
    if Region.wanted op (yielded ops a.tmps) = true then Oper.wp Tryz.prog op a w K Q else E := by
  obtain ⟨i0, hi, hz0, hz1, hz2⟩ := info_parts infoU8
  obtain ⟨l, hl, hc⟩ := h'.list
  obtain ⟨k, hk, hd⟩ := h.list
  refine step_append_grows hgd s x 100 hop 5 i0 (.int .u8 0) 1 1 Tryz.underlying100 hi hz0 hz1 hz2 rfl (by decide) (some ⟨g, o, none⟩) n cap (k.map fun b => Value.int .u8 (b.toNat : Int)) hs (fun e => by cases e) (by rw [List.length_map, hk, Nat.mul_one]) (fun b hb => by obtain rfl := Option.some.inj hb; exact bytes_at hd)
    ⟨g', o', none⟩ m c (l.map fun b => Value.int .u8 (b.toNat : Int)) hx (by rw [List.length_map, hl, Nat.mul_one]) (bytes_at hc) (one_bytes l) hfull (by unfold maxLen; omega) (by omega) ?_
  intro v' w' hown hgrow
  rw [← List.map_append] at hown
  obtain ⟨g2, c2, rfl, hbs⟩ := bs_of_owns (by omega) (by rw [List.length_append]; omega) hown
  exact hK g2 c2 w' hbs ⟨hgrow.os, hgrow.tape, hgrow.output, hgrow.size, fun i hi => hgrow.block i hi (by simp)⟩
end Go.Proofs.YtnbcaklnpflihaaGreatDoor

namespace Go.Proofs.YtnbcaklnpflihaaGreatDoor
open Go.RowKit
set_option maxRecDepth 100000

theorem bs_text {B : Nat} {w : World} {g o n cap : Nat} (h : BS B w g o n cap) : ∃ r : ByteArray, r.size = n ∧ ∀ c, (convert 100 9 (.slice (some ⟨g, o, none⟩) n c)).run Tryz.prog w = .ok (.string r) w := by
  obtain ⟨l, hl, hc⟩ := h.list
  subst hl
  exact ⟨⟨l.toArray⟩, by show l.toArray.size = _; simp, fun c => run_convert_bytes_back w 100 9 5 ⟨g, o, none⟩ c l Tryz.underlying100 Tryz.underlying5 Tryz.underlying9 (fun j hj => by
    have hadd : (⟨g, o, none⟩ : Addr).add j = ⟨g, o + j, none⟩ := by simp [Addr.add]
    rw [hadd]; exact hc j hj)⟩
theorem bs_one (w : World) (c : UInt8) : BS w.heap.size (w.alloc (.cells #[.int .u8 (c.toNat : Int)] 5)) w.heap.size 0 1 1 := by
  refine ⟨Nat.le_refl _, Nat.le_refl _, by unfold maxLen; omega, fun j hj => ?_, fun j hj => ?_⟩
  · obtain rfl : j = 0 := by omega
    exact ⟨c, by simp⟩
  · obtain rfl : j = 0 := by omega
    exact ⟨by simp, by simp⟩
theorem BS.lower {B C : Nat} {w : World} {g o n cap : Nat} (h : BS B w g o n cap) (hc : C ≤ B) : BS C w g o n cap := ⟨Nat.le_trans hc h.lo, h.le, h.max, h.cells, h.there⟩
theorem bs_none {B : Nat} {w : World} {g : Nat} (hB : B ≤ g) {o n cap : Nat} (hn : n = 0) (hc : cap = 0) : BS B w g o n cap := by
  subst hn hc; exact ⟨hB, Nat.le_refl _, Nat.zero_le _, fun j hj => by omega, fun j hj => by omega⟩
end Go.Proofs.YtnbcaklnpflihaaGreatDoor
