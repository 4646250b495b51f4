/- Slices of bytes of a call's own: what appends leave of them. For Dice.Spoil. Conditions: short slices. Walk of Dice.Spoil: it gives a text of at most one byte more. Conditions: short texts. -/
import Derived.Test.YthejgholpkeldaaGreatDoorRows
import Derived.WalkKit
import Derived.WalkSpells
import Derived.WalkLawsBesides
import Derived.BigGuardPart
import Derived.Lib.Hide
import Derived.Laws.BitsAllLaws
import Derived.Laws.BitsLemmas
import Derived.Lib.LaidTab
import Derived.Test.YthejgholpkeldaaGreatDoorShelf
import Derived.Lib.ConvBytes
import Derived.Deep.QuietTactic
import Derived.BigQuiet
import Derived.Laws.ResultCell
import Derived.RegionTactic
import Derived.BigRegion
import Derived.Deep.RegionHeld3
import Derived.Deep.DeepCutAuto
import Derived.Lib.SmallJoins
import Derived.Laws.AppendOwn
import Derived.Deep.RegionLaw
import Derived.Deep.RegionLawGrows
import Derived.Test.YthejgholpkeldaaGreatDoorZSameL
namespace Go.Proofs.YthejgholpkeldaaGreatDoor
open Go.RowKit
set_option maxRecDepth 100000

theorem infoU8 : (Tryz.prog.info? 5).map (fun i => (i.zero, i.size, i.bytes)) = some (some (.int .u8 0), 1, 1) := by kernel_rfl
/-- A slice of n bytes in a block from B on; its spare places are there and free. -/
structure BS (B : Nat) (w : World) (g o n cap : Nat) : Prop where
  lo : B ≤ g
  le : n ≤ cap
  max : cap ≤ maxLen
  cells : ∀ j, j < n → ∃ x : UInt8, w.cell? ⟨g, o + j, none⟩ = some (.int .u8 (x.toNat : Int))
  there : ∀ j, j < cap → (w.cell? ⟨g, o + j, none⟩).isSome = true ∧ w.frozen? ⟨g, o + j, none⟩ = false
theorem BS.take {B : Nat} {w : World} {g o n cap : Nat} (h : BS B w g o n cap) {k : Nat} (hk : k ≤ n) : BS B w g o k cap :=
  ⟨h.lo, Nat.le_trans hk h.le, h.max, fun j hj => h.cells j (by omega), h.there⟩
theorem BS.drop {B : Nat} {w : World} {g o n cap : Nat} (h : BS B w g o n cap) {k : Nat} (hk : k ≤ n) : BS B w g (o + k) (n - k) (cap - k) := by
  have := h.le
  refine ⟨h.lo, by omega, by have := h.max; omega, fun j hj => ?_, fun j hj => ?_⟩
  · rw [Nat.add_assoc]; exact h.cells (k + j) (by omega)
  · rw [Nat.add_assoc]; exact h.there (k + j) (by omega)
theorem BS.kept {B : Nat} {w w' : World} {g o n cap : Nat} (h : BS B w g o n cap) (hb : g < w.heap.size → w'.heap[g]? = w.heap[g]?) : BS B w' g o n cap := by
  refine ⟨h.lo, h.le, h.max, fun j hj => ?_, fun j hj => ?_⟩
  · obtain ⟨x, hx⟩ := h.cells j hj
    exact ⟨x, (World.cell?_of_block (w := w) (a := ⟨g, o + j, none⟩) (hb (World.block_lt_of_cell? _ _ hx))).trans hx⟩
  · have hj' := h.there j hj
    obtain ⟨v, hv⟩ := Option.isSome_iff_exists.1 hj'.1
    have hlt : g < w.heap.size := World.block_lt_of_cell? _ _ hv
    have e1 := World.cell?_of_block (w := w) (w' := w') (a := ⟨g, o + j, none⟩) (hb hlt)
    have e2 := World.frozen?_of_block (w := w) (w' := w') (a := ⟨g, o + j, none⟩) (hb hlt)
    rw [e1, e2]; exact hj'
theorem BS.later {B : Nat} {w w' : World} {g o n cap : Nat} (h : BS B w g o n cap) (hb : Below w.heap.size w w') : BS B w' g o n cap := h.kept fun hg => hb.block g hg
theorem BS.thrown {B C : Nat} {w w' : World} {g o n cap d : Nat} (h : BS B w g o n cap) (T : Thrown C w d w') (hd : d < B) : BS B w' g o n cap :=
  h.kept fun hg => T.only.block g hg (fun e => by injection e with e; have := h.lo; omega)
/-- The bytes of a slice as a list. -/
theorem BS.list {B : Nat} {w : World} {g o cap : Nat} : ∀ {n : Nat}, BS B w g o n cap → ∃ l : List UInt8, l.length = n ∧ ∀ j (hj : j < l.length), w.cell? ⟨g, o + j, none⟩ = some (.int .u8 (l[j].toNat : Int))
  | 0, _ => ⟨[], rfl, fun j hj => by simp at hj⟩
  | n + 1, h => by
    obtain ⟨l, hl, hc⟩ := (h.take (Nat.le_succ n)).list
    obtain ⟨x, hx⟩ := h.cells n (Nat.lt_succ_self n)
    refine ⟨l ++ [x], by simp [hl], fun j hj => ?_⟩
    by_cases e : j < l.length
    · rw [List.getElem_append_left e]; exact hc j e
    · have e' : j = l.length := by simp at hj; omega
      subst e'
      simp [hl, hx]
/-- The slice that a text becomes. -/
theorem bs_bytes (w : World) (s : ByteArray) (hs : s.size ≤ 1000000) : BS w.heap.size (Lib.bytesWorld w 5 s) w.heap.size 0 s.size (grownCap w s.size 0 5) := by
  have hge := grownCap_ge w s.size 0 5
  have hcs : (Lib.bytesCells w 5 s).size = grownCap w s.size 0 5 := by
    unfold Lib.bytesCells
    rw [Array.size_append, Array.size_replicate, Array.size_map]
    show s.size + (_ - s.size) = _
    omega
  refine ⟨Nat.le_refl _, hge, grownCap_le_maxLen w s.size 0 5 (by unfold maxLen; omega), fun j hj => ?_, fun j hj => ?_⟩
  · exact ⟨s.data.toList.getD j 0, by rw [Nat.zero_add]; exact Lib.bytesWorld_cell w 5 s j hj⟩
  · rw [Nat.zero_add]
    have hn := Lib.bytesWorld_at_new w 5 s
    constructor
    · rw [cell_of_row _ _ j _ _ _ hn, Array.getElem?_eq_getElem (by rw [hcs]; exact hj)]; rfl
    · simp [World.frozen?, hn]; omega
theorem BS.set {B : Nat} {w : World} {g o n cap : Nat} (h : BS B w g o n cap) (k : Nat) (c : UInt8) (hk : k < n) : BS B (w.setCell ⟨g, o + k, none⟩ (.int .u8 (c.toNat : Int))) g o n cap := by
  refine ⟨h.lo, h.le, h.max, fun j hj => ?_, fun j hj => ?_⟩
  · by_cases e : j = k
    · subst e
      obtain ⟨x, hx⟩ := h.cells j hj
      exact ⟨c, World.cell?_setCell_same _ _ _ (h := hx)⟩
    · obtain ⟨x, hx⟩ := h.cells j hj
      exact ⟨x, (World.cell?_setCell_other _ _ _ _ (fun e' => by injection e' with _ e1; omega)).trans hx⟩
  · have hj' := h.there j hj
    obtain ⟨v, hv⟩ := Option.isSome_iff_exists.1 hj'.1
    obtain ⟨v', hv'⟩ := cell?_setCell_some (w := w) (p := ⟨g, o + k, none⟩) (x := .int .u8 (c.toNat : Int)) hv
    rw [hv', World.frozen?_setCell]
    exact ⟨rfl, hj'.2⟩

theorem below_setCells {B g : Nat} (hg : B ≤ g) : ∀ (vs : List Value) (o : Nat) {w w' : World}, Below B w w' → Below B w (w'.setCells g o vs)
  | [], _, _, _, h => h
  | v :: vs, o, _, _, h => below_setCells hg vs (o + 1) (h.setCell (p := ⟨g, o, none⟩) hg v)
theorem bs_put {B : Nat} {w : World} {g o n cap m : Nat} (h : BS B w g o n cap) (l : List UInt8) (hl : l.length = m) (hroom : n + m ≤ cap) :
    BS B (w.setCells g (o + n) (l.map fun b => Value.int .u8 (b.toNat : Int))) g o (n + m) cap := by
  have hex : ∀ j, j < (l.map fun b => Value.int .u8 (b.toNat : Int)).length → (w.cell? ⟨g, o + n + j, none⟩).isSome = true := fun j hj => by
    rw [List.length_map] at hj
    rw [Nat.add_assoc]; exact (h.there (n + j) (by omega)).1
  refine ⟨h.lo, hroom, h.max, fun j hj => ?_, fun j hj => ?_⟩
  · by_cases hjn : j < n
    · obtain ⟨x, hx⟩ := h.cells j hjn
      exact ⟨x, (World.cell?_setCells_out g _ _ w ⟨g, o + j, none⟩ (fun _ _ => Or.inl (by show o + j < o + n; omega))).trans hx⟩
    · have hlt : j - n < (l.map fun b => Value.int .u8 (b.toNat : Int)).length := by rw [List.length_map]; omega
      have := World.cell?_setCells_in g _ (o + n) w hex (j - n) hlt
      rw [show o + n + (j - n) = o + j from by omega] at this
      rw [List.getElem_map] at this
      exact ⟨_, this⟩
  · rw [World.frozen?_setCells]
    refine ⟨?_, (h.there j hj).2⟩
    by_cases hin : n ≤ j ∧ j < n + m
    · have hlt : j - n < (l.map fun b => Value.int .u8 (b.toNat : Int)).length := by rw [List.length_map]; omega
      have := World.cell?_setCells_in g _ (o + n) w hex (j - n) hlt
      rw [show o + n + (j - n) = o + j from by omega] at this
      rw [this]; rfl
    · rw [World.cell?_setCells_out g _ _ w ⟨g, o + j, none⟩ (fun _ _ => by
        rw [List.length_map]
        show o + j < o + n ∨ o + n + l.length ≤ o + j
        omega)]
      exact (h.there j hj).1
theorem one_bytes (l : List UInt8) : ∀ u ∈ (l.map fun b => Value.int .u8 (b.toNat : Int)), u.oneCell' = true := by
  intro u hu
  obtain ⟨b, -, rfl⟩ := List.mem_map.1 hu
  rfl
theorem bytes_at {w : World} {g o : Nat} {l : List UInt8} (h : ∀ j (hj : j < l.length), w.cell? ⟨g, o + j, none⟩ = some (.int .u8 (l[j].toNat : Int))) :
    ∀ j u, (l.map fun b => Value.int .u8 (b.toNat : Int))[j]? = some u → w.cell? ((⟨g, o, none⟩ : Addr).add j) = some u := by
  intro j u hu
  rw [List.getElem?_map] at hu
  cases hj : l[j]? with
  | none => rw [hj] at hu; cases hu
  | some b =>
    rw [hj] at hu
    obtain rfl := Option.some.inj hu
    obtain ⟨hlt, rfl⟩ := List.getElem?_eq_some_iff.1 hj
    have hadd : (⟨g, o, none⟩ : Addr).add j = ⟨g, o + j, none⟩ := by simp [Addr.add]
    rw [hadd]; exact h j hlt
/-- A slice appended to another one where there is room. -/
theorem step_bs_room {ops : Array Oper} {op : Oper} {a : Act} {w : World} {K : Act → World → Prop} {Q : Exit → Act → World → Prop} {E : Prop} (hgd : op.guard = none) (s x : Operand)
    (hop : op.op = Op.call { callee := Callee.builtin Builtin.append, args := #[s, x], argTypes := #[46, 46] }) {B B' g o n cap g' o' m c : Nat} (hs : a.eval s = .slice (some ⟨g, o, none⟩) n cap) (h : BS B w g o n cap)
    (hx : a.eval x = .slice (some ⟨g', o', none⟩) m c) (h' : BS B' w g' o' m c) (hroom : n + m ≤ cap)
    (hK : ∀ w', BS B w' g o (n + m) cap → Below B w w' → K (a.put op.dst (.slice (some ⟨g, o, none⟩) (n + m) cap)) w') :
    if Region.wanted op (yielded ops a.tmps) = true then Oper.wp Tryz.prog op a w K Q else E := by
  obtain ⟨i0, hi, hz0, hz1, hz2⟩ := info_parts infoU8
  obtain ⟨l, hl, hc⟩ := h'.list
  refine step_append_room hgd s x 46 hop 5 i0 1 Tryz.underlying46 hi hz1 g o n cap hs ⟨g', o', none⟩ m c (l.map fun b => Value.int .u8 (b.toNat : Int)) hx (by rw [List.length_map, hl, Nat.mul_one]) (bytes_at hc) (one_bytes l) hroom (fun j hj => ?_) ?_
  · rw [List.length_map] at hj
    rw [Nat.mul_one, Nat.add_assoc]
    exact h.there (n + j) (by omega)
  · rw [Nat.mul_one]
    exact hK _ (bs_put h l hl hroom) (below_setCells h.lo _ _ (Below.refl _ _))
theorem bs_of_owns {B : Nat} {w : World} {v : Value} {n : Nat} {l : List UInt8} (hn : 0 < n) (hl : l.length = n) (h : w.ownsRow B 5 1 v n (l.map fun b => Value.int .u8 (b.toNat : Int))) : ∃ g cap, v = .slice (some ⟨g, 0, none⟩) n cap ∧ BS B w g 0 n cap := by
  obtain ⟨-, h2⟩ := h
  rcases h2 with ⟨-, h0⟩ | ⟨g, cap, cur, rfl, hb, hg, hnc, hm, hs, ht⟩
  · omega
  · rw [Nat.mul_one] at hs ht
    refine ⟨g, cap, rfl, hb, hnc, hm, fun j hj => ?_, fun j hj => ?_⟩
    · have e : (cur.toList.take n)[j]? = (l.map fun b => Value.int .u8 (b.toNat : Int))[j]? := by rw [ht]
      rw [List.getElem?_take, if_pos hj, List.getElem?_map, List.getElem?_eq_getElem (l := l) (i := j) (by omega)] at e
      refine ⟨l[j]'(by omega), ?_⟩
      rw [Nat.zero_add, cell_of_row w g j _ _ _ hg, ← Array.getElem?_toList, e]; rfl
    · rw [Nat.zero_add]
      constructor
      · rw [cell_of_row w g j _ _ _ hg, Array.getElem?_eq_getElem (show j < cur.size from by rw [hs]; exact hj)]; rfl
      · simp [World.frozen?, hg]
/-- A slice appended to another one where there is no room. -/
theorem step_bs_grows {ops : Array Oper} {op : Oper} {a : Act} {w : World} {K : Act → World → Prop} {Q : Exit → Act → World → Prop} {E : Prop} (hgd : op.guard = none) (s x : Operand)
    (hop : op.op = Op.call { callee := Callee.builtin Builtin.append, args := #[s, x], argTypes := #[46, 46] }) {B B' g o n cap g' o' m c : Nat} (hs : a.eval s = .slice (some ⟨g, o, none⟩) n cap) (h : BS B w g o n cap)
    (hx : a.eval x = .slice (some ⟨g', o', none⟩) m c) (h' : BS B' w g' o' m c) (hfull : cap < n + m) (hb : n + m ≤ 1000000)
    (hK : ∀ g2 c2 w', BS w.heap.size w' g2 0 (n + m) c2 → Below w.heap.size w w' → K (a.put op.dst (.slice (some ⟨g2, 0, none⟩) (n + m) c2)) w') :
    if Region.wanted op (yielded ops a.tmps) = true then Oper.wp Tryz.prog op a w K Q else E := by
  obtain ⟨i0, hi, hz0, hz1, hz2⟩ := info_parts infoU8
  obtain ⟨l, hl, hc⟩ := h'.list
  obtain ⟨k, hk, hd⟩ := h.list
  refine step_append_grows hgd s x 46 hop 5 i0 (.int .u8 0) 1 1 Tryz.underlying46 hi hz0 hz1 hz2 rfl (by decide) (some ⟨g, o, none⟩) n cap (k.map fun b => Value.int .u8 (b.toNat : Int)) hs (fun e => by cases e) (by rw [List.length_map, hk, Nat.mul_one]) (fun b hb => by obtain rfl := Option.some.inj hb; exact bytes_at hd)
    ⟨g', o', none⟩ m c (l.map fun b => Value.int .u8 (b.toNat : Int)) hx (by rw [List.length_map, hl, Nat.mul_one]) (bytes_at hc) (one_bytes l) hfull (by unfold maxLen; omega) (by omega) ?_
  intro v' w' hown hgrow
  rw [← List.map_append] at hown
  obtain ⟨g2, c2, rfl, hbs⟩ := bs_of_owns (by omega) (by rw [List.length_append]; omega) hown
  exact hK g2 c2 w' hbs ⟨hgrow.os, hgrow.tape, hgrow.output, hgrow.size, fun i hi => hgrow.block i hi (by simp)⟩
end Go.Proofs.YthejgholpkeldaaGreatDoor

namespace Go.Proofs.YthejgholpkeldaaGreatDoor
open Go.RowKit
set_option maxRecDepth 100000

theorem DiceOk.far {B C : Nat} {w w' : World} {g : Nat} (h : DiceOk B w g) (hC : g < C) (hb : Below C w w') : DiceOk B w' g := by
  obtain ⟨hB, A, n, c, k, hg, h1, h2, h3⟩ := h
  refine ⟨hB, A, n, c, k, (hb.block g hC).trans hg, h1, h2, fun hn => ?_⟩
  obtain ⟨b, off, hA, hlt, hc⟩ := h3 hn
  refine ⟨b, off, hA, hlt, fun j hj => ?_⟩
  obtain ⟨x, hx⟩ := hc j hj
  exact ⟨x, (hb.cell (p := ⟨b, off + j, none⟩) (by show b < C; omega)).trans hx⟩
theorem Thrown.far {B : Nat} {a b c : World} {g : Nat} (h : Thrown B a g b) (k : Below a.heap.size b c) : Thrown B a g c :=
  ⟨h.lt, h.dice.far h.lt k, ⟨k.os.trans h.only.os, k.tape.trans h.only.tape, k.output.trans h.only.output, Nat.le_trans h.only.size k.size, fun i hi hne => (k.block i hi).trans (h.only.block i hi hne)⟩⟩
theorem bs_text {B : Nat} {w : World} {g o n cap : Nat} (h : BS B w g o n cap) : ∃ r : ByteArray, r.size = n ∧ ∀ c, (convert 46 9 (.slice (some ⟨g, o, none⟩) n c)).run Tryz.prog w = .ok (.string r) w := by
  obtain ⟨l, hl, hc⟩ := h.list
  subst hl
  exact ⟨⟨l.toArray⟩, by show l.toArray.size = _; simp, fun c => run_convert_bytes_back w 46 9 5 ⟨g, o, none⟩ c l Tryz.underlying46 Tryz.underlying5 Tryz.underlying9 (fun j hj => by
    have hadd : (⟨g, o, none⟩ : Addr).add j = ⟨g, o + j, none⟩ := by simp [Addr.add]
    rw [hadd]; exact hc j hj)⟩
theorem bs_one (w : World) (c : UInt8) : BS w.heap.size (w.alloc (.cells #[.int .u8 (c.toNat : Int)] 5)) w.heap.size 0 1 1 := by
  refine ⟨Nat.le_refl _, Nat.le_refl _, by unfold maxLen; omega, fun j hj => ?_, fun j hj => ?_⟩
  · obtain rfl : j = 0 := by omega
    exact ⟨c, by simp⟩
  · obtain rfl : j = 0 := by omega
    exact ⟨by simp, by simp⟩
theorem bs_none {B : Nat} {w : World} {g : Nat} (hB : B ≤ g) {o n cap : Nat} (hn : n = 0) (hc : cap = 0) : BS B w g o n cap := by
  subst hn hc; exact ⟨hB, Nat.le_refl _, Nat.zero_le _, fun j hj => by omega, fun j hj => by omega⟩
def Spoils (B : Nat) (n : Nat) (w : World) (g : Nat) (e : Ending) (w' : World) : Prop := ∃ r : ByteArray, e = .returned (.string r) ∧ r.size ≤ n ∧ Thrown B w g w'
set_option maxHeartbeats 8000000 in
theorem spoil_walk (B g : Nat) (s z : ByteArray) (hz1 : 1 ≤ z.size) (hz2 : z.size ≤ 1000) (hs : s.size ≤ 1000) (w : World) (h : DiceOk B w g) :
    Calls Tryz.prog 14 #[.pointer (some ⟨g, 0, none⟩), .string s, .string z] w fun e w' => Spoils B (s.size + 1) w g e w' := by
  have kc := fun W : World => Lib.run_convert_string_bytes (P := Tryz.prog) W 9 46 5 s Tryz.underlying9 Tryz.underlying46 Tryz.underlying5
  have hlt := h.lt
  have hbs := bs_bytes w s (by omega)
  have hbw := Joins.below_bytesWorld w.heap.size w 5 s (Nat.le_refl _)
  have kw := kc w
  clear kc
  obtain ⟨cap, hcap⟩ : ∃ cap, grownCap w s.size 0 5 = cap := ⟨_, rfl⟩
  obtain ⟨W1, hW1⟩ : ∃ W1, Lib.bytesWorld w 5 s = W1 := ⟨_, rfl⟩
  rw [hcap, hW1] at kw
  rw [hcap, hW1] at hbs
  rw [hW1] at hbw
  clear hcap hW1
  have hT := (Thrown.refl h).later hbw
  go_enter Tryz.func14, Tryz.ntmps14
  go_wp2_with fail
  refine (next_walk B g _ (by omega) _ hT.dice).mono ?_
  rintro e w2 ⟨v, rfl, p1, q1, -, T2, -⟩
  have q1 := q1 (by omega)
  replace hT := hT.trans T2
  replace hbs := hbs.thrown T2 hlt
  clear T2 kw hbw
  obtain ⟨v, rfl⟩ := Int.eq_ofNat_of_zero_le p1
  have hv : v < z.size := by omega
  by_cases h0 : s.size = 0
  · have e0 : ((s.size : Int) == 0) = true := by rw [h0]; rfl
    have kc1 : ∀ c, (convert 46 9 (.slice (some ⟨w2.heap.size, 0, none⟩) 1 c)).run Tryz.prog (w2.alloc (.cells #[.int .u8 ((z[v]'hv).toNat : Int)] 5)) = .ok (.string ⟨[z[v]'hv].toArray⟩) (w2.alloc (.cells #[.int .u8 ((z[v]'hv).toNat : Int)] 5)) := fun c =>
      run_convert_bytes_back _ 46 9 5 ⟨w2.heap.size, 0, none⟩ c [z[v]'hv] Tryz.underlying46 Tryz.underlying5 Tryz.underlying9 (by
        intro j hj
        have hj : j = 0 := by simp at hj; omega
        subst hj
        simp [Addr.add])
    go_wp2_with fail
    go_ret
    exact ⟨_, rfl, by show 1 ≤ _; omega, hT.far (ext_alloc (Below.refl _ _) _ |>.mono hT.size)⟩
  · have e0 : ((s.size : Int) == 0) = false := by rw [beq_eq_false_iff_ne]; omega
    go_wp2_with fail
    refine (next_walk B g _ (by omega) _ hT.dice).mono ?_
    rintro e w3 ⟨k, rfl, p2, q2, -, T3, -⟩
    have q2 := q2 (by omega)
    replace hT := hT.trans T3
    replace hbs := hbs.thrown T3 hlt
    clear T3
    obtain ⟨k, rfl⟩ := Int.eq_ofNat_of_zero_le p2
    have hk : k < s.size := by omega
    go_wp2_with fail
    refine (next_walk B g 3 (by omega) _ hT.dice).mono ?_
    rintro e w4 ⟨u, rfl, p3, q3, -, T4, -⟩
    have q3 := q3 (by omega)
    replace hT := hT.trans T4
    replace hbs := hbs.thrown T4 hlt
    clear T4
    have hu : u = 0 ∨ u = 1 ∨ u = 2 := by omega
    have hcl := hbs.le
    have hcm := hbs.max
    unfold maxLen at hcm
    obtain ⟨c0, hc0⟩ : ∃ c0 : UInt8, z[v]'hv = c0 := ⟨_, rfl⟩
    rw [hc0]
    clear p1 q1 p2 q2 p3 q3 hc0
    rcases hu with rfl | rfl | rfl
    · obtain ⟨x, hx⟩ := hbs.cells k hk
      rw [Nat.zero_add] at hx
      have hfz := (hbs.there k (by omega)).2
      rw [Nat.zero_add] at hfz
      have hb2 := hbs.set k c0 hk
      rw [Nat.zero_add] at hb2
      obtain ⟨r, hr, kc2⟩ := bs_text hb2
      replace hr := hide hr
      have k0 : (0 : Int) ≤ k := by omega
      go_wp2_with fail
      go_ret
      exact ⟨r, rfl, by rw [hr.out]; omega, hT.far (Below.setCell (Below.refl _ _) (by show w.heap.size ≤ w.heap.size; exact Nat.le_refl _) _)⟩
    · go_upto_region 11 with fail
      have k0 : (0 : Int) ≤ k := by omega
      have k1 : (k : Int) ≤ cap := by omega
      have k2 : (k : Int) + 1 ≤ s.size := by omega
      have k3 : (0 : Int) ≤ (k : Int) + 1 := by omega
      have k4 : (s.size : Int) ≤ cap := by omega
      have kw : IntKind.i64.wrap ((k : Int) + 1) = (k : Int) + 1 := IntWalk.i64_in _ (by omega)
      have hbd := hbs.later (ext_drew (Below.refl _ _))
      have hdr : BS w.heap.size w4.drew w.heap.size (k + 1) (s.size - (k + 1)) (cap - (k + 1)) := by have := hbd.drop (k := k + 1) (by omega); rwa [Nat.zero_add] at this
      have htk := hbd.take (k := k) (by omega)
      have hpi : 0 < s.size := by omega
      by_cases hkc : k + 1 < cap
      · go_region_law ((refine step_bs_room rfl (.tmp 50) (.tmp 54) rfl (by simp [Act.eval, Act.put]) htk (by simp [Act.eval, Act.put]; omega) hdr (by omega) ?_; intro w' h1 h2))
        all_goals
          obtain ⟨r, hr, kc2⟩ := bs_text h1
          replace hr := hide hr
          go_wp2_with fail
          go_ret
          exact ⟨r, rfl, by rw [hr.out]; omega, hT.far (((ext_drew (Below.refl _ _)).mono hT.size).trans h2)⟩
      · have hd0 : BS w.heap.size w4.drew w.heap.size 0 (s.size - (k + 1)) (cap - (k + 1)) := bs_none (Nat.le_refl _) (by omega) (by omega)
        go_region_law ((refine step_bs_room rfl (.tmp 50) (.tmp 54) rfl (by simp [Act.eval, Act.put]) htk (by simp [Act.eval, Act.put]; omega) hd0 (by omega) ?_; intro w' h1 h2))
        all_goals
          obtain ⟨r, hr, kc2⟩ := bs_text h1
          replace hr := hide hr
          go_wp2_with fail
          go_ret
          exact ⟨r, rfl, by rw [hr.out]; omega, hT.far (((ext_drew (Below.refl _ _)).mono hT.size).trans h2)⟩
    · go_upto_region 7 with fail
      have k0 : (0 : Int) ≤ k := by omega
      have k1 : (k : Int) ≤ cap := by omega
      have k2 : (k : Int) ≤ s.size := by omega
      have k4 : (s.size : Int) ≤ cap := by omega
      have hwz := hT.size
      have hbo : Below w4.heap.size w4 ((w4.alloc (.cells #[.int .u8 (c0.toNat : Int)] 5)).drew) := ext_drew (ext_alloc (Below.refl _ _) _)
      have hone : BS w4.heap.size ((w4.alloc (.cells #[.int .u8 (c0.toNat : Int)] 5)).drew) w4.heap.size 0 1 1 := (bs_one w4 c0).later (ext_drew (Below.refl _ _))
      have hbd := hbs.later hbo
      have hdk : BS w.heap.size ((w4.alloc (.cells #[.int .u8 (c0.toNat : Int)] 5)).drew) w.heap.size k (s.size - k) (cap - k) := by have := hbd.drop (k := k) (by omega); rwa [Nat.zero_add] at this
      have htk := hbd.take (k := k) (by omega)
      have hso : w.heap.size ≤ ((w4.alloc (.cells #[.int .u8 (c0.toNat : Int)] 5)).drew).heap.size := Nat.le_trans hT.size hbo.size
      clear hbs
      by_cases hroom : s.size + 1 ≤ cap
      · go_region_law (first | (refine step_bs_grows rfl (.tmp 34) (.tmp 37) rfl (by simp [Act.eval]) hone (by simp [Act.eval]; omega) hdk (by omega) (by omega) ?_; intro g2 c2 w' h1 h2; have ht2 := BS.later htk h2; have hsz := h2.size) | (refine step_bs_room rfl (.tmp 32) (.tmp 38) rfl (by simp [Act.eval]) ht2 (by simp [Act.eval]) h1 (by omega) ?_; intro w'' h3 h4))
        all_goals
          obtain ⟨r, hr, kc2⟩ := bs_text h3
          replace hr := hide hr
          go_wp2_with fail
          go_ret
          exact ⟨r, rfl, by rw [hr.out]; omega, hT.far ((hbo.mono hT.size).trans ((h2.mono hso).trans h4))⟩
      · go_region_law (first | (refine step_bs_grows rfl (.tmp 34) (.tmp 37) rfl (by simp [Act.eval]) hone (by simp [Act.eval]; omega) hdk (by omega) (by omega) ?_; intro g2 c2 w' h1 h2; have ht2 := BS.later htk h2; have hsz := h2.size) | (refine step_bs_grows rfl (.tmp 32) (.tmp 38) rfl (by simp [Act.eval]) ht2 (by simp [Act.eval]) h1 (by omega) (by omega) ?_; intro g3 c3 w'' h3 h4))
        all_goals
          obtain ⟨r, hr, kc2⟩ := bs_text h3
          replace hr := hide hr
          go_wp2_with fail
          go_ret
          exact ⟨r, rfl, by rw [hr.out]; omega, hT.far ((hbo.mono hT.size).trans ((h2.mono hso).trans (h4.mono (Nat.le_trans hso hsz))))⟩
end Go.Proofs.YthejgholpkeldaaGreatDoor
