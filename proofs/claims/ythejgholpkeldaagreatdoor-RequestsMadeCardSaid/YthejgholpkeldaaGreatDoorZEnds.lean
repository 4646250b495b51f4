/- Small lemmas that all walks of this seat use: endings, masks of bits, bounds. No condition. Ends of functions whose result is a struct of four numbers that lies in memory. -/
import Derived.Test.YthejgholpkeldaaGreatDoorRows
import Derived.WalkKit
import Derived.WalkSpells
import Derived.WalkLawsBesides
import Derived.BigGuardPart
import Derived.Lib.Hide
import Derived.Laws.BitsAllLaws
import Derived.Laws.BitsLemmas
import Derived.Lib.LaidTab
import Derived.Test.YthejgholpkeldaaGreatDoorShelf
import Derived.Lib.ConvBytes
import Derived.Deep.QuietTactic
import Derived.BigQuiet
import Derived.Laws.ResultCell
namespace Go.Proofs.YthejgholpkeldaaGreatDoor
open Go.RowKit

theorem ret_bool {a b : Bool} (h : a = b) : Ending.returned (.bool a) = .returned (.bool b) := by rw [h]
theorem ret_int {k : IntKind} {a b : Int} (h : a = b) : Ending.returned (.int k a) = .returned (.int k b) := by rw [h]
theorem ret_str {a c : ByteArray} (h1 : a = c) : Ending.returned (.string a) = .returned (.string c) := by rw [h1]

theorem hide {p : Prop} (h : p) : Hid p := h

theorem ofInt_i64 (a : Nat) (ha : a < 9223372036854775808) : (BitVec.ofInt 64 (a : Int)).toNat = a := by
  rw [BitVec.ofInt_natCast, BitVec.toNat_ofNat]; exact Nat.mod_eq_of_lt (by omega)
theorem i64_and_nat (a b : Nat) (ha : a < 9223372036854775808) (hb : b < 9223372036854775808) : bits .and .i64 (a : Int) (b : Int) = ((a &&& b : Nat) : Int) := by
  have hx : a &&& b < 2 ^ 63 := Nat.and_lt_two_pow _ (by omega)
  show IntKind.i64.wrap ((BitVec.ofInt 64 (a : Int) &&& BitVec.ofInt 64 (b : Int)).toNat : Int) = _
  rw [BitVec.toNat_and, ofInt_i64 a ha, ofInt_i64 b hb, IntKind.wrap_i64]
  omega
theorem wrap64_pow (n : Nat) (h : n ≤ 20) : wrap64 ((2 : Int) ^ n) = ((2 ^ n : Nat) : Int) := by
  have h1 : (2 : Nat) ^ n ≤ 2 ^ 20 := Nat.pow_le_pow_right (by omega) (by omega)
  have e : ((2 : Int) ^ n) = ((2 ^ n : Nat) : Int) := by simp
  rw [e]
  generalize 2 ^ n = m at h1
  exact IntWalk.wrap64_in _ ⟨by omega, by omega⟩
theorem pow_small (n : Nat) (h : n ≤ 20) : 2 ^ n ≤ 1048576 := by
  have h1 : (2 : Nat) ^ n ≤ 2 ^ 20 := Nat.pow_le_pow_right (by omega) (by omega)
  simpa using h1

theorem bcell {W w1 : World} (hb : Below W.heap.size W w1) : (∀ b o, b < W.heap.size → w1.cell? ⟨b, o, none⟩ = W.cell? ⟨b, o, none⟩) ∧ (∀ b o, b < W.heap.size → w1.frozen? ⟨b, o, none⟩ = W.frozen? ⟨b, o, none⟩) :=
  ⟨fun b o h => hb.cell (p := ⟨b, o, none⟩) h, fun b o h => hb.frozen (p := ⟨b, o, none⟩) h⟩
theorem below_drewN {B : Nat} {a w : World} (h : Below B a w) (n : Nat) : Below B a (w.drewN n) := ⟨h.os, h.tape, h.output, h.size, h.block⟩

theorem ext_trans {w W w1 : World} (h : Below w.heap.size w W) (k : Below W.heap.size W w1) : Below w.heap.size w w1 := h.trans (k.mono h.size)
theorem ext_alloc {w W : World} (h : Below w.heap.size w W) (o : Obj) : Below w.heap.size w (W.alloc o) := h.alloc h.size o
theorem ext_drew {w W : World} (h : Below w.heap.size w W) : Below w.heap.size w W.drew := h.drew
theorem ext_drewN {w W : World} (h : Below w.heap.size w W) (n : Nat) : Below w.heap.size w (W.drewN n) := below_drewN h n
theorem ext_set {w W : World} (h : Below w.heap.size w W) {p : Addr} (hp : w.heap.size ≤ p.block) (u : Value) : Below w.heap.size w (W.setCell p u) := h.setCell hp u

/-- WHAT THE PROGRAM's VARIABLES HOLD, as far as these walks read them; it goes on under everything that lays new blocks. -/
structure Std (w : World) : Prop where
  big : 9 ≤ w.heap.size
  maxLen : ∃ m, w.cell? ⟨4, 0, none⟩ = some (.int .i64 m)
  pow10 : Lib.TabIs Tryz.prog w "internal/strconv.uint64pow10" .u64 Lib.pow10Tab
  errSyntax : ∃ te pe, w.cell? ⟨5, 0, none⟩ = some (.iface te pe)
  errRange : ∃ te pe, w.cell? ⟨6, 0, none⟩ = some (.iface te pe)

theorem Std.go {w w' : World} (h : Std w) (hz : w.heap.size ≤ w'.heap.size) (hb : ∀ k, k < 9 → w'.heap[k]? = w.heap[k]?) : Std w' := by
  have hc : ∀ g o, g < 9 → w'.cell? ⟨g, o, none⟩ = w.cell? ⟨g, o, none⟩ := fun g o hg => World.cell?_of_block (w := w) (hb g hg)
  refine { big := Nat.le_trans h.big hz, maxLen := ?_, pow10 := ?_, errSyntax := ?_, errRange := ?_ }
  · obtain ⟨m, hm⟩ := h.maxLen; exact ⟨m, (hc _ _ (by omega)).trans hm⟩
  · have h1 := h.pow10
    unfold Lib.TabIs World.var? at h1 ⊢
    rw [show Tryz.prog.globalNamed "internal/strconv.uint64pow10" = some 1 from by kernel_rfl] at h1 ⊢
    simp only [Option.bind_some] at h1 ⊢
    rw [hb _ (by omega)]
    exact h1
  · obtain ⟨a, b, hm⟩ := h.errSyntax; exact ⟨a, b, (hc _ _ (by omega)).trans hm⟩
  · obtain ⟨a, b, hm⟩ := h.errRange; exact ⟨a, b, (hc _ _ (by omega)).trans hm⟩
theorem Std.below {B : Nat} {w w' : World} (h : Std w) (hb : Below B w w') (hB : 9 ≤ B) : Std w' := h.go hb.size fun k hk => hb.block k (by omega)
theorem Std.after {w w' : World} (h : Std w) (hb : Below w.heap.size w w') : Std w' := h.below hb h.big
theorem Std.alloc {w : World} (h : Std w) (o : Obj) : Std (w.alloc o) := h.after ((Below.refl _ _).alloc (Nat.le_refl _) o)
end Go.Proofs.YthejgholpkeldaaGreatDoor

namespace Go.Proofs.YthejgholpkeldaaGreatDoor
open Go.RowKit

theorem set4_cells (w : World) (g : Nat) (a b c d : Value) (h : ∀ j, j < 4 → ∃ v, w.cell? ⟨g, j, none⟩ = some v) (W : World)
    (hW : W = (((w.setCell ⟨g, 0, none⟩ a).setCell ⟨g, 1, none⟩ b).setCell ⟨g, 2, none⟩ c).setCell ⟨g, 3, none⟩ d) :
    W.cell? ⟨g, 0, none⟩ = some a ∧ W.cell? ⟨g, 1, none⟩ = some b ∧ W.cell? ⟨g, 2, none⟩ = some c ∧ W.cell? ⟨g, 3, none⟩ = some d := by
  obtain ⟨v0, h0⟩ := h 0 (by omega)
  obtain ⟨v1, h1⟩ := h 1 (by omega)
  obtain ⟨v2, h2⟩ := h 2 (by omega)
  obtain ⟨v3, h3⟩ := h 3 (by omega)
  subst hW
  have o : ∀ (x : World) (i j : Nat) (u : Value), i ≠ j → (x.setCell ⟨g, i, none⟩ u).cell? ⟨g, j, none⟩ = x.cell? ⟨g, j, none⟩ := fun x i j u hij => World.cell?_setCell_other x _ _ u (fun e => hij (by injection e))
  have s : ∀ (x : World) (i : Nat) (u v : Value), x.cell? ⟨g, i, none⟩ = some v → (x.setCell ⟨g, i, none⟩ u).cell? ⟨g, i, none⟩ = some u := fun x i u v hx => World.cell?_setCell_same _ _ _ (h := hx)
  refine ⟨?_, ?_, ?_, ?_⟩
  · rw [o _ 3 0 _ (by omega), o _ 2 0 _ (by omega), o _ 1 0 _ (by omega)]; exact s _ 0 _ _ h0
  · rw [o _ 3 1 _ (by omega), o _ 2 1 _ (by omega)]; exact s _ 1 _ _ ((o _ 0 1 _ (by omega)).trans h1)
  · rw [o _ 3 2 _ (by omega)]; exact s _ 2 _ _ ((o _ 1 2 _ (by omega)).trans ((o _ 0 2 _ (by omega)).trans h2))
  · exact s _ 3 _ _ ((o _ 2 3 _ (by omega)).trans ((o _ 1 3 _ (by omega)).trans ((o _ 0 3 _ (by omega)).trans h3)))

/-- A struct of four cells read whole. -/
theorem load4 (ty : TypeId) (w : World) (g : Nat) (a b c d : Value) (hty : ty = 32 ∨ ty = 260)
    (h0 : w.cell? ⟨g, 0, none⟩ = some a) (h1 : w.cell? ⟨g, 1, none⟩ = some b) (h2 : w.cell? ⟨g, 2, none⟩ = some c) (h3 : w.cell? ⟨g, 3, none⟩ = some d) :
    (loadVar ty ⟨g, 0, none⟩).run Tryz.prog w = .ok (.agg #[a, b, c, d]) w := by
  rcases hty with rfl | rfl
  all_goals simp [go_sem, h0, h1, h2, h3]
theorem end_struct1 {fn : Func} {p : Tmp} {ty : TypeId} (hr : fn.results = #[.cell p ty]) (hty : ty = 32 ∨ ty = 260) {Q : Ending → World → Prop} {act : Act} {w : World} (g : Nat) (a b c d : Value) (hd : act.defers = [])
    (hp : act.tmps.getD p undef = .pointer (some ⟨g, 0, none⟩))
    (h0 : w.cell? ⟨g, 0, none⟩ = some a) (h1 : w.cell? ⟨g, 1, none⟩ = some b) (h2 : w.cell? ⟨g, 2, none⟩ = some c) (h3 : w.cell? ⟨g, 3, none⟩ = some d)
    (hQ : Q (.returned (.agg #[a, b, c, d])) w) : bodyPost Tryz.prog fn Q .ret act w := by
  refine bodyPost_ret (v := .agg #[a, b, c, d]) ?_ hd hQ
  simp only [results, hr]
  simp [Sem.run_bind, Result.andThen, -Array.getD_eq_getD_getElem?]
  rw [hp]
  simp only [asAddr, Sem.run_pure]
  rw [load4 ty w g a b c d hty h0 h1 h2 h3]
theorem end_set4one {fn : Func} {p : Tmp} {ty : TypeId} (hr : fn.results = #[.cell p ty]) (hty : ty = 32 ∨ ty = 260) {Q : Ending → World → Prop} {act : Act} {w : World} (g : Nat) (a b c d : Value) (hd : act.defers = [])
    (hp : act.tmps.getD p undef = .pointer (some ⟨g, 0, none⟩)) (h : ∀ j, j < 4 → ∃ v, w.cell? ⟨g, j, none⟩ = some v)
    (hQ : Q (.returned (.agg #[a, b, c, d])) ((((w.setCell ⟨g, 0, none⟩ a).setCell ⟨g, 1, none⟩ b).setCell ⟨g, 2, none⟩ c).setCell ⟨g, 3, none⟩ d)) :
    bodyPost Tryz.prog fn Q .ret act ((((w.setCell ⟨g, 0, none⟩ a).setCell ⟨g, 1, none⟩ b).setCell ⟨g, 2, none⟩ c).setCell ⟨g, 3, none⟩ d) := by
  obtain ⟨h0, h1, h2, h3⟩ := set4_cells w g a b c d h _ rfl
  exact end_struct1 hr hty g a b c d hd hp h0 h1 h2 h3 hQ
theorem cell_alloc_of {w : World} {p : Addr} {v : Value} (h : w.cell? p = some v) (o : Obj) : (w.alloc o).cell? p = some v := cell_later ((Below.refl _ _).alloc (Nat.le_refl _) o) h
theorem ext_set4 {w W : World} (h : Below w.heap.size w W) {g : Nat} (hg : w.heap.size ≤ g) (a b c d : Value) :
    Below w.heap.size w ((((W.setCell ⟨g, 0, none⟩ a).setCell ⟨g, 1, none⟩ b).setCell ⟨g, 2, none⟩ c).setCell ⟨g, 3, none⟩ d) :=
  ext_set (ext_set (ext_set (ext_set h hg _) hg _) hg _) hg _
/-- A block of four cells, as far as it is read. -/
structure Box4 (w : World) (g : Nat) (a b c d : Value) : Prop where
  c0 : w.cell? ⟨g, 0, none⟩ = some a
  c1 : w.cell? ⟨g, 1, none⟩ = some b
  c2 : w.cell? ⟨g, 2, none⟩ = some c
  c3 : w.cell? ⟨g, 3, none⟩ = some d
theorem Box4.later {w w' : World} {g : Nat} {a b c d : Value} (h : Box4 w g a b c d) (hb : Below w.heap.size w w') : Box4 w' g a b c d :=
  ⟨cell_later hb h.c0, cell_later hb h.c1, cell_later hb h.c2, cell_later hb h.c3⟩
theorem Box4.new (w : World) (t : TypeId) (a b c d : Value) : Box4 (w.alloc (.cells #[a, b, c, d] t)) w.heap.size a b c d := ⟨by simp, by simp, by simp, by simp⟩
theorem Box4.alloc {w : World} {g : Nat} {a b c d : Value} (h : Box4 w g a b c d) (o : Obj) : Box4 (w.alloc o) g a b c d := h.later (ext_alloc (Below.refl _ _) o)
theorem Box4.lt {w : World} {g : Nat} {a b c d : Value} (h : Box4 w g a b c d) : g < w.heap.size := World.block_lt_of_cell? _ _ h.c0
theorem heap_new2 (w : World) (o1 o2 : Obj) : ((w.alloc o1).alloc o2).heap[w.heap.size + 1]? = some o2 := by
  have := heap_alloc_new (w.alloc o1) o2
  rwa [World.size_alloc] at this
theorem heap_new3 (w : World) (o1 o2 o3 : Obj) : (((w.alloc o1).alloc o2).alloc o3).heap[w.heap.size + 2]? = some o3 := by
  have := heap_alloc_new ((w.alloc o1).alloc o2) o3
  rwa [World.size_alloc, World.size_alloc] at this
/-- Four cells of a block of an elder world. -/
theorem four_of {W w1 : World} {g : Nat} {x0 x1 x2 x3 : Value} {t : TypeId} {r : Nat × Nat} (hg : W.heap[g]? = some (.cells #[x0, x1, x2, x3] t r)) (hb : Below W.heap.size W w1) : ∀ j, j < 4 → ∃ v, w1.cell? ⟨g, j, none⟩ = some v := by
  have hlt : g < W.heap.size := by
    rcases Nat.lt_or_ge g W.heap.size with h | h
    · exact h
    · rw [Array.getElem?_eq_none h] at hg; cases hg
  intro j hj
  have hc : w1.cell? ⟨g, j, none⟩ = W.cell? ⟨g, j, none⟩ := hb.cell (p := ⟨g, j, none⟩) hlt
  rw [hc, cell_of_row W g j _ t r hg]
  match j, hj with
  | 0, _ | 1, _ | 2, _ | 3, _ => exact ⟨_, rfl⟩
end Go.Proofs.YthejgholpkeldaaGreatDoor
