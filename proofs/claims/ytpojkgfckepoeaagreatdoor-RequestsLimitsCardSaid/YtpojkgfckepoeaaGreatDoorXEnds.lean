/- Small lemmas that all walks of this seat use: endings, masks of bits, bounds. No condition. Ends of functions whose result is a struct of four numbers that lies in memory. -/
import Derived.Test.YtpojkgfckepoeaaGreatDoorRows
import Derived.WalkKit
import Derived.WalkSpells
import Derived.WalkLawsBesides
import Derived.BigGuardPart
import Derived.Lib.Hide
import Derived.Laws.BitsAllLaws
import Derived.Laws.BitsLemmas
import Derived.Lib.LaidTab
import Derived.Test.YtpojkgfckepoeaaGreatDoorShelf
import Derived.Lib.ConvBytes
import Derived.Deep.QuietTactic
import Derived.BigQuiet
import Derived.Laws.ResultCell
namespace Go.Proofs.YtpojkgfckepoeaaGreatDoor
open Go.RowKit

theorem ret_bool {a b : Bool} (h : a = b) : Ending.returned (.bool a) = .returned (.bool b) := by rw [h]
theorem ret_int {k : IntKind} {a b : Int} (h : a = b) : Ending.returned (.int k a) = .returned (.int k b) := by rw [h]
theorem ret_str {a c : ByteArray} (h1 : a = c) : Ending.returned (.string a) = .returned (.string c) := by rw [h1]

theorem hide {p : Prop} (h : p) : Hid p := h

theorem bcell {W w1 : World} (hb : Below W.heap.size W w1) : (∀ b o, b < W.heap.size → w1.cell? ⟨b, o, none⟩ = W.cell? ⟨b, o, none⟩) ∧ (∀ b o, b < W.heap.size → w1.frozen? ⟨b, o, none⟩ = W.frozen? ⟨b, o, none⟩) :=
  ⟨fun b o h => hb.cell (p := ⟨b, o, none⟩) h, fun b o h => hb.frozen (p := ⟨b, o, none⟩) h⟩
theorem below_drewN {B : Nat} {a w : World} (h : Below B a w) (n : Nat) : Below B a (w.drewN n) := ⟨h.os, h.tape, h.output, h.size, h.block⟩

theorem ext_trans {w W w1 : World} (h : Below w.heap.size w W) (k : Below W.heap.size W w1) : Below w.heap.size w w1 := h.trans (k.mono h.size)
theorem ext_alloc {w W : World} (h : Below w.heap.size w W) (o : Obj) : Below w.heap.size w (W.alloc o) := h.alloc h.size o
theorem ext_drew {w W : World} (h : Below w.heap.size w W) : Below w.heap.size w W.drew := h.drew
theorem ext_drewN {w W : World} (h : Below w.heap.size w W) (n : Nat) : Below w.heap.size w (W.drewN n) := below_drewN h n
theorem ext_set {w W : World} (h : Below w.heap.size w W) {p : Addr} (hp : w.heap.size ≤ p.block) (u : Value) : Below w.heap.size w (W.setCell p u) := h.setCell hp u

/-- WHAT THE PROGRAM's VARIABLES HOLD, as far as these walks read them; it goes on under everything that lays new blocks. -/
structure Std (w : World) : Prop where
  big : 9 ≤ w.heap.size
  maxLen : ∃ m, w.cell? ⟨4, 0, none⟩ = some (.int .i64 m)
  pow10 : Lib.TabIs Tryz.prog w "internal/strconv.uint64pow10" .u64 Lib.pow10Tab
  errSyntax : ∃ te pe, w.cell? ⟨5, 0, none⟩ = some (.iface te pe)
  errRange : ∃ te pe, w.cell? ⟨6, 0, none⟩ = some (.iface te pe)

theorem Std.go {w w' : World} (h : Std w) (hz : w.heap.size ≤ w'.heap.size) (hb : ∀ k, k < 9 → w'.heap[k]? = w.heap[k]?) : Std w' := by
  have hc : ∀ g o, g < 9 → w'.cell? ⟨g, o, none⟩ = w.cell? ⟨g, o, none⟩ := fun g o hg => World.cell?_of_block (w := w) (hb g hg)
  refine { big := Nat.le_trans h.big hz, maxLen := ?_, pow10 := ?_, errSyntax := ?_, errRange := ?_ }
  · obtain ⟨m, hm⟩ := h.maxLen; exact ⟨m, (hc _ _ (by omega)).trans hm⟩
  · have h1 := h.pow10
    unfold Lib.TabIs World.var? at h1 ⊢
    rw [show Tryz.prog.globalNamed "internal/strconv.uint64pow10" = some 1 from by kernel_rfl] at h1 ⊢
    simp only [Option.bind_some] at h1 ⊢
    rw [hb _ (by omega)]
    exact h1
  · obtain ⟨a, b, hm⟩ := h.errSyntax; exact ⟨a, b, (hc _ _ (by omega)).trans hm⟩
  · obtain ⟨a, b, hm⟩ := h.errRange; exact ⟨a, b, (hc _ _ (by omega)).trans hm⟩
theorem Std.below {B : Nat} {w w' : World} (h : Std w) (hb : Below B w w') (hB : 9 ≤ B) : Std w' := h.go hb.size fun k hk => hb.block k (by omega)
theorem Std.after {w w' : World} (h : Std w) (hb : Below w.heap.size w w') : Std w' := h.below hb h.big
theorem Std.alloc {w : World} (h : Std w) (o : Obj) : Std (w.alloc o) := h.after ((Below.refl _ _).alloc (Nat.le_refl _) o)
end Go.Proofs.YtpojkgfckepoeaaGreatDoor

namespace Go.Proofs.YtpojkgfckepoeaaGreatDoor
open Go.RowKit

theorem set4_cells (w : World) (g : Nat) (a b c d : Value) (h : ∀ j, j < 4 → ∃ v, w.cell? ⟨g, j, none⟩ = some v) (W : World)
    (hW : W = (((w.setCell ⟨g, 0, none⟩ a).setCell ⟨g, 1, none⟩ b).setCell ⟨g, 2, none⟩ c).setCell ⟨g, 3, none⟩ d) :
    W.cell? ⟨g, 0, none⟩ = some a ∧ W.cell? ⟨g, 1, none⟩ = some b ∧ W.cell? ⟨g, 2, none⟩ = some c ∧ W.cell? ⟨g, 3, none⟩ = some d := by
  obtain ⟨v0, h0⟩ := h 0 (by omega)
  obtain ⟨v1, h1⟩ := h 1 (by omega)
  obtain ⟨v2, h2⟩ := h 2 (by omega)
  obtain ⟨v3, h3⟩ := h 3 (by omega)
  subst hW
  have o : ∀ (x : World) (i j : Nat) (u : Value), i ≠ j → (x.setCell ⟨g, i, none⟩ u).cell? ⟨g, j, none⟩ = x.cell? ⟨g, j, none⟩ := fun x i j u hij => World.cell?_setCell_other x _ _ u (fun e => hij (by injection e))
  have s : ∀ (x : World) (i : Nat) (u v : Value), x.cell? ⟨g, i, none⟩ = some v → (x.setCell ⟨g, i, none⟩ u).cell? ⟨g, i, none⟩ = some u := fun x i u v hx => World.cell?_setCell_same _ _ _ (h := hx)
  refine ⟨?_, ?_, ?_, ?_⟩
  · rw [o _ 3 0 _ (by omega), o _ 2 0 _ (by omega), o _ 1 0 _ (by omega)]; exact s _ 0 _ _ h0
  · rw [o _ 3 1 _ (by omega), o _ 2 1 _ (by omega)]; exact s _ 1 _ _ ((o _ 0 1 _ (by omega)).trans h1)
  · rw [o _ 3 2 _ (by omega)]; exact s _ 2 _ _ ((o _ 1 2 _ (by omega)).trans ((o _ 0 2 _ (by omega)).trans h2))
  · exact s _ 3 _ _ ((o _ 2 3 _ (by omega)).trans ((o _ 1 3 _ (by omega)).trans ((o _ 0 3 _ (by omega)).trans h3)))

theorem cell_alloc_of {w : World} {p : Addr} {v : Value} (h : w.cell? p = some v) (o : Obj) : (w.alloc o).cell? p = some v := cell_later ((Below.refl _ _).alloc (Nat.le_refl _) o) h
theorem ext_set4 {w W : World} (h : Below w.heap.size w W) {g : Nat} (hg : w.heap.size ≤ g) (a b c d : Value) :
    Below w.heap.size w ((((W.setCell ⟨g, 0, none⟩ a).setCell ⟨g, 1, none⟩ b).setCell ⟨g, 2, none⟩ c).setCell ⟨g, 3, none⟩ d) :=
  ext_set (ext_set (ext_set (ext_set h hg _) hg _) hg _) hg _
theorem heap_new2 (w : World) (o1 o2 : Obj) : ((w.alloc o1).alloc o2).heap[w.heap.size + 1]? = some o2 := by
  have := heap_alloc_new (w.alloc o1) o2
  rwa [World.size_alloc] at this
theorem heap_new3 (w : World) (o1 o2 o3 : Obj) : (((w.alloc o1).alloc o2).alloc o3).heap[w.heap.size + 2]? = some o3 := by
  have := heap_alloc_new ((w.alloc o1).alloc o2) o3
  rwa [World.size_alloc, World.size_alloc] at this
/-- Four cells of a block of an elder world. -/
theorem four_of {W w1 : World} {g : Nat} {x0 x1 x2 x3 : Value} {t : TypeId} {r : Nat × Nat} (hg : W.heap[g]? = some (.cells #[x0, x1, x2, x3] t r)) (hb : Below W.heap.size W w1) : ∀ j, j < 4 → ∃ v, w1.cell? ⟨g, j, none⟩ = some v := by
  have hlt : g < W.heap.size := by
    rcases Nat.lt_or_ge g W.heap.size with h | h
    · exact h
    · rw [Array.getElem?_eq_none h] at hg; cases hg
  intro j hj
  have hc : w1.cell? ⟨g, j, none⟩ = W.cell? ⟨g, j, none⟩ := hb.cell (p := ⟨g, j, none⟩) hlt
  rw [hc, cell_of_row W g j _ t r hg]
  match j, hj with
  | 0, _ | 1, _ | 2, _ | 3, _ => exact ⟨_, rfl⟩
end Go.Proofs.YtpojkgfckepoeaaGreatDoor
