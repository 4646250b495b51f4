/- The statement TimegridTimes: its walk. No condition but what the program's variables hold. -/
import Derived.Test.YtnbcaklnpflihaaGreatDoorKTgG
import Derived.RegionTactic
import Derived.BigRegion
import Derived.Deep.RegionHeld3
import Derived.Deep.DeepCutAuto
namespace Go.Proofs.YtnbcaklnpflihaaGreatDoor
open Go.RowKit

theorem Box4.alloc {w : World} {g : Nat} {a b c d : Value} (h : Box4 w g a b c d) (o : Obj) : Box4 (w.alloc o) g a b c d := h.later (ext_alloc (Below.refl _ _) o)
theorem Box4.drew {w : World} {g : Nat} {a b c d : Value} (h : Box4 w g a b c d) : Box4 w.drew g a b c d := h.later (ext_drew (Below.refl _ _))

/-- The cells that the last statement reads. -/
abbrev Held (G g7 g8 : Nat) (d s b m a1 a2 a3 a4 b1 b2 b3 b4 : Int) (w0 W : World) : Prop := W.cell? ⟨G, 0, none⟩ = some (.int .i64 d) ∧ W.cell? ⟨G, 1, none⟩ = some (.int .i64 s) ∧ W.cell? ⟨G, 2, none⟩ = some (.int .i64 b) ∧ W.cell? ⟨G, 3, none⟩ = some (.int .i64 m) ∧ W.cell? ⟨g7, 0, none⟩ = some (.int .i64 a1) ∧ W.cell? ⟨g7, 1, none⟩ = some (.int .i64 a2) ∧ W.cell? ⟨g7, 2, none⟩ = some (.int .i64 a3) ∧ W.cell? ⟨g7, 3, none⟩ = some (.int .i64 a4) ∧ W.cell? ⟨g8, 0, none⟩ = some (.int .i64 b1) ∧ W.cell? ⟨g8, 1, none⟩ = some (.int .i64 b2) ∧ W.cell? ⟨g8, 2, none⟩ = some (.int .i64 b3) ∧ W.cell? ⟨g8, 3, none⟩ = some (.int .i64 b4) ∧ Std W ∧ Below w0.heap.size w0 W
theorem Held.later {G g7 g8 : Nat} {d s b m a1 a2 a3 a4 b1 b2 b3 b4 : Int} {w0 W W' : World} (h : Held G g7 g8 d s b m a1 a2 a3 a4 b1 b2 b3 b4 w0 W) (hb : Below W.heap.size W W') : Held G g7 g8 d s b m a1 a2 a3 a4 b1 b2 b3 b4 w0 W' := by
  obtain ⟨c0, c1, c2, c3, c4, c5, c6, c7, c8, c9, c10, c11, hS, h0⟩ := h
  exact ⟨cell_later hb c0, cell_later hb c1, cell_later hb c2, cell_later hb c3, cell_later hb c4, cell_later hb c5, cell_later hb c6, cell_later hb c7, cell_later hb c8, cell_later hb c9, cell_later hb c10, cell_later hb c11, hS.after hb, ext_trans h0 hb⟩
theorem Held.below {G g7 g8 : Nat} {d s b m a1 a2 a3 a4 b1 b2 b3 b4 : Int} {w0 W : World} (h : Held G g7 g8 d s b m a1 a2 a3 a4 b1 b2 b3 b4 w0 W) : Below w0.heap.size w0 W := by
  obtain ⟨-, -, -, -, -, -, -, -, -, -, -, -, -, h0⟩ := h
  exact h0
theorem keepS {P : Program} {f : FuncId} {args : Array Value} {w : World} {v : Value} {S : World → Prop} (hk : ∀ w', Below w.heap.size w w' → S w') (h : Calls P f args w fun e w' => e = .returned v ∧ Below w.heap.size w w') : Calls P f args w fun e w' => e = .returned v ∧ S w' :=
  h.mono fun _ w' ⟨he, hb⟩ => ⟨he, hk w' hb⟩

end Go.Proofs.YtnbcaklnpflihaaGreatDoor
