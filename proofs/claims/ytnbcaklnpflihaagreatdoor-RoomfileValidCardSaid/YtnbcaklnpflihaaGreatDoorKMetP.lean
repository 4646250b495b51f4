/- A map in which codes are noted, as it is read and written. No condition. -/
import Derived.Maps.OwnSet
import Derived.Test.YtnbcaklnpflihaaGreatDoorKAppAt
import Derived.StringKeys
namespace Go.Proofs.YtnbcaklnpflihaaGreatDoor
open Go.RowKit
set_option maxRecDepth 100000

theorem met_inj {x y : ByteArray} (h : x.data.toList = y.data.toList) : x = y := by
  cases x; cases y
  simp only [ByteArray.mk.injEq]
  exact Array.toList_inj.1 h
/-- Block b is a map in which just these texts are true. -/
def MetAt (w : World) (b : Nat) (met : List ByteArray) : Prop :=
  ∃ D : DataW Unit, w.ownsMap Tryz.prog 9 (plainElem Tryz.prog 4) b met.length D ∧ ∀ z : ByteArray, D.atKey (.string z.data.toList) (.lit (.bool false)) = .lit (.bool (decide (0 ≤ idxS z met)))
theorem met_made (w : World) : MetAt (w.alloc (.map #[] 0)) w.heap.size [] := ⟨.map [], World.ownsMap_made _ _ _ _, fun _ => rfl⟩
theorem MetAt.lt {w : World} {b : Nat} {met : List ByteArray} (h : MetAt w b met) : b < w.heap.size := by obtain ⟨D, h, -⟩ := h; exact h.lt
theorem MetAt.later {w w' : World} {b : Nat} {met : List ByteArray} (h : MetAt w b met) (hb : Below w.heap.size w w') : MetAt w' b met := by
  have hlt := h.lt
  obtain ⟨D, ⟨es, clock, h1, h2⟩, h3⟩ := h
  exact ⟨D, ⟨es, clock, (hb.block b hlt).trans h1, h2⟩, h3⟩
theorem met_look {w : World} {b : Nat} {met : List ByteArray} (h : MetAt w b met) (z : ByteArray) (hz : z.size ≤ 1000000) :
    (Instr.lookup 67 (.map (some b)) (.string z) false).run Tryz.prog w = .ok (.bool (decide (0 ≤ idxS z met))) w := by
  obtain ⟨D, h1, h2⟩ := h
  obtain ⟨v, ps, hrun, hv⟩ := h1.lookup (t := 67) (e := 4) (z := .bool false) (zd := .lit (.bool false)) (zp := []) (Maps.string_keyed Tryz.underlying9) Tryz.underlying67 (Tryz.zeroValue4 w) (plainElem_bool Tryz.underlying4 false) (key := .string z) (WideMaps.keyOf_string_mk Tryz.underlying9 (by unfold maxLen; omega))
  rw [h2 z] at hv
  have : v = .bool (decide (0 ≤ idxS z met)) := by
    unfold plainElem at hv
    rw [Tryz.underlying4] at hv
    cases v <;> simp at hv
    rw [hv.1]
  rw [hrun, this]
theorem wpList_met {w : World} {ops : Array Oper} {rest : List Oper} {o : Oper} {a : Act} {Q : Exit → Act → World → Prop} (hg : o.guard = none) (m x v : Operand) (hop : o.op = Op.mapUpdate 67 m x v) {b : Nat} {met : List ByteArray} {z : ByteArray}
    (hm : a.eval m = .map (some b)) (h : MetAt w b met) (hn : met.length ≤ 1000) (hx : a.eval x = .string z) (hz : z.size ≤ 1000000) (hv : a.eval v = .bool true)
    (hk : ∀ w', MetAt w' b (met ++ [z]) → w.grownBy w' (some b) → wpList Tryz.prog ops Q rest (a.put o.dst undef) w') : wpList Tryz.prog ops Q (o :: rest) a w := by
  obtain ⟨D, h1, h2⟩ := h
  refine wpList_mapUpdate_own w hg m x v 67 hop 9 4 (Maps.string_keyed Tryz.underlying9) Tryz.underlying67 _ b met.length D hm h1 (by unfold maxLen; omega) (.string z) (.bool true) (.string z.data.toList) hx hv (WideMaps.keyOf_string_mk Tryz.underlying9 (by unfold maxLen; omega)) (.lit (.bool true)) [] (plainElem_bool Tryz.underlying4 true) fun w' h3 h4 => hk w' ⟨_, by rw [List.length_append]; exact h3, fun y => ?_⟩ h4
  by_cases e : y = z
  · subst e
    rw [Maps.atKey_put_same h1.isMap (show WideAt.IsKeyLit (.string y.data.toList) from trivial), decide_eq_true (idx_mem.2 (by simp))]
  · rw [Maps.atKey_put_other (fun h => e (met_inj (by injection h))), h2 y]
    congr 2
    exact decide_eq_decide.2 (by rw [idx_mem, idx_mem]; simp [e])
end Go.Proofs.YtnbcaklnpflihaaGreatDoor
