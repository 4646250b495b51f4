/- Plain: the pairs of a list of numbers; two ways to find them; walk of timetableref02.Has. Condition: the cells. -/
import Derived.Lib.ItoaLen
import Derived.Lib.AppendIntMem
import Derived.Lib.OwnBridge
import Derived.Test.YtdnnahdafhddlaaGreatDoorYIdxS
namespace Go.Proofs.YtdnnahdafhddlaaGreatDoor
open Go.RowKit
set_option maxRecDepth 100000

set_option maxHeartbeats 2000000 in
theorem r2has_walk (A : Option Addr) (xs : List ByteArray) (c : Nat) (z : ByteArray) (w : World) (hn : xs.length ≤ 9223372036854775807) (h : At kStr AnyB w A xs) :
    Calls Tryz.prog 39 #[.slice A xs.length c, .string z] w fun e w' => e = .returned (.bool (decide (0 ≤ idxS z xs))) ∧ w = w' := by
  obtain ⟨n, hnn⟩ : ∃ n, xs.length = n := ⟨_, rfl⟩
  rw [hnn] at hn ⊢
  replace hnn := hide hnn
  go_enter Tryz.func39, Tryz.ntmps39
  go_wp2
  go_loop [5] (fun i => ∃ j : Nat, j ≤ n ∧ i = .int .i64 j ∧ Hid (∀ y ∈ xs.take j, (y.toList == z.toList) = false)) (fun i => n - (intOf i).toNat)
  case atStart => exact ⟨0, Nat.zero_le _, rfl, hide (fun y hy => by simp at hy)⟩
  case round =>
    obtain ⟨j, hj, rfl, ho⟩ := hrel
    by_cases hlt : j < n
    · obtain ⟨x, hx⟩ : ∃ x, xs[j]? = some x := ⟨_, List.getElem?_eq_getElem (by rw [hnn.out]; exact hlt)⟩
      obtain ⟨b, off, rfl, -, hb, k0⟩ := h.str hx
      have hj0 : (0 : Int) ≤ (j : Int) := by omega
      have hj1 : (j : Int) < (n : Int) := by omega
      cases hq : (x.toList == z.toList) with
      | true =>
        have hit := hide (idxS_hit hx ho.out hq)
        clear hx h ho
        go_wp2
        go_ret
        exact ⟨ret_bool (by rw [hit.out]; simp), rfl⟩
      | false =>
        have miss := hide (take_miss hx ho.out hq)
        clear hx h ho
        go_wp2
        go_round
        case rel => exact ⟨j + 1, by omega, by go_num, miss⟩
        case measure => simp [intOf]; omega
    · obtain rfl : j = n := by omega
      have hall : Hid (idxS z xs = -1) := hide (idxS_none fun y hy => ho.out y (by rw [← hnn.out, List.take_length]; exact hy))
      go_wp2
      go_ret
      exact ⟨by rw [hall.out]; rfl, rfl⟩
end Go.Proofs.YtdnnahdafhddlaaGreatDoor
