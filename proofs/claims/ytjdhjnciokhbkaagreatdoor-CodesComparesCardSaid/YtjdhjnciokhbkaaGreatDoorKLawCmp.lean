/- The statement CodesCompares: its walk. Conditions: the texts' lengths are ints; what the program's variables hold. -/
import Derived.Test.YtjdhjnciokhbkaaGreatDoorKAwake3
import Derived.Test.YtjdhjnciokhbkaaGreatDoorKCmpR
namespace Go.Proofs.YtjdhjnciokhbkaaGreatDoor
open Go.RowKit
set_option maxRecDepth 100000

set_option maxHeartbeats 4000000 in
theorem compares_walk (a b : ByteArray) (w : World) (hS : Std w) (ha : a.size ≤ 9223372036854775807) (hb : b.size ≤ 9223372036854775807) :
    Calls Tryz.prog 4 #[.string a, .string b] w fun e w' => e = .returned (.bool true) ∧ Below w.heap.size w w' := by
  have h1 := cvalid_walk a
  have h2 := r3valid_walk a
  have h3 := fun (W : World) => ccompare_walk a b W ha hb
  have h4 := fun (W : World) => r3compare_walk a b W ha hb
  obtain ⟨V, hV⟩ : ∃ V, compareV a.data.toList b.data.toList = V := ⟨_, rfl⟩
  obtain ⟨B, hB⟩ : ∃ B, codeB a = B := ⟨_, rfl⟩
  rw [hB] at h1 h2
  rw [hV] at h3 h4
  clear hV hB
  replace h1 := hide h1
  replace h2 := hide h2
  replace h3 := hide h3
  replace h4 := hide h4
  go_enter Tryz.func4, Tryz.ntmps4
  go_wp2_with fail
  refine (awake03_walk w hS).mono ?_
  rintro e w1 ⟨rfl, hb1⟩
  go_wp2_with fail
  refine (h1.out _).mono ?_
  rintro e w2 ⟨rfl, rfl⟩
  go_wp2_with fail
  refine (h2.out _).mono ?_
  rintro e w3 ⟨rfl, rfl⟩
  go_wp2_with fail
  refine (h3.out _).mono ?_
  rintro e w4 ⟨rfl, hb4⟩
  go_wp2_with fail
  refine (h4.out _).mono ?_
  rintro e w5 ⟨rfl, hb5⟩
  go_wp2
  go_ret
  exact ⟨rfl, ext_trans (ext_trans hb1 hb4) hb5⟩
end Go.Proofs.YtjdhjnciokhbkaaGreatDoor
