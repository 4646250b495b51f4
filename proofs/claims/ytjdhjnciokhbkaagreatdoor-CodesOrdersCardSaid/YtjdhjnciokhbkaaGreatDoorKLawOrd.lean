/- The statement CodesOrders: its walk. Conditions: the texts' lengths are ints; what the program's variables hold. -/
import Derived.Test.YtjdhjnciokhbkaaGreatDoorKAwake3
import Derived.Test.YtjdhjnciokhbkaaGreatDoorKCmpO
namespace Go.Proofs.YtjdhjnciokhbkaaGreatDoor
open Go.RowKit
set_option maxRecDepth 100000

set_option maxHeartbeats 4000000 in
theorem orders_walk (a b c : ByteArray) (w : World) (hS : Std w) (ha : a.size ≤ 9223372036854775807) (hb : b.size ≤ 9223372036854775807) (hc : c.size ≤ 9223372036854775807) :
    Calls Tryz.prog 5 #[.string a, .string b, .string c] w fun e w' => e = .returned (.bool true) ∧ Below w.heap.size w w' := by
  have h1 := fun (W : World) => ccompare_walk a b W ha hb
  have h2 := fun (W : World) => ccompare_walk b c W hb hc
  have h3 := fun (W : World) => ccompare_walk a c W ha hc
  have h4 := fun (W : World) => ccompare_walk b a W hb ha
  have o1 := isCmp_compare.neg a.data.toList b.data.toList
  have o2 := isCmp_compare.lo a.data.toList b.data.toList
  have o3 := isCmp_compare.hi a.data.toList b.data.toList
  have o4 := isCmp_compare.tr a.data.toList b.data.toList c.data.toList
  have o5 := compare_zero a.data.toList b.data.toList
  rw [o1] at h4
  obtain ⟨x, hx⟩ : ∃ x, compareV a.data.toList b.data.toList = x := ⟨_, rfl⟩
  obtain ⟨y, hy⟩ : ∃ y, compareV b.data.toList c.data.toList = y := ⟨_, rfl⟩
  obtain ⟨z, hz⟩ : ∃ z, compareV a.data.toList c.data.toList = z := ⟨_, rfl⟩
  rw [hx] at h1 h4 o2 o3 o4 o5
  rw [hy] at h2 o4
  rw [hz] at h3 o4
  have hs : Hid ((a.toList == b.toList) = decide (x = 0)) := hide (by
    rw [toList_dataL, toList_dataL]
    by_cases h : a.data.toList = b.data.toList
    · rw [decide_eq_true (o5.2 h), beq_iff_eq]; exact h
    · rw [decide_eq_false (fun e => h (o5.1 e))]; exact beq_false_of_ne h)
  clear hx hy hz o1 o5
  have hwn : IntKind.i64.wrap (- (- x)) = x := by rw [IntKind.wrap_i64]; omega
  replace h2 := hide h2
  replace h3 := hide h3
  replace h4 := hide h4
  go_enter Tryz.func5, Tryz.ntmps5
  go_wp2_with fail
  refine (h1 _).mono ?_
  rintro e w1 ⟨rfl, hb1⟩
  go_wp2_with fail
  refine (h2.out _).mono ?_
  rintro e w2 ⟨rfl, hb2⟩
  go_wp2_with fail
  refine (h3.out _).mono ?_
  rintro e w3 ⟨rfl, hb3⟩
  go_wp2_with fail
  refine (h4.out _).mono ?_
  rintro e w4 ⟨rfl, hb4⟩
  have hb := ext_trans (ext_trans (ext_trans hb1 hb2) hb3) hb4
  have haw := awake03_walk w4 (hS.after hb)
  clear hb1 hb2 hb3 hb4 h1 h2 h3 h4
  have hs' := hs.out
  clear hs
  go_wp2_with fail
  refine haw.mono ?_
  clear haw hs' o2 o3
  rintro e w5 ⟨rfl, hb5⟩
  go_wp2
  all_goals
    go_ret
    exact ⟨ret_bool (by simp; try omega), ext_trans hb hb5⟩
end Go.Proofs.YtjdhjnciokhbkaaGreatDoor
