/- Walk of timetableref03.follows: is a code the next one. Conditions: a code of at most 16 bytes, a width of at most 100. -/
import Derived.Test.YtjdhjnciokhbkaaGreatDoorKWr3
namespace Go.Proofs.YtjdhjnciokhbkaaGreatDoor
open Go.RowKit
set_option maxRecDepth 100000

theorem tail_is (a : ByteArray) (w : World) (hs : a.size ≤ 9223372036854775807) :
    Calls Tryz.prog 68 #[.string a] w fun e w' => e = .returned (.tuple #[.string (mkB (preL a)), .string (mkB (a.data.toList.drop (tailAt a)))]) ∧ Below w.heap.size w w' := by
  refine (r3tail_walk a w hs).mono ?_
  rintro e w' ⟨X, Y, rfl, hX, hY, hb⟩
  exact ⟨by rw [mkB_of hX, mkB_of hY]; rfl, hb⟩
theorem tail_digs (a : ByteArray) : ∀ b ∈ a.data.toList.drop (tailAt a), digN b.toNat = true := by
  have := tail_digS a
  unfold digS at this
  rw [ext_list, List.take_of_length_le (by simp), List.all_eq_true] at this
  exact this
theorem digS_mk {l : List UInt8} (h : ∀ b ∈ l, digN b.toNat = true) : digS (mkB l) = true := by
  unfold digS
  rw [mkB_list, List.all_eq_true]
  exact h
theorem valS_mk (l : List UInt8) : valS (mkB l) = valL l := by unfold valS valL; rw [mkB_list]
set_option maxHeartbeats 4000000 in
theorem fol_walk (b a : ByteArray) (d : Nat) (w : World) (ha : a.size ≤ 16) (hd : d ≤ 100) :
    Calls Tryz.prog 69 #[.string b, .string a, .int .i64 d] w fun e w' => e = .returned (.bool (folB b a d)) ∧ Below w.heap.size w w' := by
  have ht := tail_is a w (by omega)
  have hds := tail_digs a
  have hul : (a.data.toList.drop (tailAt a)).length = a.size - tailAt a := by rw [List.length_drop, len_size]
  have hn := numT_le a ha
  have hpl : (preL a).length ≤ 16 := Nat.le_trans preL_len ha
  have hnum := fun (W : World) => r3number_walk (mkB (a.data.toList.drop (tailAt a))) (by rw [mkB_size]; omega) (digS_mk hds) W
  rw [valS_mk, show valL (a.data.toList.drop (tailAt a)) = numT a from rfl] at hnum
  have hwr := fun (W : World) => r3written_walk (numT a + 1) d W (by omega) (by omega)
  have hus : (mkB (a.data.toList.drop (tailAt a))).size = a.size - tailAt a := by rw [mkB_size, hul]
  have hwl : (wrL (numT a + 1) d).length ≤ 120 := by
    have h1 := nDigits_le 18 (numT a + 1) (by omega)
    rw [len_wrL]; omega
  obtain ⟨U, hU⟩ : ∃ U, mkB (a.data.toList.drop (tailAt a)) = U := ⟨_, rfl⟩
  rw [hU] at ht hnum hus
  unfold folB
  by_cases hok : tailAt a < a.size
  · have e0 := isEmpty_false U (by omega)
    have e1 : U.toList ≠ [] := fun e => by rw [e] at e0; cases e0
    obtain ⟨X, hX⟩ : ∃ X, mkB (preL a) = X := ⟨_, rfl⟩
    obtain ⟨Y, hY⟩ : ∃ Y, mkB (wrL (numT a + 1) d) = Y := ⟨_, rfl⟩
    obtain ⟨Z, hZ⟩ : ∃ Z, mkB (preL a ++ wrL (numT a + 1) d) = Z := ⟨_, rfl⟩
    have hXY : X ++ Y = Z := by
      refine dat_inj ?_
      rw [← hX, ← hY, ← hZ, mkB_list]
      simp [mkB]
    have hov : (9223372036854775807 < X.size + Y.size) = False := by
      rw [← hX, ← hY, mkB_size, mkB_size]; simp; omega
    rw [hX] at ht
    rw [hY] at hwr
    rw [hZ]
    obtain ⟨n, hnn⟩ : ∃ n, numT a = n := ⟨_, rfl⟩
    rw [hnn] at hn hnum hwr
    obtain ⟨m, hm⟩ : ∃ m, n + 1 = m := ⟨_, rfl⟩
    rw [hm] at hwr
    have hww : IntKind.i64.wrap ((n : Int) + 1) = (m : Int) := by rw [IntKind.wrap_i64]; omega
    have hww2 : (n : Int) + 1 = (m : Int) := by omega
    clear hm
    replace hnum := hide hnum
    replace hwr := hide hwr
    clear hds hul hU hX hY hZ hnn hus hwl hpl
    by_cases hb : b = Z
    · rw [decide_eq_true ⟨hok, hb⟩]
      subst hb
      clear hok
      go_enter Tryz.func69, Tryz.ntmps69
      go_wp2_with (first | (go_at_call 68; (with_reducible refine ht.mono ?_); rintro e w1 ⟨rfl, hb1⟩) | (go_at_call 78; (with_reducible refine (hnum.out _).mono ?_); rintro e w2 ⟨rfl, rfl⟩) | (go_at_call 79; (with_reducible refine (hwr.out _).mono ?_); rintro e w3 ⟨rfl, hb3⟩))
      go_ret
      exact ⟨rfl, ext_trans hb1 hb3⟩
    · rw [decide_eq_false fun h => hb h.2]
      have hne := toList_no (X := b) (Y := Z) (fun e => hb (dat_inj e))
      clear hok hb
      go_enter Tryz.func69, Tryz.ntmps69
      go_wp2_with (first | (go_at_call 68; (with_reducible refine ht.mono ?_); rintro e w1 ⟨rfl, hb1⟩) | (go_at_call 78; (with_reducible refine (hnum.out _).mono ?_); rintro e w2 ⟨rfl, rfl⟩) | (go_at_call 79; (with_reducible refine (hwr.out _).mono ?_); rintro e w3 ⟨rfl, hb3⟩))
      go_ret
      exact ⟨rfl, ext_trans hb1 hb3⟩
  · rw [decide_eq_false fun h => hok h.1]
    have e0 := isEmpty_true U (by omega)
    have e1 : U.toList = [] := List.isEmpty_iff.1 e0
    clear hok hnum hwr hds hul hus hU hwl hpl
    go_enter Tryz.func69, Tryz.ntmps69
    go_wp2_with (go_at_call 68; (with_reducible refine ht.mono ?_); rintro e w1 ⟨rfl, hb1⟩)
    go_ret
    exact ⟨rfl, hb1⟩
end Go.Proofs.YtjdhjnciokhbkaaGreatDoor
