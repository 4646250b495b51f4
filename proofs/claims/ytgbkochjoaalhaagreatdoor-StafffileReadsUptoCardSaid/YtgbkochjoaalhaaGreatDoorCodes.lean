/- Walks of codes.Valid and timetableref03.Valid. No condition but the string's size. -/
import Derived.Test.YtgbkochjoaalhaaGreatDoorLib
namespace Go.Proofs.YtgbkochjoaalhaaGreatDoor
open Go.RowKit

def digN (c : Nat) : Bool := decide (48 ≤ c ∧ c ≤ 57)
def letN (c : Nat) : Bool := decide ((65 ≤ c ∧ c ≤ 90) ∨ (97 ≤ c ∧ c ≤ 122))
def dashN (c : Nat) : Bool := decide (c = 95 ∨ c = 45)
/-- May byte c stand at place j of a code. -/
def signN (j c : Nat) : Bool := digN c || letN c || (decide (0 < j) && dashN c)
/-- Do the first k bytes of a text suit a code. -/
def codeTo (s : ByteArray) : Nat → Bool
  | 0 => true
  | k + 1 => codeTo s k && signN k (s.data.toList.getD k 0).toNat
/-- Is a text a code. -/
def codeB (s : ByteArray) : Bool := decide (1 ≤ s.size ∧ s.size ≤ 16) && codeTo s s.size
theorem codeTo_false {s : ByteArray} {k : Nat} (h : signN k (s.data.toList.getD k 0).toNat = false) : ∀ n, k < n → codeTo s n = false
  | 0, hk => by omega
  | n + 1, hk => by
    unfold codeTo
    by_cases e : k = n
    · subst e; rw [h, Bool.and_false]
    · rw [codeTo_false h n (by omega), Bool.false_and]
theorem codeB_no {s : ByteArray} (h : ¬ (1 ≤ s.size ∧ s.size ≤ 16)) : codeB s = false := by
  unfold codeB; rw [decide_eq_false h, Bool.false_and]
theorem codeB_yes {s : ByteArray} (h : 1 ≤ s.size ∧ s.size ≤ 16) : codeB s = codeTo s s.size := by
  unfold codeB; rw [decide_eq_true h, Bool.true_and]
theorem byte_at (s : ByteArray) (k : Nat) (h : k < s.size) : s.data.toList.getD k 0 = s[k] := by
  rw [List.getD_eq_getElem?_getD, List.getElem?_eq_getElem (by rw [Array.length_toList]; exact h)]; rfl
theorem codeB_bad {s : ByteArray} {k : Nat} (h : k < s.size) (hb : signN k s[k].toNat = false) : codeB s = false := by
  unfold codeB
  rw [codeTo_false (k := k) (by rw [byte_at s k h]; exact hb) s.size h, Bool.and_false]
theorem codeTo_next {s : ByteArray} {k : Nat} (h : k < s.size) (h1 : codeTo s k = true) (hb : signN k s[k].toNat = true) : codeTo s (k + 1) = true := by
  unfold codeTo; rw [h1, byte_at s k h, hb]; rfl

-- <dig>
set_option maxHeartbeats 400000 in
theorem cdigit_walk (c : Nat) (w : World) : Calls Tryz.prog 107 #[.int .u8 c] w fun e w' => e = .returned (.bool (digN c)) ∧ w = w' := by
  by_cases h : 48 ≤ c ∧ c ≤ 57
  · rw [show digN c = true from decide_eq_true h]
    obtain ⟨h1, h2⟩ := h
    go_enter Tryz.func107, Tryz.ntmps107
    go_wp2
    all_goals
      go_ret
      exact ⟨ret_bool (by simp; try omega), rfl⟩
  · rw [show digN c = false from decide_eq_false h]
    go_enter Tryz.func107, Tryz.ntmps107
    go_wp2
    all_goals
      go_ret
      exact ⟨ret_bool (by simp; try omega), rfl⟩
-- </dig>
set_option maxHeartbeats 400000 in
theorem r3digit_walk (c : Nat) (w : World) : Calls Tryz.prog 112 #[.int .u8 c] w fun e w' => e = .returned (.bool (digN c)) ∧ w = w' := by
  by_cases h : 48 ≤ c ∧ c ≤ 57
  · rw [show digN c = true from decide_eq_true h]
    obtain ⟨h1, h2⟩ := h
    go_enter Tryz.func112, Tryz.ntmps112
    go_wp2
    all_goals
      go_ret
      exact ⟨ret_bool (by simp; try omega), rfl⟩
  · rw [show digN c = false from decide_eq_false h]
    go_enter Tryz.func112, Tryz.ntmps112
    go_wp2
    all_goals
      go_ret
      exact ⟨ret_bool (by simp; try omega), rfl⟩

-- <let>
set_option maxHeartbeats 400000 in
theorem cletter_walk (c : Nat) (w : World) : Calls Tryz.prog 108 #[.int .u8 c] w fun e w' => e = .returned (.bool (letN c)) ∧ w = w' := by
  by_cases h : (65 ≤ c ∧ c ≤ 90) ∨ (97 ≤ c ∧ c ≤ 122)
  · rw [show letN c = true from decide_eq_true h]
    go_enter Tryz.func108, Tryz.ntmps108
    go_wp2
    all_goals
      go_ret
      exact ⟨ret_bool (by simp; try omega), rfl⟩
  · rw [show letN c = false from decide_eq_false h]
    go_enter Tryz.func108, Tryz.ntmps108
    go_wp2
    all_goals
      go_ret
      exact ⟨ret_bool (by simp; try omega), rfl⟩
-- </let>
set_option maxHeartbeats 400000 in
theorem r3letter_walk (c : Nat) (w : World) : Calls Tryz.prog 113 #[.int .u8 c] w fun e w' => e = .returned (.bool (letN c)) ∧ w = w' := by
  by_cases h : (65 ≤ c ∧ c ≤ 90) ∨ (97 ≤ c ∧ c ≤ 122)
  · rw [show letN c = true from decide_eq_true h]
    go_enter Tryz.func113, Tryz.ntmps113
    go_wp2
    all_goals
      go_ret
      exact ⟨ret_bool (by simp; try omega), rfl⟩
  · rw [show letN c = false from decide_eq_false h]
    go_enter Tryz.func113, Tryz.ntmps113
    go_wp2
    all_goals
      go_ret
      exact ⟨ret_bool (by simp; try omega), rfl⟩

theorem digN_at {c : Nat} {b : Bool} (h : digN c = b) (w : World) : Calls Tryz.prog 107 #[.int .u8 c] w fun e w' => e = .returned (.bool b) ∧ w = w' := by
  have := cdigit_walk c w; rw [h] at this; exact this
theorem letN_at {c : Nat} {b : Bool} (h : letN c = b) (w : World) : Calls Tryz.prog 108 #[.int .u8 c] w fun e w' => e = .returned (.bool b) ∧ w = w' := by
  have := cletter_walk c w; rw [h] at this; exact this
theorem r3digN_at {c : Nat} {b : Bool} (h : digN c = b) (w : World) : Calls Tryz.prog 112 #[.int .u8 c] w fun e w' => e = .returned (.bool b) ∧ w = w' := by
  have := r3digit_walk c w; rw [h] at this; exact this
theorem r3letN_at {c : Nat} {b : Bool} (h : letN c = b) (w : World) : Calls Tryz.prog 113 #[.int .u8 c] w fun e w' => e = .returned (.bool b) ∧ w = w' := by
  have := r3letter_walk c w; rw [h] at this; exact this

theorem sign_eq {j c : Nat} {D L q1 q2 : Bool} (hD : digN c = D) (hL : letN c = L) (h1 : ((c : Int) == 95) = q1) (h2 : ((c : Int) == 45) = q2) : signN j c = (D || L || (decide (0 < j) && (q1 || q2))) := by
  have e : dashN c = (q1 || q2) := by
    rw [← h1, ← h2, Bool.eq_iff_iff]; simp [dashN]; omega
  unfold signN
  rw [hD, hL, e]
set_option maxHeartbeats 4000000 in
theorem cvalid_walk (s : ByteArray) (w : World) : Calls Tryz.prog 71 #[.string s] w fun e w' => e = .returned (.bool (codeB s)) ∧ w = w' := by
  by_cases hl : 1 ≤ s.size ∧ s.size ≤ 16
  · obtain ⟨l1, l2⟩ := hl
    have HC := hide (codeB_yes ⟨l1, l2⟩)
    go_enter Tryz.func71, Tryz.ntmps71
    go_wp2
    all_goals try (exfalso; omega)
    go_loop [15] (fun i => ∃ k : Nat, k ≤ s.size ∧ i = .int .i64 k ∧ Hid (codeTo s k = true)) (fun i => s.size - (intOf i).toNat)
    case atStart => exact ⟨0, Nat.zero_le _, rfl, rfl⟩
    case round =>
      obtain ⟨k, hk, rfl, hc⟩ := hrel
      by_cases hlt : k < s.size
      · have nxt := fun h => hide (codeTo_next hlt hc.out h)
        have bad := fun h => hide (codeB_bad hlt h)
        obtain ⟨c, hcc⟩ : ∃ c, s[k].toNat = c := ⟨_, rfl⟩
        rw [hcc] at nxt bad
        clear HC
        obtain ⟨D, hD⟩ : ∃ D, digN c = D := ⟨_, rfl⟩
        obtain ⟨L, hL⟩ : ∃ L, letN c = L := ⟨_, rfl⟩
        obtain ⟨q1, hq1⟩ : ∃ q1, ((c : Int) == 95) = q1 := ⟨_, rfl⟩
        obtain ⟨q2, hq2⟩ : ∃ q2, ((c : Int) == 45) = q2 := ⟨_, rfl⟩
        have hs : Hid (signN k c = (D || L || (decide (0 < k) && (q1 || q2)))) := hide (sign_eq hD hL hq1 hq2)
        replace hD := hide hD
        replace hL := hide hL
        by_cases h0 : 0 < k
        all_goals
          first | rw [decide_eq_true h0] at hs | rw [decide_eq_false h0] at hs
          go_wp2_with (first | (go_at_call 107; refine (digN_at hD.out _).mono ?_; rintro e w' ⟨rfl, rfl⟩) | (go_at_call 108; refine (letN_at hL.out _).mono ?_; rintro e w' ⟨rfl, rfl⟩))
          all_goals first
            | (go_ret
               refine ⟨ret_bool (bad ?_).out.symm, rfl⟩
               rw [hs.out]
               first
                 | (simp [*]; done)
                 | (have h' : (!q2) = true := by assumption
                    cases q2 <;> simp_all))
            | (go_round
               case rel => exact ⟨k + 1, by omega, by go_num, nxt (by rw [hs.out]; first | (simp [*]; done) | (rw [show q2 = true from by cases q2 with | false => exact absurd (show (!false) = false from by assumption) (by decide) | true => rfl]; simp))⟩
               case measure => simp [intOf]; omega)
      · obtain rfl : k = s.size := by omega
        go_wp2
        go_ret
        exact ⟨ret_bool (by rw [HC.out, hc.out]), rfl⟩
  · rw [codeB_no hl]
    go_enter Tryz.func71, Tryz.ntmps71
    go_wp2
    all_goals try (exfalso; omega)
    all_goals
      go_ret
      exact ⟨rfl, rfl⟩
theorem head_dash {s : ByteArray} (h : 0 < s.size) (hb : s[0].toNat = 95 ∨ s[0].toNat = 45) : codeB s = false := by
  refine codeB_bad h ?_
  unfold signN digN letN
  have h1 : ¬ (48 ≤ s[0].toNat ∧ s[0].toNat ≤ 57) := by omega
  have h2 : ¬ ((65 ≤ s[0].toNat ∧ s[0].toNat ≤ 90) ∨ (97 ≤ s[0].toNat ∧ s[0].toNat ≤ 122)) := by omega
  rw [decide_eq_false h1, decide_eq_false h2]
  simp
set_option maxHeartbeats 4000000 in
theorem r3valid_walk (s : ByteArray) (w : World) : Calls Tryz.prog 74 #[.string s] w fun e w' => e = .returned (.bool (codeB s)) ∧ w = w' := by
  by_cases hl : 1 ≤ s.size ∧ s.size ≤ 16
  · obtain ⟨l1, l2⟩ := hl
    have HC := hide (codeB_yes ⟨l1, l2⟩)
    have l3 : 1 ≤ (s.size : Int) := by omega
    have l4 : (s.size : Int) ≤ 16 := by omega
    have l0 : 0 < s.size := by omega
    by_cases hd : s[0].toNat = 95 ∨ s[0].toNat = 45
    · rw [head_dash l0 hd]
      clear HC
      go_enter Tryz.func74, Tryz.ntmps74
      go_wp2
      all_goals try (exfalso; omega)
      all_goals
        go_ret
        exact ⟨rfl, rfl⟩
    · obtain ⟨c0, hc0⟩ : ∃ c0, s[0].toNat = c0 := ⟨_, rfl⟩
      rw [hc0] at hd
      have n1 : ((c0 : Int) == 95) = false := by simp; omega
      have n2 : ((c0 : Int) == 45) = false := by simp; omega
      go_enter Tryz.func74, Tryz.ntmps74
      go_wp2
      all_goals try (exfalso; omega)
      clear hd
      replace n1 := hide n1
      replace n2 := hide n2
      replace hc0 := hide hc0
      go_loop [3] (fun i => ∃ k : Nat, k ≤ s.size ∧ i = .int .i64 k ∧ Hid (codeTo s k = true)) (fun i => s.size - (intOf i).toNat)
      case atStart => exact ⟨0, Nat.zero_le _, rfl, rfl⟩
      case round =>
        obtain ⟨k, hk, rfl, hc⟩ := hrel
        by_cases hlt : k < s.size
        · have nxt := fun h => hide (codeTo_next hlt hc.out h)
          have bad := fun h => hide (codeB_bad hlt h)
          obtain ⟨c, hcc⟩ : ∃ c, s[k].toNat = c := ⟨_, rfl⟩
          rw [hcc] at nxt bad
          clear HC
          obtain ⟨D, hD⟩ : ∃ D, digN c = D := ⟨_, rfl⟩
          obtain ⟨L, hL⟩ : ∃ L, letN c = L := ⟨_, rfl⟩
          obtain ⟨q1, hq1⟩ : ∃ q1, ((c : Int) != 95) = q1 := ⟨_, rfl⟩
          obtain ⟨q2, hq2⟩ : ∃ q2, ((c : Int) != 45) = q2 := ⟨_, rfl⟩
          have hs : Hid (signN k c = (D || L || !(q1 && q2))) := by
            have e1 : ((c : Int) == 95) = !q1 := by rw [← hq1, bne, Bool.not_not]
            have e2 : ((c : Int) == 45) = !q2 := by rw [← hq2, bne, Bool.not_not]
            refine hide ((sign_eq hD hL e1 e2).trans ?_)
            by_cases h0 : 0 < k
            · rw [decide_eq_true h0, Bool.true_and, Bool.not_and]
            · obtain rfl : k = 0 := by omega
              obtain rfl : c = c0 := hcc.symm.trans hc0.out
              rw [n1.out] at e1
              rw [n2.out] at e2
              rw [← e1, ← e2, Bool.not_and, ← e1, ← e2]; simp
          replace hD := hide hD
          replace hL := hide hL
          clear n1 n2 hc0
          go_wp2_with (first | (go_at_call 112; refine (r3digN_at hD.out _).mono ?_; rintro e w' ⟨rfl, rfl⟩) | (go_at_call 113; refine (r3letN_at hL.out _).mono ?_; rintro e w' ⟨rfl, rfl⟩))
          all_goals first
            | (go_ret
               refine ⟨ret_bool (bad ?_).out.symm, rfl⟩
               rw [hs.out]
               simp [*])
            | (go_round
               case rel => exact ⟨k + 1, by omega, by go_num, nxt (by rw [hs.out]; simp [*])⟩
               case measure => simp [intOf]; omega)
        · obtain rfl : k = s.size := by omega
          go_wp2
          go_ret
          exact ⟨ret_bool (by rw [HC.out, hc.out]), rfl⟩
  · rw [codeB_no hl]
    go_enter Tryz.func74, Tryz.ntmps74
    go_wp2
    all_goals try (exfalso; omega)
    all_goals
      go_ret
      exact ⟨rfl, rfl⟩
end Go.Proofs.YtgbkochjoaalhaaGreatDoor
