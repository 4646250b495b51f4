/- Walks of codes.Valid and timetableref03.Valid. No condition but the string's size. Walks of package weekset: what each function returns. Their conditions: numbers from 1 to 20 where the Go text guarantees them. Walks of packages timegrid and timetableref06, and of Valid of weekset and timetableref05: the functions of numbers. No condition. Walks of packages timegrid and timetableref06, on: weeks, fits, between, before, clock. No condition. Walks of packages timegrid and timetableref06, on: between, overlap, before, clock. No condition. -/
import Derived.Test.YtnbcaklnpflihaaGreatDoorKLib
namespace Go.Proofs.YtnbcaklnpflihaaGreatDoor
open Go.RowKit

def digN (c : Nat) : Bool := decide (48 ≤ c ∧ c ≤ 57)
def letN (c : Nat) : Bool := decide ((65 ≤ c ∧ c ≤ 90) ∨ (97 ≤ c ∧ c ≤ 122))
def dashN (c : Nat) : Bool := decide (c = 95 ∨ c = 45)
/-- May byte c stand at place j of a code. -/
def signN (j c : Nat) : Bool := digN c || letN c || (decide (0 < j) && dashN c)
/-- Do the first k bytes of a text suit a code. -/
def codeTo (s : ByteArray) : Nat → Bool
  | 0 => true
  | k + 1 => codeTo s k && signN k (s.data.toList.getD k 0).toNat
/-- Is a text a code. -/
def codeB (s : ByteArray) : Bool := decide (1 ≤ s.size ∧ s.size ≤ 16) && codeTo s s.size
theorem codeTo_false {s : ByteArray} {k : Nat} (h : signN k (s.data.toList.getD k 0).toNat = false) : ∀ n, k < n → codeTo s n = false
  | 0, hk => by omega
  | n + 1, hk => by
    unfold codeTo
    by_cases e : k = n
    · subst e; rw [h, Bool.and_false]
    · rw [codeTo_false h n (by omega), Bool.false_and]
theorem codeB_no {s : ByteArray} (h : ¬ (1 ≤ s.size ∧ s.size ≤ 16)) : codeB s = false := by
  unfold codeB; rw [decide_eq_false h, Bool.false_and]
theorem codeB_yes {s : ByteArray} (h : 1 ≤ s.size ∧ s.size ≤ 16) : codeB s = codeTo s s.size := by
  unfold codeB; rw [decide_eq_true h, Bool.true_and]
theorem byte_at (s : ByteArray) (k : Nat) (h : k < s.size) : s.data.toList.getD k 0 = s[k] := by
  rw [List.getD_eq_getElem?_getD, List.getElem?_eq_getElem (by rw [Array.length_toList]; exact h)]; rfl
theorem codeB_bad {s : ByteArray} {k : Nat} (h : k < s.size) (hb : signN k s[k].toNat = false) : codeB s = false := by
  unfold codeB
  rw [codeTo_false (k := k) (by rw [byte_at s k h]; exact hb) s.size h, Bool.and_false]
theorem codeTo_next {s : ByteArray} {k : Nat} (h : k < s.size) (h1 : codeTo s k = true) (hb : signN k s[k].toNat = true) : codeTo s (k + 1) = true := by
  unfold codeTo; rw [h1, byte_at s k h, hb]; rfl

-- <dig>
set_option maxHeartbeats 400000 in
theorem cdigit_walk (c : Nat) (w : World) : Calls Tryz.prog 63 #[.int .u8 c] w fun e w' => e = .returned (.bool (digN c)) ∧ w = w' := by
  by_cases h : 48 ≤ c ∧ c ≤ 57
  · rw [show digN c = true from decide_eq_true h]
    obtain ⟨h1, h2⟩ := h
    go_enter Tryz.func63, Tryz.ntmps63
    go_wp2
    all_goals
      go_ret
      exact ⟨ret_bool (by simp; try omega), rfl⟩
  · rw [show digN c = false from decide_eq_false h]
    go_enter Tryz.func63, Tryz.ntmps63
    go_wp2
    all_goals
      go_ret
      exact ⟨ret_bool (by simp; try omega), rfl⟩
-- </dig>
set_option maxHeartbeats 400000 in
theorem r3digit_walk (c : Nat) (w : World) : Calls Tryz.prog 68 #[.int .u8 c] w fun e w' => e = .returned (.bool (digN c)) ∧ w = w' := by
  by_cases h : 48 ≤ c ∧ c ≤ 57
  · rw [show digN c = true from decide_eq_true h]
    obtain ⟨h1, h2⟩ := h
    go_enter Tryz.func68, Tryz.ntmps68
    go_wp2
    all_goals
      go_ret
      exact ⟨ret_bool (by simp; try omega), rfl⟩
  · rw [show digN c = false from decide_eq_false h]
    go_enter Tryz.func68, Tryz.ntmps68
    go_wp2
    all_goals
      go_ret
      exact ⟨ret_bool (by simp; try omega), rfl⟩

-- <let>
set_option maxHeartbeats 400000 in
theorem cletter_walk (c : Nat) (w : World) : Calls Tryz.prog 64 #[.int .u8 c] w fun e w' => e = .returned (.bool (letN c)) ∧ w = w' := by
  by_cases h : (65 ≤ c ∧ c ≤ 90) ∨ (97 ≤ c ∧ c ≤ 122)
  · rw [show letN c = true from decide_eq_true h]
    go_enter Tryz.func64, Tryz.ntmps64
    go_wp2
    all_goals
      go_ret
      exact ⟨ret_bool (by simp; try omega), rfl⟩
  · rw [show letN c = false from decide_eq_false h]
    go_enter Tryz.func64, Tryz.ntmps64
    go_wp2
    all_goals
      go_ret
      exact ⟨ret_bool (by simp; try omega), rfl⟩
-- </let>
set_option maxHeartbeats 400000 in
theorem r3letter_walk (c : Nat) (w : World) : Calls Tryz.prog 69 #[.int .u8 c] w fun e w' => e = .returned (.bool (letN c)) ∧ w = w' := by
  by_cases h : (65 ≤ c ∧ c ≤ 90) ∨ (97 ≤ c ∧ c ≤ 122)
  · rw [show letN c = true from decide_eq_true h]
    go_enter Tryz.func69, Tryz.ntmps69
    go_wp2
    all_goals
      go_ret
      exact ⟨ret_bool (by simp; try omega), rfl⟩
  · rw [show letN c = false from decide_eq_false h]
    go_enter Tryz.func69, Tryz.ntmps69
    go_wp2
    all_goals
      go_ret
      exact ⟨ret_bool (by simp; try omega), rfl⟩

theorem digN_at {c : Nat} {b : Bool} (h : digN c = b) (w : World) : Calls Tryz.prog 63 #[.int .u8 c] w fun e w' => e = .returned (.bool b) ∧ w = w' := by
  have := cdigit_walk c w; rw [h] at this; exact this
theorem letN_at {c : Nat} {b : Bool} (h : letN c = b) (w : World) : Calls Tryz.prog 64 #[.int .u8 c] w fun e w' => e = .returned (.bool b) ∧ w = w' := by
  have := cletter_walk c w; rw [h] at this; exact this
theorem r3digN_at {c : Nat} {b : Bool} (h : digN c = b) (w : World) : Calls Tryz.prog 68 #[.int .u8 c] w fun e w' => e = .returned (.bool b) ∧ w = w' := by
  have := r3digit_walk c w; rw [h] at this; exact this
theorem r3letN_at {c : Nat} {b : Bool} (h : letN c = b) (w : World) : Calls Tryz.prog 69 #[.int .u8 c] w fun e w' => e = .returned (.bool b) ∧ w = w' := by
  have := r3letter_walk c w; rw [h] at this; exact this

theorem sign_eq {j c : Nat} {D L q1 q2 : Bool} (hD : digN c = D) (hL : letN c = L) (h1 : ((c : Int) == 95) = q1) (h2 : ((c : Int) == 45) = q2) : signN j c = (D || L || (decide (0 < j) && (q1 || q2))) := by
  have e : dashN c = (q1 || q2) := by
    rw [← h1, ← h2, Bool.eq_iff_iff]; simp [dashN]; omega
  unfold signN
  rw [hD, hL, e]
set_option maxHeartbeats 4000000 in
theorem cvalid_walk (s : ByteArray) (w : World) : Calls Tryz.prog 30 #[.string s] w fun e w' => e = .returned (.bool (codeB s)) ∧ w = w' := by
  by_cases hl : 1 ≤ s.size ∧ s.size ≤ 16
  · obtain ⟨l1, l2⟩ := hl
    have HC := hide (codeB_yes ⟨l1, l2⟩)
    go_enter Tryz.func30, Tryz.ntmps30
    go_wp2
    all_goals try (exfalso; omega)
    go_loop [15] (fun i => ∃ k : Nat, k ≤ s.size ∧ i = .int .i64 k ∧ Hid (codeTo s k = true)) (fun i => s.size - (intOf i).toNat)
    case atStart => exact ⟨0, Nat.zero_le _, rfl, rfl⟩
    case round =>
      obtain ⟨k, hk, rfl, hc⟩ := hrel
      by_cases hlt : k < s.size
      · have nxt := fun h => hide (codeTo_next hlt hc.out h)
        have bad := fun h => hide (codeB_bad hlt h)
        obtain ⟨c, hcc⟩ : ∃ c, s[k].toNat = c := ⟨_, rfl⟩
        rw [hcc] at nxt bad
        clear HC
        obtain ⟨D, hD⟩ : ∃ D, digN c = D := ⟨_, rfl⟩
        obtain ⟨L, hL⟩ : ∃ L, letN c = L := ⟨_, rfl⟩
        obtain ⟨q1, hq1⟩ : ∃ q1, ((c : Int) == 95) = q1 := ⟨_, rfl⟩
        obtain ⟨q2, hq2⟩ : ∃ q2, ((c : Int) == 45) = q2 := ⟨_, rfl⟩
        have hs : Hid (signN k c = (D || L || (decide (0 < k) && (q1 || q2)))) := hide (sign_eq hD hL hq1 hq2)
        replace hD := hide hD
        replace hL := hide hL
        by_cases h0 : 0 < k
        all_goals
          first | rw [decide_eq_true h0] at hs | rw [decide_eq_false h0] at hs
          go_wp2_with (first | (go_at_call 63; refine (digN_at hD.out _).mono ?_; rintro e w' ⟨rfl, rfl⟩) | (go_at_call 64; refine (letN_at hL.out _).mono ?_; rintro e w' ⟨rfl, rfl⟩))
          all_goals first
            | (go_ret
               refine ⟨ret_bool (bad ?_).out.symm, rfl⟩
               rw [hs.out]
               first
                 | (simp [*]; done)
                 | (have h' : (!q2) = true := by assumption
                    cases q2 <;> simp_all))
            | (go_round
               case rel => exact ⟨k + 1, by omega, by go_num, nxt (by rw [hs.out]; first | (simp [*]; done) | (rw [show q2 = true from by cases q2 with | false => exact absurd (show (!false) = false from by assumption) (by decide) | true => rfl]; simp))⟩
               case measure => simp [intOf]; omega)
      · obtain rfl : k = s.size := by omega
        go_wp2
        go_ret
        exact ⟨ret_bool (by rw [HC.out, hc.out]), rfl⟩
  · rw [codeB_no hl]
    go_enter Tryz.func30, Tryz.ntmps30
    go_wp2
    all_goals try (exfalso; omega)
    all_goals
      go_ret
      exact ⟨rfl, rfl⟩
theorem head_dash {s : ByteArray} (h : 0 < s.size) (hb : s[0].toNat = 95 ∨ s[0].toNat = 45) : codeB s = false := by
  refine codeB_bad h ?_
  unfold signN digN letN
  have h1 : ¬ (48 ≤ s[0].toNat ∧ s[0].toNat ≤ 57) := by omega
  have h2 : ¬ ((65 ≤ s[0].toNat ∧ s[0].toNat ≤ 90) ∨ (97 ≤ s[0].toNat ∧ s[0].toNat ≤ 122)) := by omega
  rw [decide_eq_false h1, decide_eq_false h2]
  simp
set_option maxHeartbeats 4000000 in
theorem r3valid_walk (s : ByteArray) (w : World) : Calls Tryz.prog 33 #[.string s] w fun e w' => e = .returned (.bool (codeB s)) ∧ w = w' := by
  by_cases hl : 1 ≤ s.size ∧ s.size ≤ 16
  · obtain ⟨l1, l2⟩ := hl
    have HC := hide (codeB_yes ⟨l1, l2⟩)
    have l3 : 1 ≤ (s.size : Int) := by omega
    have l4 : (s.size : Int) ≤ 16 := by omega
    have l0 : 0 < s.size := by omega
    by_cases hd : s[0].toNat = 95 ∨ s[0].toNat = 45
    · rw [head_dash l0 hd]
      clear HC
      go_enter Tryz.func33, Tryz.ntmps33
      go_wp2
      all_goals try (exfalso; omega)
      all_goals
        go_ret
        exact ⟨rfl, rfl⟩
    · obtain ⟨c0, hc0⟩ : ∃ c0, s[0].toNat = c0 := ⟨_, rfl⟩
      rw [hc0] at hd
      have n1 : ((c0 : Int) == 95) = false := by simp; omega
      have n2 : ((c0 : Int) == 45) = false := by simp; omega
      go_enter Tryz.func33, Tryz.ntmps33
      go_wp2
      all_goals try (exfalso; omega)
      clear hd
      replace n1 := hide n1
      replace n2 := hide n2
      replace hc0 := hide hc0
      go_loop [3] (fun i => ∃ k : Nat, k ≤ s.size ∧ i = .int .i64 k ∧ Hid (codeTo s k = true)) (fun i => s.size - (intOf i).toNat)
      case atStart => exact ⟨0, Nat.zero_le _, rfl, rfl⟩
      case round =>
        obtain ⟨k, hk, rfl, hc⟩ := hrel
        by_cases hlt : k < s.size
        · have nxt := fun h => hide (codeTo_next hlt hc.out h)
          have bad := fun h => hide (codeB_bad hlt h)
          obtain ⟨c, hcc⟩ : ∃ c, s[k].toNat = c := ⟨_, rfl⟩
          rw [hcc] at nxt bad
          clear HC
          obtain ⟨D, hD⟩ : ∃ D, digN c = D := ⟨_, rfl⟩
          obtain ⟨L, hL⟩ : ∃ L, letN c = L := ⟨_, rfl⟩
          obtain ⟨q1, hq1⟩ : ∃ q1, ((c : Int) != 95) = q1 := ⟨_, rfl⟩
          obtain ⟨q2, hq2⟩ : ∃ q2, ((c : Int) != 45) = q2 := ⟨_, rfl⟩
          have hs : Hid (signN k c = (D || L || !(q1 && q2))) := by
            have e1 : ((c : Int) == 95) = !q1 := by rw [← hq1, bne, Bool.not_not]
            have e2 : ((c : Int) == 45) = !q2 := by rw [← hq2, bne, Bool.not_not]
            refine hide ((sign_eq hD hL e1 e2).trans ?_)
            by_cases h0 : 0 < k
            · rw [decide_eq_true h0, Bool.true_and, Bool.not_and]
            · obtain rfl : k = 0 := by omega
              obtain rfl : c = c0 := hcc.symm.trans hc0.out
              rw [n1.out] at e1
              rw [n2.out] at e2
              rw [← e1, ← e2, Bool.not_and, ← e1, ← e2]; simp
          replace hD := hide hD
          replace hL := hide hL
          clear n1 n2 hc0
          go_wp2_with (first | (go_at_call 68; refine (r3digN_at hD.out _).mono ?_; rintro e w' ⟨rfl, rfl⟩) | (go_at_call 69; refine (r3letN_at hL.out _).mono ?_; rintro e w' ⟨rfl, rfl⟩))
          all_goals first
            | (go_ret
               refine ⟨ret_bool (bad ?_).out.symm, rfl⟩
               rw [hs.out]
               simp [*])
            | (go_round
               case rel => exact ⟨k + 1, by omega, by go_num, nxt (by rw [hs.out]; simp [*])⟩
               case measure => simp [intOf]; omega)
        · obtain rfl : k = s.size := by omega
          go_wp2
          go_ret
          exact ⟨ret_bool (by rw [HC.out, hc.out]), rfl⟩
  · rw [codeB_no hl]
    go_enter Tryz.func33, Tryz.ntmps33
    go_wp2
    all_goals try (exfalso; omega)
    all_goals
      go_ret
      exact ⟨rfl, rfl⟩
end Go.Proofs.YtnbcaklnpflihaaGreatDoor

namespace Go.Proofs.YtnbcaklnpflihaaGreatDoor
open Go.RowKit

theorem span_empty (a k : Nat) (h : k < a) : maskTo (spanP a) k = 0 := maskTo_none fun i hi => by simp [spanP]; omega
set_option maxHeartbeats 400000 in
theorem span_walk (a b : Int) (ha : 1 ≤ a) (ha2 : a ≤ 21) (hb0 : 0 ≤ b) (hb : b ≤ 20) (w : World) :
    Calls Tryz.prog 159 #[.int .i64 a, .int .i64 b] w fun e w' => e = .returned (.int .i64 (spanN a.toNat b.toNat)) ∧ w = w' := by
  obtain ⟨a, rfl⟩ := Int.eq_ofNat_of_zero_le (by omega : 0 ≤ a)
  obtain ⟨b, rfl⟩ := Int.eq_ofNat_of_zero_le hb0
  rw [Int.toNat_natCast, Int.toNat_natCast]
  go_enter Tryz.func159, Tryz.ntmps159
  go_wp2
  go_loop [5, 6] (fun s i => ∃ k : Nat, a ≤ k + 1 ∧ (k ≤ b ∨ k + 1 = a) ∧ i = .int .i64 ((k : Int) + 1) ∧ s = .int .i64 (maskTo (spanP a) k)) (fun _ i => (21 - intOf i).toNat)
  case atStart => exact ⟨a - 1, by omega, by omega, by congr 1; omega, by rw [span_empty _ _ (by omega)]; rfl⟩
  case round =>
    obtain ⟨k, h1, h2, rfl, rfl⟩ := hrel
    by_cases hlt : k < b
    · have HS := hide (or_step (spanP a) k (by omega) (by simp [spanP]; omega))
      go_wp2
      go_round
      case rel => exact ⟨k + 1, by omega, by omega, by go_num, by rw [HS.out]⟩
      case measure => simp [intOf]; omega
    · have HS : Hid (spanN a b = maskTo (spanP a) k) := by
        rcases h2 with h2 | h2
        · have : k = b := by omega
          subst this; rfl
        · unfold spanN
          rw [span_empty a k (by omega), span_empty a b (by omega)]; rfl
      go_wp2
      go_ret
      exact ⟨ret_int (by rw [HS.out]), rfl⟩

theorem every_yes (a k : Nat) (h : a ≤ k + 1) (hp : (k + 1 - a) % 2 = 0) : everyP a k = true := by simp [everyP, h, hp]
theorem every_no (a k : Nat) (hp : (k + 1 - a) % 2 = 1) : everyP a k = false := by simp [everyP, hp]
set_option maxHeartbeats 400000 in
theorem every_walk (a b : Int) (ha : 1 ≤ a) (ha2 : a ≤ 2) (hb0 : 1 ≤ b) (hb : b ≤ 20) (w : World) :
    Calls Tryz.prog 160 #[.int .i64 a, .int .i64 b] w fun e w' => e = .returned (.int .i64 (everyN a.toNat b.toNat)) ∧ w = w' := by
  obtain ⟨a, rfl⟩ := Int.eq_ofNat_of_zero_le (by omega : 0 ≤ a)
  obtain ⟨b, rfl⟩ := Int.eq_ofNat_of_zero_le (by omega : 0 ≤ b)
  rw [Int.toNat_natCast, Int.toNat_natCast]
  go_enter Tryz.func160, Tryz.ntmps160
  go_wp2
  go_loop [5, 6] (fun s i => ∃ k : Nat, a ≤ k + 1 ∧ k ≤ b + 1 ∧ (k + 1 - a) % 2 = 0 ∧ i = .int .i64 ((k : Int) + 1) ∧ s = .int .i64 (maskTo (everyP a) k)) (fun _ i => (23 - intOf i).toNat)
  case atStart => exact ⟨a - 1, by omega, by omega, by omega, by congr 1; omega, by rw [maskTo_none (fun i hi => by simp [everyP]; omega)]; rfl⟩
  case round =>
    obtain ⟨k, h1, h2, h3, rfl, rfl⟩ := hrel
    have H3 := hide h3
    clear h3
    by_cases hlt : k < b
    · have HS := hide (or_step (everyP a) k (by omega) (every_yes a k h1 H3.out))
      have HT := hide (maskTo_no (everyP a) (k + 1) (every_no a (k + 1) (by have := H3.out; omega)))
      go_wp2
      go_round
      case rel => exact ⟨k + 2, by omega, by omega, by have := H3.out; omega, by go_num, by rw [HS.out, HT.out]⟩
      case measure => simp [intOf]; omega
    · have HS : Hid (everyN a b = maskTo (everyP a) k) := by
        have hk : k = b ∨ k = b + 1 := by omega
        rcases hk with rfl | rfl
        · rfl
        · exact (maskTo_no _ _ (every_no a b (by have := H3.out; omega))).symm
      go_wp2
      go_ret
      exact ⟨ret_int (by rw [HS.out]), rfl⟩

/-- The five words, as the call lays them. -/
def wordCells (n : Nat) : Array Value :=
  #[.string ⟨#[97, 108, 108]⟩, .int .i64 (spanN 1 n), .string ⟨#[111, 100, 100]⟩, .int .i64 (everyN 1 n), .string ⟨#[101, 118, 101, 110]⟩, .int .i64 (everyN 2 n),
    .string ⟨#[102, 105, 114, 115, 116]⟩, .int .i64 (spanN 1 ((n + 1) / 2)), .string ⟨#[115, 101, 99, 111, 110, 100]⟩, .int .i64 (spanN ((n + 1) / 2 + 1) n)]
set_option maxHeartbeats 400000 in
theorem words_walk (n : Int) (h1 : 1 ≤ n) (h2 : n ≤ 20) (w : World) :
    Calls Tryz.prog 129 #[.int .i64 n] w fun e w' => e = .returned (.slice (some ⟨w.heap.size, 0, none⟩) 5 5) ∧ w.alloc (.cells (wordCells n.toNat) 166) = w' := by
  obtain ⟨n, rfl⟩ := Int.eq_ofNat_of_zero_le (by omega : 0 ≤ n)
  rw [Int.toNat_natCast]
  go_enter Tryz.func129, Tryz.ntmps129
  go_wp2_with (first | (go_at_call 159; refine (span_walk _ _ (by omega) (by omega) (by omega) (by omega) _).mono ?_; rintro e w' ⟨rfl, rfl⟩) | (go_at_call 160; refine (every_walk _ _ (by omega) (by omega) (by omega) (by omega) _).mono ?_; rintro e w' ⟨rfl, rfl⟩))
  go_ret
  exact ⟨rfl, rfl⟩

end Go.Proofs.YtnbcaklnpflihaaGreatDoor

namespace Go.Proofs.YtnbcaklnpflihaaGreatDoor
open Go.RowKit

def validB (s n : Int) : Bool := decide (1 ≤ n ∧ n ≤ 20 ∧ 1 ≤ s ∧ s < 2 ^ n.toNat)
theorem wrap64_powZ (n : Int) (h : n ≤ 20) : wrap64 ((2 : Int) ^ n.toNat) = (2 : Int) ^ n.toNat := by
  rw [wrap64_pow _ (by omega)]; simp
theorem validB_of {s n : Int} (h1 : 1 ≤ n) (h2 : n ≤ 20) (h3 : 1 ≤ s) : decide (s < wrap64 ((2 : Int) ^ n.toNat)) = validB s n := by
  rw [wrap64_powZ n h2]; simp [validB, h1, h2, h3]
theorem validB_no {s n : Int} (h : ¬ (1 ≤ n ∧ n ≤ 20 ∧ 1 ≤ s)) : validB s n = false := by
  simp only [validB, decide_eq_false_iff_not]; omega
theorem validB_iff {s n : Int} : validB s n = true ↔ 1 ≤ n ∧ n ≤ 20 ∧ 1 ≤ s ∧ s < 2 ^ n.toNat := by simp [validB]

set_option maxHeartbeats 400000 in
theorem wsValid_walk (s n : Int) (w : World) :
    Calls Tryz.prog 100 #[.int .i64 s, .int .i64 n] w fun e w' => e = .returned (.bool (validB s n)) ∧ w = w' := by
  go_enter Tryz.func100, Tryz.ntmps100
  go_wp2
  all_goals
    go_ret
    refine ⟨ret_bool ?_, rfl⟩
  all_goals first | exact validB_of ‹_› ‹_› ‹_› | exact (validB_no (by omega)).symm
set_option maxHeartbeats 400000 in
theorem r5Valid_walk (s n : Int) (w : World) :
    Calls Tryz.prog 72 #[.int .i64 s, .int .i64 n] w fun e w' => e = .returned (.bool (validB s n)) ∧ w = w' := by
  go_enter Tryz.func72, Tryz.ntmps72
  go_wp2
  all_goals
    go_ret
    refine ⟨ret_bool ?_, rfl⟩
  all_goals first | exact validB_of ‹_› ‹_› ‹_› | exact (validB_no (by omega)).symm

def gridV (d s b m : Int) : Int := if d < 1 ∨ 7 < d ∨ s < 1 ∨ 24 < s ∨ b < 0 ∨ 1440 ≤ b ∨ m < 5 ∨ 120 < m ∨ 1440 < b + s * m then 3 else 0
theorem gridV_yes {d s b m : Int} (h : d < 1 ∨ 7 < d ∨ s < 1 ∨ 24 < s ∨ b < 0 ∨ 1440 ≤ b ∨ m < 5 ∨ 120 < m ∨ 1440 < b + s * m) : gridV d s b m = 3 := if_pos h
theorem gridV_no {d s b m : Int} (h : ¬ (d < 1 ∨ 7 < d ∨ s < 1 ∨ 24 < s ∨ b < 0 ∨ 1440 ≤ b ∨ m < 5 ∨ 120 < m ∨ 1440 < b + s * m)) : gridV d s b m = 0 := if_neg h
theorem prod_bd {s m : Int} (h1 : 1 ≤ s) (h2 : s ≤ 24) (h3 : 5 ≤ m) (h4 : m ≤ 120) : 0 ≤ s * m ∧ s * m ≤ 2880 := by
  have a : s * m ≤ 24 * m := Int.mul_le_mul_of_nonneg_right h2 (by omega)
  have b : 0 ≤ s * m := Int.mul_nonneg (by omega) (by omega)
  omega
set_option maxHeartbeats 1000000 in
theorem tgValid_walk (d s b m : Int) (w : World) :
    Calls Tryz.prog 62 #[.agg #[.int .i64 d, .int .i64 s, .int .i64 b, .int .i64 m]] w fun e w' => e = .returned (.int .i64 (gridV d s b m)) ∧ Below w.heap.size w w' := by
  by_cases hg : 1 ≤ d ∧ d ≤ 7 ∧ 1 ≤ s ∧ s ≤ 24 ∧ 0 ≤ b ∧ b < 1440 ∧ 5 ≤ m ∧ m ≤ 120
  · obtain ⟨h1, h2, h3, h4, h5, h6, h7, h8⟩ := hg
    have hp := prod_bd h3 h4 h7 h8
    obtain ⟨hp1, hp2⟩ := hp
    go_enter Tryz.func62, Tryz.ntmps62
    go_wp2
    all_goals
      go_ret
      refine ⟨ret_int ?_, (by repeat (first | exact Below.refl _ _ | assumption | (refine Below.alloc ?_ (by simp) _) | refine Below.drew ?_))⟩
      first | exact (gridV_yes (by omega)).symm | exact (gridV_no (by omega)).symm
  · rw [gridV_yes (by omega)]
    go_enter Tryz.func62, Tryz.ntmps62
    go_wp2
    all_goals try (exfalso; omega)
    all_goals
      go_ret
      exact ⟨rfl, (by repeat (first | exact Below.refl _ _ | assumption | (refine Below.alloc ?_ (by simp) _) | refine Below.drew ?_))⟩
set_option maxHeartbeats 1000000 in
theorem r6Valid_walk (d s b m : Int) (w : World) :
    Calls Tryz.prog 48 #[.agg #[.int .i64 d, .int .i64 s, .int .i64 b, .int .i64 m]] w fun e w' => e = .returned (.int .i64 (gridV d s b m)) ∧ Below w.heap.size w w' := by
  by_cases hg : 1 ≤ d ∧ d ≤ 7 ∧ 1 ≤ s ∧ s ≤ 24 ∧ 0 ≤ b ∧ b < 1440 ∧ 5 ≤ m ∧ m ≤ 120
  · obtain ⟨h1, h2, h3, h4, h5, h6, h7, h8⟩ := hg
    have hp := prod_bd h3 h4 h7 h8
    obtain ⟨hp1, hp2⟩ := hp
    go_enter Tryz.func48, Tryz.ntmps48
    go_wp2
    all_goals
      go_ret
      refine ⟨ret_int ?_, (by repeat (first | exact Below.refl _ _ | assumption | (refine Below.alloc ?_ (by simp) _) | refine Below.drew ?_))⟩
      first | exact (gridV_yes (by omega)).symm | exact (gridV_no (by omega)).symm
  · rw [gridV_yes (by omega)]
    go_enter Tryz.func48, Tryz.ntmps48
    go_wp2
    all_goals try (exfalso; omega)
    all_goals
      go_ret
      exact ⟨rfl, (by repeat (first | exact Below.refl _ _ | assumption | (refine Below.alloc ?_ (by simp) _) | refine Below.drew ?_))⟩

def soundB (a b c d : Int) : Bool := validB a 20 && decide (0 ≤ b ∧ b < 7 ∧ 0 ≤ c ∧ 1 ≤ d ∧ c + d ≤ 24)
theorem soundB_no {a b c d : Int} (h : ¬ (0 ≤ b ∧ b < 7 ∧ 0 ≤ c ∧ 1 ≤ d ∧ c + d ≤ 24)) : soundB a b c d = false := by simp only [soundB, decide_eq_false h, Bool.and_false]
theorem soundB_no' {a b c d : Int} (h : validB a 20 = false) : soundB a b c d = false := by simp only [soundB, h, Bool.false_and]
theorem soundB_dec {a b c d : Int} {p : Prop} [Decidable p] (h : validB a 20 = true) (hp : p ↔ (0 ≤ b ∧ b < 7 ∧ 0 ≤ c ∧ 1 ≤ d ∧ c + d ≤ 24)) : soundB a b c d = decide p := by
  simp only [soundB, h, Bool.true_and]; exact decide_eq_decide.2 hp.symm
theorem soundB_parts {a b c d : Int} (h : soundB a b c d = true) : (1 ≤ a ∧ a < 1048576) ∧ 0 ≤ b ∧ b < 7 ∧ 0 ≤ c ∧ 1 ≤ d ∧ c + d ≤ 24 := by
  simp only [soundB, Bool.and_eq_true, decide_eq_true_eq] at h
  have := validB_iff.1 h.1
  exact ⟨⟨this.2.2.1, by have := this.2.2.2; simpa using this⟩, h.2⟩
set_option maxHeartbeats 1000000 in
theorem tgSound_walk (a b c d : Int) (w : World) :
    Calls Tryz.prog 99 #[.agg #[.int .i64 a, .int .i64 b, .int .i64 c, .int .i64 d]] w fun e w' => e = .returned (.bool (soundB a b c d)) ∧ Below w.heap.size w w' := by
  go_enter Tryz.func99, Tryz.ntmps99
  go_wp2_with (go_at_call 100; refine (wsValid_walk _ _ _).mono ?_; rintro e w' ⟨rfl, rfl⟩)
  all_goals go_ret
  all_goals
    refine ⟨ret_bool ?_, (by repeat (first | exact Below.refl _ _ | assumption | (refine Below.alloc ?_ (by simp) _) | refine Below.drew ?_))⟩
    first | exact (soundB_no (by omega)).symm | exact (soundB_no' (by assumption)).symm | exact (soundB_dec (by assumption) (by omega)).symm
set_option maxHeartbeats 1000000 in
theorem r6Sound_walk (a b c d : Int) (w : World) :
    Calls Tryz.prog 71 #[.agg #[.int .i64 a, .int .i64 b, .int .i64 c, .int .i64 d]] w fun e w' => e = .returned (.bool (soundB a b c d)) ∧ Below w.heap.size w w' := by
  go_enter Tryz.func71, Tryz.ntmps71
  go_wp2_with (go_at_call 72; refine (r5Valid_walk _ _ _).mono ?_; rintro e w' ⟨rfl, rfl⟩)
  all_goals go_ret
  all_goals
    refine ⟨ret_bool ?_, (by repeat (first | exact Below.refl _ _ | assumption | (refine Below.alloc ?_ (by simp) _) | refine Below.drew ?_))⟩
    first | exact (soundB_no (by omega)).symm | exact (soundB_no' (by assumption)).symm | exact (soundB_dec (by assumption) (by omega)).symm
end Go.Proofs.YtnbcaklnpflihaaGreatDoor

namespace Go.Proofs.YtnbcaklnpflihaaGreatDoor
open Go.RowKit

def weekB (d s b m n : Int) : Bool := decide (gridV d s b m = 0) && decide (1 ≤ n ∧ n ≤ 20)
theorem weekB_no {d s b m n : Int} (h : ¬ (1 ≤ n ∧ n ≤ 20)) : weekB d s b m n = false := by simp only [weekB, decide_eq_false h, Bool.and_false]
theorem weekB_no' {d s b m n : Int} (h : ¬ gridV d s b m = 0) : weekB d s b m n = false := by simp only [weekB, decide_eq_false h, Bool.false_and]
theorem weekB_dec {d s b m n : Int} {p : Prop} [Decidable p] (h : gridV d s b m = 0) (hp : p ↔ (1 ≤ n ∧ n ≤ 20)) : weekB d s b m n = decide p := by
  simp only [weekB, decide_eq_true h, Bool.true_and]; exact decide_eq_decide.2 hp.symm
theorem gridV_eq (d s b m : Int) : gridV d s b m = 0 ∨ gridV d s b m = 3 := by unfold gridV; split <;> simp
set_option maxHeartbeats 1000000 in
theorem tgWeek_walk (d s b m n : Int) (w : World) :
    Calls Tryz.prog 29 #[.agg #[.int .i64 d, .int .i64 s, .int .i64 b, .int .i64 m], .int .i64 n] w fun e w' => e = .returned (.bool (weekB d s b m n)) ∧ Below w.heap.size w w' := by
  go_enter Tryz.func29, Tryz.ntmps29
  go_wp2_with (go_at_call 62; refine (tgValid_walk _ _ _ _ _).mono ?_; rintro e w1 ⟨rfl, hb1⟩)
  all_goals go_ret
  all_goals
    refine ⟨ret_bool ?_, (by repeat (first | exact Below.refl _ _ | refine ext_alloc ?_ _ | refine ext_drewN ?_ _ | refine ext_drew ?_ | refine ext_trans ?_ (by assumption)))⟩
    first | exact (weekB_no (by omega)).symm | exact (weekB_no' (by assumption)).symm | exact (weekB_dec (by assumption) (by omega)).symm
set_option maxHeartbeats 1000000 in
theorem r6Usable_walk (d s b m n : Int) (w : World) :
    Calls Tryz.prog 18 #[.agg #[.int .i64 d, .int .i64 s, .int .i64 b, .int .i64 m], .int .i64 n] w fun e w' => e = .returned (.bool (weekB d s b m n)) ∧ Below w.heap.size w w' := by
  go_enter Tryz.func18, Tryz.ntmps18
  go_wp2_with (go_at_call 48; refine (r6Valid_walk _ _ _ _ _).mono ?_; rintro e w1 ⟨rfl, hb1⟩)
  all_goals go_ret
  all_goals
    refine ⟨ret_bool ?_, (by repeat (first | exact Below.refl _ _ | refine ext_alloc ?_ _ | refine ext_drewN ?_ _ | refine ext_drew ?_ | refine ext_trans ?_ (by assumption)))⟩
    first | exact (weekB_no (by omega)).symm | exact (weekB_no' (by assumption)).symm | exact (weekB_dec (by assumption) (by omega)).symm

/-- What Fits returns. -/
def fitsV (d s b m n a1 a2 a3 a4 : Int) : Int :=
  if weekB d s b m n = false then 1 else if soundB a1 a2 a3 a4 = false ∨ validB a1 n = false ∨ d ≤ a2 ∨ s < a3 + a4 then 14 else 0
set_option maxHeartbeats 2000000 in
theorem tgFits_walk (d s b m n a1 a2 a3 a4 : Int) (w : World) :
    Calls Tryz.prog 67 #[.agg #[.int .i64 d, .int .i64 s, .int .i64 b, .int .i64 m], .int .i64 n, .agg #[.int .i64 a1, .int .i64 a2, .int .i64 a3, .int .i64 a4]] w fun e w' => e = .returned (.int .i64 (fitsV d s b m n a1 a2 a3 a4)) ∧ Below w.heap.size w w' := by
  obtain ⟨v, hv⟩ : ∃ v, fitsV d s b m n a1 a2 a3 a4 = v := ⟨_, rfl⟩
  rw [hv]
  unfold fitsV at hv
  cases hw : weekB d s b m n
  · rw [if_pos hw] at hv
    subst hv
    go_enter Tryz.func67, Tryz.ntmps67
    go_wp2_with fail
    refine (tgWeek_walk _ _ _ _ _ _).mono ?_
    rintro e w1 ⟨rfl, hb⟩
    obtain ⟨hc, hf⟩ := bcell hb
    go_wp2
    go_ret
    exact ⟨rfl, (by repeat (first | exact Below.refl _ _ | refine ext_alloc ?_ _ | refine ext_drewN ?_ _ | refine ext_drew ?_ | refine ext_trans ?_ (by assumption)))⟩
  · rw [if_neg (by simp [hw])] at hv
    cases hs : soundB a1 a2 a3 a4
    · rw [if_pos (Or.inl hs)] at hv
      subst hv
      go_enter Tryz.func67, Tryz.ntmps67
      go_wp2_with fail
      refine (tgWeek_walk _ _ _ _ _ _).mono ?_
      rintro e w1 ⟨rfl, hb⟩
      obtain ⟨hc, hf⟩ := bcell hb
      go_wp2_with fail
      refine (tgSound_walk _ _ _ _ _).mono ?_
      rintro e w2 ⟨rfl, hbn⟩
      replace hb := ext_trans hb hbn
      clear hc hf hbn
      obtain ⟨hc, hf⟩ := bcell hb
      go_wp2
      go_ret
      exact ⟨rfl, (by repeat (first | exact Below.refl _ _ | refine ext_alloc ?_ _ | refine ext_drewN ?_ _ | refine ext_drew ?_ | refine ext_trans ?_ (by assumption)))⟩
    · obtain ⟨_, q1, q2, q3, q4, q5⟩ := soundB_parts hs
      cases hx : validB a1 n
      · rw [if_pos (Or.inr (Or.inl hx))] at hv
        subst hv
        go_enter Tryz.func67, Tryz.ntmps67
        go_wp2_with fail
        refine (tgWeek_walk _ _ _ _ _ _).mono ?_
        rintro e w1 ⟨rfl, hb⟩
        obtain ⟨hc, hf⟩ := bcell hb
        go_wp2_with fail
        refine (tgSound_walk _ _ _ _ _).mono ?_
        rintro e w2 ⟨rfl, hbn⟩
        replace hb := ext_trans hb hbn
        clear hc hf hbn
        obtain ⟨hc, hf⟩ := bcell hb
        go_wp2_with (go_at_call 100; refine (wsValid_walk _ _ _).mono ?_; rintro e w3 ⟨rfl, rfl⟩)
        go_ret
        exact ⟨rfl, (by repeat (first | exact Below.refl _ _ | refine ext_alloc ?_ _ | refine ext_drewN ?_ _ | refine ext_drew ?_ | refine ext_trans ?_ (by assumption)))⟩
      · have hv := hide hv
        go_enter Tryz.func67, Tryz.ntmps67
        go_wp2_with fail
        refine (tgWeek_walk _ _ _ _ _ _).mono ?_
        rintro e w1 ⟨rfl, hb⟩
        obtain ⟨hc, hf⟩ := bcell hb
        go_wp2_with fail
        refine (tgSound_walk _ _ _ _ _).mono ?_
        rintro e w2 ⟨rfl, hbn⟩
        replace hb := ext_trans hb hbn
        clear hc hf hbn
        obtain ⟨hc, hf⟩ := bcell hb
        go_wp2_with (go_at_call 100; refine (wsValid_walk _ _ _).mono ?_; rintro e w3 ⟨rfl, rfl⟩)
        all_goals
          go_ret
          refine ⟨ret_int ?_, (by repeat (first | exact Below.refl _ _ | refine ext_alloc ?_ _ | refine ext_drewN ?_ _ | refine ext_drew ?_ | refine ext_trans ?_ (by assumption)))⟩
          rw [← hv.out]
          first | exact (if_pos (by omega)).symm | exact (if_neg (by rw [hs, hx]; simp; omega)).symm
set_option maxHeartbeats 2000000 in
theorem r6Fits_walk (d s b m n a1 a2 a3 a4 : Int) (w : World) :
    Calls Tryz.prog 35 #[.agg #[.int .i64 d, .int .i64 s, .int .i64 b, .int .i64 m], .int .i64 n, .agg #[.int .i64 a1, .int .i64 a2, .int .i64 a3, .int .i64 a4]] w fun e w' => e = .returned (.int .i64 (fitsV d s b m n a1 a2 a3 a4)) ∧ Below w.heap.size w w' := by
  obtain ⟨v, hv⟩ : ∃ v, fitsV d s b m n a1 a2 a3 a4 = v := ⟨_, rfl⟩
  rw [hv]
  unfold fitsV at hv
  cases hw : weekB d s b m n
  · rw [if_pos hw] at hv
    subst hv
    go_enter Tryz.func35, Tryz.ntmps35
    go_wp2_with fail
    refine (r6Usable_walk _ _ _ _ _ _).mono ?_
    rintro e w1 ⟨rfl, hb⟩
    obtain ⟨hc, hf⟩ := bcell hb
    go_wp2
    go_ret
    exact ⟨rfl, (by repeat (first | exact Below.refl _ _ | refine ext_alloc ?_ _ | refine ext_drewN ?_ _ | refine ext_drew ?_ | refine ext_trans ?_ (by assumption)))⟩
  · rw [if_neg (by simp [hw])] at hv
    cases hs : soundB a1 a2 a3 a4
    · rw [if_pos (Or.inl hs)] at hv
      subst hv
      go_enter Tryz.func35, Tryz.ntmps35
      go_wp2_with fail
      refine (r6Usable_walk _ _ _ _ _ _).mono ?_
      rintro e w1 ⟨rfl, hb⟩
      obtain ⟨hc, hf⟩ := bcell hb
      go_wp2_with fail
      refine (r6Sound_walk _ _ _ _ _).mono ?_
      rintro e w2 ⟨rfl, hbn⟩
      replace hb := ext_trans hb hbn
      clear hc hf hbn
      obtain ⟨hc, hf⟩ := bcell hb
      go_wp2
      go_ret
      exact ⟨rfl, (by repeat (first | exact Below.refl _ _ | refine ext_alloc ?_ _ | refine ext_drewN ?_ _ | refine ext_drew ?_ | refine ext_trans ?_ (by assumption)))⟩
    · obtain ⟨_, q1, q2, q3, q4, q5⟩ := soundB_parts hs
      cases hx : validB a1 n
      · rw [if_pos (Or.inr (Or.inl hx))] at hv
        subst hv
        go_enter Tryz.func35, Tryz.ntmps35
        go_wp2_with fail
        refine (r6Usable_walk _ _ _ _ _ _).mono ?_
        rintro e w1 ⟨rfl, hb⟩
        obtain ⟨hc, hf⟩ := bcell hb
        go_wp2_with fail
        refine (r6Sound_walk _ _ _ _ _).mono ?_
        rintro e w2 ⟨rfl, hbn⟩
        replace hb := ext_trans hb hbn
        clear hc hf hbn
        obtain ⟨hc, hf⟩ := bcell hb
        go_wp2_with (go_at_call 72; refine (r5Valid_walk _ _ _).mono ?_; rintro e w3 ⟨rfl, rfl⟩)
        go_ret
        exact ⟨rfl, (by repeat (first | exact Below.refl _ _ | refine ext_alloc ?_ _ | refine ext_drewN ?_ _ | refine ext_drew ?_ | refine ext_trans ?_ (by assumption)))⟩
      · have hv := hide hv
        go_enter Tryz.func35, Tryz.ntmps35
        go_wp2_with fail
        refine (r6Usable_walk _ _ _ _ _ _).mono ?_
        rintro e w1 ⟨rfl, hb⟩
        obtain ⟨hc, hf⟩ := bcell hb
        go_wp2_with fail
        refine (r6Sound_walk _ _ _ _ _).mono ?_
        rintro e w2 ⟨rfl, hbn⟩
        replace hb := ext_trans hb hbn
        clear hc hf hbn
        obtain ⟨hc, hf⟩ := bcell hb
        go_wp2_with (go_at_call 72; refine (r5Valid_walk _ _ _).mono ?_; rintro e w3 ⟨rfl, rfl⟩)
        all_goals
          go_ret
          refine ⟨ret_int ?_, (by repeat (first | exact Below.refl _ _ | refine ext_alloc ?_ _ | refine ext_drewN ?_ _ | refine ext_drew ?_ | refine ext_trans ?_ (by assumption)))⟩
          rw [← hv.out]
          first | exact (if_pos (by omega)).symm | exact (if_neg (by rw [hs, hx]; simp; omega)).symm
end Go.Proofs.YtnbcaklnpflihaaGreatDoor

namespace Go.Proofs.YtnbcaklnpflihaaGreatDoor
open Go.RowKit

/-- Do two times meet: sound, a common week, one day. -/
def meetB (a1 a2 a3 a4 b1 b2 b3 b4 : Int) : Bool := soundB a1 a2 a3 a4 && soundB b1 b2 b3 b4 && !(bits .and .i64 a1 b1 == 0) && decide (a2 = b2)
def betweenV (a1 a2 a3 a4 b1 b2 b3 b4 : Int) : Int := if meetB a1 a2 a3 a4 b1 b2 b3 b4 then max (-1) (max (b3 - a3 - a4) (a3 - b3 - b4)) else 0
theorem meetB_parts {a1 a2 a3 a4 b1 b2 b3 b4 : Int} (h : meetB a1 a2 a3 a4 b1 b2 b3 b4 = true) : soundB a1 a2 a3 a4 = true ∧ soundB b1 b2 b3 b4 = true ∧ (bits .and .i64 a1 b1 == 0) = false ∧ a2 = b2 := by
  simp only [meetB, Bool.and_eq_true, decide_eq_true_eq, Bool.not_eq_true'] at h
  exact ⟨h.1.1.1, h.1.1.2, h.1.2, h.2⟩
theorem meetB_mk {a1 a2 a3 a4 b1 b2 b3 b4 : Int} (h1 : soundB a1 a2 a3 a4 = true) (h2 : soundB b1 b2 b3 b4 = true) (h3 : (bits .and .i64 a1 b1 == 0) = false) (h4 : a2 = b2) : meetB a1 a2 a3 a4 b1 b2 b3 b4 = true := by
  subst h4; simp [meetB, h1, h2, h3]
theorem meetB_no1 {a1 a2 a3 a4 b1 b2 b3 b4 : Int} (h : soundB a1 a2 a3 a4 = false) : meetB a1 a2 a3 a4 b1 b2 b3 b4 = false := by simp [meetB, h]
theorem meetB_no2 {a1 a2 a3 a4 b1 b2 b3 b4 : Int} (h : soundB b1 b2 b3 b4 = false) : meetB a1 a2 a3 a4 b1 b2 b3 b4 = false := by simp [meetB, h]
theorem meetB_no3 {a1 a2 a3 a4 b1 b2 b3 b4 : Int} (h : (bits .and .i64 a1 b1 == 0) = true) : meetB a1 a2 a3 a4 b1 b2 b3 b4 = false := by simp [meetB, h]
theorem meetB_no4 {a1 a2 a3 a4 b1 b2 b3 b4 : Int} (h : a2 ≠ b2) : meetB a1 a2 a3 a4 b1 b2 b3 b4 = false := by simp [meetB, h]
theorem betweenV_no {a1 a2 a3 a4 b1 b2 b3 b4 : Int} (h : meetB a1 a2 a3 a4 b1 b2 b3 b4 = false) : betweenV a1 a2 a3 a4 b1 b2 b3 b4 = 0 := by simp [betweenV, h]
theorem betweenV_yes {a1 a2 a3 a4 b1 b2 b3 b4 : Int} (h : meetB a1 a2 a3 a4 b1 b2 b3 b4 = true) : betweenV a1 a2 a3 a4 b1 b2 b3 b4 = max (-1) (max (b3 - a3 - a4) (a3 - b3 - b4)) := by simp [betweenV, h]

set_option maxHeartbeats 2000000 in
theorem tgBetween_walk (a1 a2 a3 a4 b1 b2 b3 b4 : Int) (w : World) :
    Calls Tryz.prog 101 #[.agg #[.int .i64 a1, .int .i64 a2, .int .i64 a3, .int .i64 a4], .agg #[.int .i64 b1, .int .i64 b2, .int .i64 b3, .int .i64 b4]] w fun e w' => e = .returned (.tuple #[.int .i64 (betweenV a1 a2 a3 a4 b1 b2 b3 b4), .bool (meetB a1 a2 a3 a4 b1 b2 b3 b4)]) ∧ Below w.heap.size w w' := by
  cases h1 : soundB a1 a2 a3 a4
  · rw [betweenV_no (meetB_no1 h1), meetB_no1 h1]
    go_enter Tryz.func101, Tryz.ntmps101
    go_wp2_with fail
    refine (tgSound_walk _ _ _ _ _).mono ?_
    rintro e w1 ⟨rfl, hb⟩
    obtain ⟨hc, hf⟩ := bcell hb
    go_wp2
    go_ret2
    exact ⟨rfl, (by repeat (first | exact Below.refl _ _ | refine ext_alloc ?_ _ | refine ext_drewN ?_ _ | refine ext_drew ?_ | refine ext_trans ?_ (by assumption)))⟩
  cases h2 : soundB b1 b2 b3 b4
  · rw [betweenV_no (meetB_no2 h2), meetB_no2 h2]
    go_enter Tryz.func101, Tryz.ntmps101
    go_wp2_with fail
    refine (tgSound_walk _ _ _ _ _).mono ?_
    rintro e w1 ⟨rfl, hb⟩
    obtain ⟨hc, hf⟩ := bcell hb
    go_wp2_with fail
    refine (tgSound_walk _ _ _ _ _).mono ?_
    rintro e w2 ⟨rfl, hbn⟩
    replace hb := ext_trans hb hbn
    clear hc hf hbn
    obtain ⟨hc, hf⟩ := bcell hb
    go_wp2
    go_ret2
    exact ⟨rfl, (by repeat (first | exact Below.refl _ _ | refine ext_alloc ?_ _ | refine ext_drewN ?_ _ | refine ext_drew ?_ | refine ext_trans ?_ (by assumption)))⟩
  cases h3 : (bits .and .i64 a1 b1 == 0)
  · obtain ⟨-, p1, p2, p3, p4, p5⟩ := soundB_parts h1
    obtain ⟨-, q1, q2, q3, q4, q5⟩ := soundB_parts h2
    by_cases h4 : a2 = b2
    · have hm := meetB_mk h1 h2 h3 h4
      have hB := hide (betweenV_yes hm)
      rw [hm]
      clear hm
      subst h4
      go_enter Tryz.func101, Tryz.ntmps101
      go_wp2_with fail
      refine (tgSound_walk _ _ _ _ _).mono ?_
      rintro e w1 ⟨rfl, hb⟩
      obtain ⟨hc, hf⟩ := bcell hb
      go_wp2_with fail
      refine (tgSound_walk _ _ _ _ _).mono ?_
      rintro e w2 ⟨rfl, hbn⟩
      replace hb := ext_trans hb hbn
      clear hc hf hbn
      obtain ⟨hc, hf⟩ := bcell hb
      go_wp2
      all_goals go_ret2
      all_goals refine ⟨ret_ib ?_ rfl, (by repeat (first | exact Below.refl _ _ | refine ext_alloc ?_ _ | refine ext_drewN ?_ _ | refine ext_drew ?_ | refine ext_trans ?_ (by assumption)))⟩
      all_goals rw [hB.out]
      all_goals first | rfl | omega
    · have h4' : (a2 != b2) = true := by simp [h4]
      rw [betweenV_no (meetB_no4 h4), meetB_no4 h4]
      go_enter Tryz.func101, Tryz.ntmps101
      go_wp2_with fail
      refine (tgSound_walk _ _ _ _ _).mono ?_
      rintro e w1 ⟨rfl, hb⟩
      obtain ⟨hc, hf⟩ := bcell hb
      go_wp2_with fail
      refine (tgSound_walk _ _ _ _ _).mono ?_
      rintro e w2 ⟨rfl, hbn⟩
      replace hb := ext_trans hb hbn
      clear hc hf hbn
      obtain ⟨hc, hf⟩ := bcell hb
      go_wp2
      go_ret2
      exact ⟨rfl, (by repeat (first | exact Below.refl _ _ | refine ext_alloc ?_ _ | refine ext_drewN ?_ _ | refine ext_drew ?_ | refine ext_trans ?_ (by assumption)))⟩
  · rw [betweenV_no (meetB_no3 h3), meetB_no3 h3]
    go_enter Tryz.func101, Tryz.ntmps101
    go_wp2_with fail
    refine (tgSound_walk _ _ _ _ _).mono ?_
    rintro e w1 ⟨rfl, hb⟩
    obtain ⟨hc, hf⟩ := bcell hb
    go_wp2_with fail
    refine (tgSound_walk _ _ _ _ _).mono ?_
    rintro e w2 ⟨rfl, hbn⟩
    replace hb := ext_trans hb hbn
    clear hc hf hbn
    obtain ⟨hc, hf⟩ := bcell hb
    go_wp2
    go_ret2
    exact ⟨rfl, (by repeat (first | exact Below.refl _ _ | refine ext_alloc ?_ _ | refine ext_drewN ?_ _ | refine ext_drew ?_ | refine ext_trans ?_ (by assumption)))⟩

/-- Overlap. -/
def overlapB (a1 a2 a3 a4 b1 b2 b3 b4 : Int) : Bool := meetB a1 a2 a3 a4 b1 b2 b3 b4 && decide (betweenV a1 a2 a3 a4 b1 b2 b3 b4 < 0)
set_option maxHeartbeats 1000000 in
theorem tgOverlap_walk (a1 a2 a3 a4 b1 b2 b3 b4 : Int) (w : World) :
    Calls Tryz.prog 74 #[.agg #[.int .i64 a1, .int .i64 a2, .int .i64 a3, .int .i64 a4], .agg #[.int .i64 b1, .int .i64 b2, .int .i64 b3, .int .i64 b4]] w fun e w' => e = .returned (.bool (overlapB a1 a2 a3 a4 b1 b2 b3 b4)) ∧ Below w.heap.size w w' := by
  cases hm : meetB a1 a2 a3 a4 b1 b2 b3 b4
  · rw [show overlapB a1 a2 a3 a4 b1 b2 b3 b4 = false from by simp [overlapB, hm]]
    go_enter Tryz.func74, Tryz.ntmps74
    go_wp2_with fail
    refine (tgBetween_walk _ _ _ _ _ _ _ _ _).mono ?_
    rintro e w1 ⟨rfl, hb⟩
    obtain ⟨hc, hf⟩ := bcell hb
    go_wp2
    go_ret
    exact ⟨rfl, (by repeat (first | exact Below.refl _ _ | refine ext_alloc ?_ _ | refine ext_drewN ?_ _ | refine ext_drew ?_ | refine ext_trans ?_ (by assumption)))⟩
  · rw [show overlapB a1 a2 a3 a4 b1 b2 b3 b4 = decide (betweenV a1 a2 a3 a4 b1 b2 b3 b4 < 0) from by simp [overlapB, hm]]
    go_enter Tryz.func74, Tryz.ntmps74
    go_wp2_with fail
    refine (tgBetween_walk _ _ _ _ _ _ _ _ _).mono ?_
    rintro e w1 ⟨rfl, hb⟩
    obtain ⟨hc, hf⟩ := bcell hb
    go_wp2
    go_ret
    exact ⟨rfl, (by repeat (first | exact Below.refl _ _ | refine ext_alloc ?_ _ | refine ext_drewN ?_ _ | refine ext_drew ?_ | refine ext_trans ?_ (by assumption)))⟩
/-- Before. -/
def beforeB (a1 a2 a3 a4 b1 b2 b3 b4 : Int) : Bool := soundB a1 a2 a3 a4 && soundB b1 b2 b3 b4 && decide (a2 < b2 ∨ a2 = b2 ∧ a3 + a4 ≤ b3)
end Go.Proofs.YtnbcaklnpflihaaGreatDoor
