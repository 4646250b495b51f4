/- Walks of Scanner.Number (the first digit may be 0), timetableref03.number, timetableref03.Digits. Conditions: at most 18 digits. Walk of Scanner.Number whose first digit is not 0, whether a problem is noted or not. Conditions: at most 18 digits. Walk of timetableref03.Digits where a first digit is not 0. Conditions: at most 18 digits. -/
import Derived.Test.YtdnnahdafhddlaaGreatDoorYDigits
namespace Go.Proofs.YtdnnahdafhddlaaGreatDoor
open Go.RowKit
set_option maxRecDepth 100000

theorem valTo_all (s : ByteArray) : valTo s s.size = valS s := by unfold valTo valS; rw [List.take_of_length_le (Nat.le_of_eq (ba_len s))]
theorem dig_at {s : ByteArray} {k : Nat} (h : k < s.size) (hd : digS s = true) : digN s[k].toNat = true :=
  List.all_eq_true.1 hd s[k] (List.mem_of_getElem? (by rw [List.getElem?_eq_getElem (by rw [ba_len]; exact h)]; rfl))
theorem valTo_step {s : ByteArray} {k : Nat} (h : k < s.size) (hd : digS s = true) : valTo s (k + 1) = 10 * valTo s k + (s[k].toNat - 48) ∧ 48 ≤ s[k].toNat ∧ s[k].toNat ≤ 57 ∧ valTo s k + 1 ≤ 10 ^ k := by
  have hk := dig_at h hd
  have hr : 48 ≤ s[k].toNat ∧ s[k].toNat ≤ 57 := of_decide_eq_true hk
  have ht : ((s.data.toList.take k).all fun b => digN b.toNat) = true := List.all_eq_true.2 fun b hb => List.all_eq_true.1 hd b (List.mem_of_mem_take hb)
  obtain ⟨n, hn, hb⟩ := dec_some 0 ht
  have hg : s.data.toList[k]? = some s[k] := by rw [List.getElem?_eq_getElem (by rw [ba_len]; exact h)]; rfl
  have hs := Lib.decFrom_take s.data.toList k 0 n s[k] (s[k].toNat - 48) hn hg (by unfold Lib.digitVal; rw [if_pos hr])
  unfold valTo
  rw [hs, hn]
  have hl : (s.data.toList.take k).length = k := by rw [List.length_take, ba_len]; omega
  rw [hl] at hb
  exact ⟨by show n * 10 + _ = 10 * n + _; omega, hr.1, hr.2, by show n + 1 ≤ _; omega⟩
theorem pow18 {k : Nat} (h : k ≤ 17) : 10 ^ k ≤ 100000000000000000 := Nat.le_trans (Nat.pow_le_pow_right (by omega) h) (by decide)
set_option maxHeartbeats 800000 in
theorem r3number_walk (s : ByteArray) (h18 : s.size ≤ 18) (hd : digS s = true) (w : World) :
    Calls Tryz.prog 123 #[.string s] w fun e w' => e = .returned (.int .i64 (valS s : Int)) ∧ w = w' := by
  have hall := hide (valTo_all s)
  go_enter Tryz.func123, Tryz.ntmps123
  go_wp2
  go_loop [3, 4] (fun n i => ∃ k : Nat, k ≤ s.size ∧ i = .int .i64 k ∧ n = .int .i64 (valTo s k)) (fun _ i => s.size - (intOf i).toNat)
  case atStart => exact ⟨0, Nat.zero_le _, rfl, rfl⟩
  case round =>
    obtain ⟨k, hk, rfl, rfl⟩ := hrel
    by_cases hlt : k < s.size
    · obtain ⟨hst, r1, r2, hb⟩ := valTo_step hlt hd
      have hp := pow18 (k := k) (by omega)
      obtain ⟨b, hbb⟩ : ∃ b, s[k].toNat = b := ⟨_, rfl⟩
      rw [hbb] at hst r1 r2
      obtain ⟨v, hv⟩ : ∃ v, valTo s k = v := ⟨_, rfl⟩
      rw [hv] at hst hb ⊢
      replace hst := hide hst
      have e1 : IntKind.i64.wrap (10 * (v : Int)) = 10 * (v : Int) := IntWalk.i64_in _ (by omega)
      clear hv hd
      go_wp2
      go_round
      case rel => exact ⟨k + 1, by omega, by go_num, by rw [hst.out]; go_num⟩
      case measure => simp [intOf]; omega
    · obtain rfl : k = s.size := by omega
      rw [hall.out]
      go_wp2
      go_ret
      exact ⟨rfl, rfl⟩
end Go.Proofs.YtdnnahdafhddlaaGreatDoor

namespace Go.Proofs.YtdnnahdafhddlaaGreatDoor
open Go.RowKit
set_option maxRecDepth 100000

/-- A number of at most so many digits that does not begin with 0. -/
def zeroS (s : ByteArray) : Bool := if h : 0 < s.size then decide (s[0].toNat = 48) else false
end Go.Proofs.YtdnnahdafhddlaaGreatDoor

namespace Go.Proofs.YtdnnahdafhddlaaGreatDoor
open Go.RowKit
set_option maxRecDepth 100000

/-- A number of at most so many digits that begins with 0 only where it is 0. -/
def numZ (most : Nat) (s : ByteArray) : Option Nat := if 1 < s.size ∧ zeroS s = true then none else numE most s
theorem zeroS_of {s : ByteArray} (h : 0 < s.size) : zeroS s = decide (s[0].toNat = 48) := by unfold zeroS; rw [dif_pos h]
set_option maxHeartbeats 2000000 in
theorem r3digitsT_walk (s : ByteArray) (most : Nat) (h18 : most ≤ 18) (w : World) :
    Calls Tryz.prog 191 #[.string s, .int .i64 most, .bool true] w fun e w' => e = .returned (digV (numZ most s)) ∧ w = w' := by
  by_cases h0 : 1 ≤ s.size ∧ s.size ≤ most
  · obtain ⟨h0, h1⟩ := h0
    have hmi : (s.size : Int) ≤ most := by omega
    have hz := zeroS_of (s := s) (by omega)
    by_cases hf : 1 < s.size ∧ zeroS s = true
    · rw [show numZ most s = none from if_pos hf]
      show Calls Tryz.prog 191 #[.string s, .int .i64 most, .bool true] w fun e w' => e = .returned (.tuple #[.int .i64 0, .bool false]) ∧ w = w'
      obtain ⟨hf1, hf2⟩ := hf
      rw [hf2] at hz
      have hz0 := of_decide_eq_true hz.symm
      have hb : ((s[0].toNat : Nat) : Int) = 48 := by omega
      have hi : (1 : Int) < (s.size : Int) := by omega
      clear hz hf2 hz0
      go_enter Tryz.func191, Tryz.ntmps191
      go_wp2
      all_goals try (exfalso; omega)
      all_goals
        go_ret2
        exact ⟨rfl, rfl⟩
    · rw [show numZ most s = numE most s from if_neg hf]
      have hyes : digS s = true → Hid (digV (numE most s) = .tuple #[.int .i64 (valS s : Int), .bool true]) := fun hd => hide (by rw [show numE most s = some (valS s) from if_pos ⟨h0, h1, hd⟩]; rfl)
      have hno : digS s = false → Hid (digV (numE most s) = .tuple #[.int .i64 0, .bool false]) := fun hd => hide (by rw [show numE most s = none from if_neg (fun ⟨_, _, hh⟩ => by rw [hd] at hh; cases hh)]; rfl)
      obtain ⟨V, hV⟩ : ∃ V, digV (numE most s) = V := ⟨_, rfl⟩
      rw [hV] at hyes hno ⊢
      clear hV
      have hto : ∀ k, k ≤ s.size → (∀ (j : Nat) (hj : j < k) (hj2 : j < s.size), digN s[j].toNat = true) → k = s.size → digS s = true := by
        intro k hk hall he
        refine List.all_eq_true.2 fun b hb => ?_
        obtain ⟨j, hj, rfl⟩ := List.mem_iff_getElem.1 hb
        rw [ba_len] at hj
        exact hall j (by omega) hj
      have hbad : ∀ k (hk : k < s.size), digN s[k].toNat = false → digS s = false := by
        intro k hk hf
        cases hd : digS s with
        | false => rfl
        | true => rw [dig_at hk hd] at hf; cases hf
      by_cases h11 : 1 < s.size
      · have hi : (1 : Int) < (s.size : Int) := by omega
        have hb : ¬ ((s[0].toNat : Nat) : Int) = 48 := by
          have : zeroS s ≠ true := fun h => hf ⟨h11, h⟩
          rw [hz] at this
          have := of_decide_eq_false (Bool.eq_false_iff.2 this)
          omega
        have hb2 : (((s[0].toNat : Nat) : Int) == 48) = false := by simp only [beq_eq_false_iff_ne, ne_eq]; exact hb
        have hb3 : decide ((1 : Int) < (s.size : Int)) = true := by simpa using hi
        clear hz hf
        go_enter Tryz.func191, Tryz.ntmps191
        go_wp2
        all_goals try (exfalso; omega)
        all_goals
          (
              go_loop [8] (fun i => ∃ k : Nat, k ≤ s.size ∧ i = .int .i64 k ∧ ∀ (j : Nat) (hj : j < k) (hj2 : j < s.size), digN s[j].toNat = true) (fun i => s.size - (intOf i).toNat)
              case atStart => exact ⟨0, Nat.zero_le _, rfl, fun j hj => absurd hj (by omega)⟩
              case round =>
                obtain ⟨k, hk, rfl, hall⟩ := hrel
                by_cases hlt : k < s.size
                · have hb := hbad k hlt
                  have hnx : digN s[k].toNat = true → ∀ (j : Nat) (hj : j < k + 1) (hj2 : j < s.size), digN s[j].toNat = true := by
                    intro h j hj hj2
                    by_cases e : j = k
                    · subst e; exact h
                    · exact hall j (by omega) hj2
                  obtain ⟨D, hD⟩ : ∃ D, digN s[k].toNat = D := ⟨_, rfl⟩
                  have hcall := r3digN_at hD
                  rw [hD] at hb hnx
                  clear hD hall hto hbad hyes
                  cases D with
                  | true =>
                    clear hb hno
                    go_wp2_with (go_at_call 72; refine (hcall _).mono ?_; rintro e w' ⟨rfl, rfl⟩)
                    go_round
                    case rel => exact ⟨k + 1, by omega, by go_num, hnx (by first | trivial | rfl)⟩
                    case measure => simp [intOf]; omega
                  | false =>
                    have hN := hno (hb rfl)
                    clear hb hno hnx
                    go_wp2_with (go_at_call 72; refine (hcall _).mono ?_; rintro e w' ⟨rfl, rfl⟩)
                    go_ret2
                    exact ⟨by rw [hN.out]; rfl, rfl⟩
                · obtain rfl : k = s.size := by omega
                  have hd := hto s.size hk hall rfl
                  have hY := hyes hd
                  have hcall := r3number_walk s (by omega) hd
                  clear hall hto hbad hyes hno hd
                  go_wp2_with (go_at_call 123; refine (hcall _).mono ?_; rintro e w' ⟨rfl, rfl⟩)
                  go_ret2
                  exact ⟨by rw [hY.out]; rfl, rfl⟩)
      · have hi : ¬ (1 : Int) < (s.size : Int) := by omega
        have hb3 : decide ((1 : Int) < (s.size : Int)) = false := by simpa using hi
        clear hz hf
        go_enter Tryz.func191, Tryz.ntmps191
        go_wp2
        all_goals try (exfalso; omega)
        all_goals
          (
              go_loop [8] (fun i => ∃ k : Nat, k ≤ s.size ∧ i = .int .i64 k ∧ ∀ (j : Nat) (hj : j < k) (hj2 : j < s.size), digN s[j].toNat = true) (fun i => s.size - (intOf i).toNat)
              case atStart => exact ⟨0, Nat.zero_le _, rfl, fun j hj => absurd hj (by omega)⟩
              case round =>
                obtain ⟨k, hk, rfl, hall⟩ := hrel
                by_cases hlt : k < s.size
                · have hb := hbad k hlt
                  have hnx : digN s[k].toNat = true → ∀ (j : Nat) (hj : j < k + 1) (hj2 : j < s.size), digN s[j].toNat = true := by
                    intro h j hj hj2
                    by_cases e : j = k
                    · subst e; exact h
                    · exact hall j (by omega) hj2
                  obtain ⟨D, hD⟩ : ∃ D, digN s[k].toNat = D := ⟨_, rfl⟩
                  have hcall := r3digN_at hD
                  rw [hD] at hb hnx
                  clear hD hall hto hbad hyes
                  cases D with
                  | true =>
                    clear hb hno
                    go_wp2_with (go_at_call 72; refine (hcall _).mono ?_; rintro e w' ⟨rfl, rfl⟩)
                    go_round
                    case rel => exact ⟨k + 1, by omega, by go_num, hnx (by first | trivial | rfl)⟩
                    case measure => simp [intOf]; omega
                  | false =>
                    have hN := hno (hb rfl)
                    clear hb hno hnx
                    go_wp2_with (go_at_call 72; refine (hcall _).mono ?_; rintro e w' ⟨rfl, rfl⟩)
                    go_ret2
                    exact ⟨by rw [hN.out]; rfl, rfl⟩
                · obtain rfl : k = s.size := by omega
                  have hd := hto s.size hk hall rfl
                  have hY := hyes hd
                  have hcall := r3number_walk s (by omega) hd
                  clear hall hto hbad hyes hno hd
                  go_wp2_with (go_at_call 123; refine (hcall _).mono ?_; rintro e w' ⟨rfl, rfl⟩)
                  go_ret2
                  exact ⟨by rw [hY.out]; rfl, rfl⟩)
  · rw [show numZ most s = none from by unfold numZ; split; rfl; exact if_neg (fun ⟨hh, hh2, _⟩ => h0 ⟨hh, hh2⟩)]
    have hmi : ¬ (1 ≤ (s.size : Int) ∧ (s.size : Int) ≤ most) := by omega
    show Calls Tryz.prog 191 #[.string s, .int .i64 most, .bool true] w fun e w' => e = .returned (.tuple #[.int .i64 0, .bool false]) ∧ w = w'
    go_enter Tryz.func191, Tryz.ntmps191
    go_wp2
    all_goals try (exfalso; omega)
    all_goals
      go_ret2
      exact ⟨rfl, rfl⟩
end Go.Proofs.YtdnnahdafhddlaaGreatDoor
