/- Walks of Scanner.Number (the first digit may be 0), timetableref03.number, timetableref03.Digits. Conditions: at most 18 digits. -/
import Derived.Test.YtehgnnedaedpjaaGreatDoorKDigits
namespace Go.Proofs.YtehgnnedaedpjaaGreatDoor
open Go.RowKit
set_option maxRecDepth 100000

def numP (o : Option Nat) (p : Prob) : Option Prob := if o.isSome then none else some p
set_option maxHeartbeats 800000 in
theorem fnum_walk (B g : Nat) (line : Int) (F : Option Addr) (fs : List Fld) (c k most : Nat) (w : World) (h : Scan w g line F fs.length c k none) (hF : FieldsAt B w F fs) (h2 : k < fs.length) (hm : fs.length ≤ 1000) (hB : B ≤ g) (h18 : most ≤ 18) (hsz : (textAt fs k).size ≤ 9223372036854775807) :
    Calls Tryz.prog 133 #[.pointer (some ⟨g, 0, none⟩), .int .i64 most, .bool true] w fun end' w' => end' = .returned (.int .i64 (((numE most (textAt fs k)).getD 0 : Nat) : Int)) ∧ Scan w' g line F fs.length c (k + 1) (numP (numE most (textAt fs k)) (line, colAt fs (k + 1), 4)) ∧ Only g w w' := by
  have hlt := h.lt
  obtain ⟨o, ho⟩ : ∃ o, numE most (textAt fs k) = o := ⟨_, rfl⟩
  rw [ho]
  replace ho := hide ho
  cases o with
  | none =>
    show Calls Tryz.prog 133 #[.pointer (some ⟨g, 0, none⟩), .int .i64 most, .bool true] w fun end' w' => end' = .returned (.int .i64 0) ∧ Scan w' g line F fs.length c (k + 1) (some (line, colAt fs (k + 1), 4)) ∧ Only g w w'
    go_enter Tryz.func133, Tryz.ntmps133
    go_wp2_with fail
    refine (fnext_go B g line F fs c k w h hF h2 hm hB).mono ?_
    rintro e w1 ⟨rfl, hs1, ho1⟩
    go_wp2_with fail
    refine (digits_walk (textAt fs k) most h18 w1 hsz).mono ?_
    rintro e w2 ⟨rfl, hb2⟩
    rw [ho.out, show digV none = .tuple #[.int .i64 0, .bool false] from rfl]
    have hs2 := hs1.later hb2
    have ho2 := ho1.later hb2
    go_wp2_with fail
    refine (fail_walk B g line F fs c (k + 1) none 4 w2 hs2 (hF.only ho2 hB (by omega)) (by omega) (by omega) hm).mono ?_
    rintro e w3 ⟨rfl, hs3, ho3⟩
    go_wp2
    go_ret
    exact ⟨rfl, hs3, ho2.trans ho3⟩
  | some n =>
    show Calls Tryz.prog 133 #[.pointer (some ⟨g, 0, none⟩), .int .i64 most, .bool true] w fun end' w' => end' = .returned (.int .i64 n) ∧ Scan w' g line F fs.length c (k + 1) none ∧ Only g w w'
    go_enter Tryz.func133, Tryz.ntmps133
    go_wp2_with fail
    refine (fnext_go B g line F fs c k w h hF h2 hm hB).mono ?_
    rintro e w1 ⟨rfl, hs1, ho1⟩
    go_wp2_with fail
    refine (digits_walk (textAt fs k) most h18 w1 hsz).mono ?_
    rintro e w2 ⟨rfl, hb2⟩
    rw [ho.out, show digV (some n) = .tuple #[.int .i64 n, .bool true] from rfl]
    have hs2 := hs1.later hb2
    have ho2 := ho1.later hb2
    go_wp2_with fail
    go_ret
    exact ⟨rfl, hs2, ho2⟩
theorem numE_none (most : Nat) : numE most ⟨#[]⟩ = none := if_neg (fun h => by have := h.1; revert this; decide)
set_option maxHeartbeats 800000 in
theorem fnum_stop (B g : Nat) (line : Int) (F : Option Addr) (fs : List Fld) (c k most : Nat) (p : Prob) (w : World) (h : Scan w g line F fs.length c k (some p)) (hF : FieldsAt B w F fs) (h1 : 1 ≤ k) (h2 : k ≤ fs.length) (hm : fs.length ≤ 1000) (hB : B ≤ g) (h18 : most ≤ 18) :
    Calls Tryz.prog 133 #[.pointer (some ⟨g, 0, none⟩), .int .i64 most, .bool true] w fun end' w' => end' = .returned (.int .i64 0) ∧ Scan w' g line F fs.length c k (some p) ∧ Only g w w' := by
  have hlt := h.lt
  go_enter Tryz.func133, Tryz.ntmps133
  go_wp2_with fail
  refine (fnext_stop g line F fs.length c k p w h).mono ?_
  rintro e w1 ⟨rfl, rfl⟩
  go_wp2_with fail
  refine (digits_walk ⟨#[]⟩ most h18 w (by decide)).mono ?_
  rintro e w2 ⟨rfl, hb2⟩
  rw [numE_none, show digV none = .tuple #[.int .i64 0, .bool false] from rfl]
  have hs2 := h.later hb2
  have ho2 := (Only.refl g w).later hb2
  go_wp2_with fail
  refine (fail_walk B g line F fs c k (some p) 4 w2 hs2 (hF.only ho2 hB (by omega)) h1 h2 hm).mono ?_
  rintro e w3 ⟨rfl, hs3, ho3⟩
  go_wp2
  go_ret
  exact ⟨rfl, hs3, ho2.trans ho3⟩
theorem valTo_zero (s : ByteArray) : valTo s 0 = 0 := rfl
theorem valTo_all (s : ByteArray) : valTo s s.size = valS s := by unfold valTo valS; rw [List.take_of_length_le (Nat.le_of_eq (ba_len s))]
theorem dig_at {s : ByteArray} {k : Nat} (h : k < s.size) (hd : digS s = true) : digN s[k].toNat = true :=
  List.all_eq_true.1 hd s[k] (List.mem_of_getElem? (by rw [List.getElem?_eq_getElem (by rw [ba_len]; exact h)]; rfl))
theorem valTo_step {s : ByteArray} {k : Nat} (h : k < s.size) (hd : digS s = true) : valTo s (k + 1) = 10 * valTo s k + (s[k].toNat - 48) ∧ 48 ≤ s[k].toNat ∧ s[k].toNat ≤ 57 ∧ valTo s k + 1 ≤ 10 ^ k := by
  have hk := dig_at h hd
  have hr : 48 ≤ s[k].toNat ∧ s[k].toNat ≤ 57 := of_decide_eq_true hk
  have ht : ((s.data.toList.take k).all fun b => digN b.toNat) = true := List.all_eq_true.2 fun b hb => List.all_eq_true.1 hd b (List.mem_of_mem_take hb)
  obtain ⟨n, hn, hb⟩ := dec_some 0 ht
  have hg : s.data.toList[k]? = some s[k] := by rw [List.getElem?_eq_getElem (by rw [ba_len]; exact h)]; rfl
  have hs := Lib.decFrom_take s.data.toList k 0 n s[k] (s[k].toNat - 48) hn hg (by unfold Lib.digitVal; rw [if_pos hr])
  unfold valTo
  rw [hs, hn]
  have hl : (s.data.toList.take k).length = k := by rw [List.length_take, ba_len]; omega
  rw [hl] at hb
  exact ⟨by show n * 10 + _ = 10 * n + _; omega, hr.1, hr.2, by show n + 1 ≤ _; omega⟩
theorem pow18 {k : Nat} (h : k ≤ 17) : 10 ^ k ≤ 100000000000000000 := Nat.le_trans (Nat.pow_le_pow_right (by omega) h) (by decide)
set_option maxHeartbeats 800000 in
theorem r3number_walk (s : ByteArray) (h18 : s.size ≤ 18) (hd : digS s = true) (w : World) :
    Calls Tryz.prog 174 #[.string s] w fun e w' => e = .returned (.int .i64 (valS s : Int)) ∧ w = w' := by
  have hall := hide (valTo_all s)
  go_enter Tryz.func174, Tryz.ntmps174
  go_wp2
  go_loop [3, 4] (fun n i => ∃ k : Nat, k ≤ s.size ∧ i = .int .i64 k ∧ n = .int .i64 (valTo s k)) (fun _ i => s.size - (intOf i).toNat)
  case atStart => exact ⟨0, Nat.zero_le _, rfl, rfl⟩
  case round =>
    obtain ⟨k, hk, rfl, rfl⟩ := hrel
    by_cases hlt : k < s.size
    · obtain ⟨hst, r1, r2, hb⟩ := valTo_step hlt hd
      have hp := pow18 (k := k) (by omega)
      obtain ⟨b, hbb⟩ : ∃ b, s[k].toNat = b := ⟨_, rfl⟩
      rw [hbb] at hst r1 r2
      obtain ⟨v, hv⟩ : ∃ v, valTo s k = v := ⟨_, rfl⟩
      rw [hv] at hst hb ⊢
      replace hst := hide hst
      have e1 : IntKind.i64.wrap (10 * (v : Int)) = 10 * (v : Int) := IntWalk.i64_in _ (by omega)
      clear hv hd
      go_wp2
      go_round
      case rel => exact ⟨k + 1, by omega, by go_num, by rw [hst.out]; go_num⟩
      case measure => simp [intOf]; omega
    · obtain rfl : k = s.size := by omega
      rw [hall.out]
      go_wp2
      go_ret
      exact ⟨rfl, rfl⟩
set_option maxHeartbeats 2000000 in
theorem r3digits_walk (s : ByteArray) (most : Nat) (h18 : most ≤ 18) (w : World) :
    Calls Tryz.prog 138 #[.string s, .int .i64 most, .bool false] w fun e w' => e = .returned (digV (numE most s)) ∧ w = w' := by
  by_cases h0 : 1 ≤ s.size ∧ s.size ≤ most
  · obtain ⟨h0, h1⟩ := h0
    have hmi : (s.size : Int) ≤ most := by omega
    have hyes : digS s = true → Hid (digV (numE most s) = .tuple #[.int .i64 (valS s : Int), .bool true]) := fun hd => hide (by rw [show numE most s = some (valS s) from if_pos ⟨h0, h1, hd⟩]; rfl)
    have hno : digS s = false → Hid (digV (numE most s) = .tuple #[.int .i64 0, .bool false]) := fun hd => hide (by rw [show numE most s = none from if_neg (fun ⟨_, _, hh⟩ => by rw [hd] at hh; cases hh)]; rfl)
    obtain ⟨V, hV⟩ : ∃ V, digV (numE most s) = V := ⟨_, rfl⟩
    rw [hV] at hyes hno ⊢
    clear hV
    have hto : ∀ k, k ≤ s.size → (∀ (j : Nat) (hj : j < k) (hj2 : j < s.size), digN s[j].toNat = true) → k = s.size → digS s = true := by
      intro k hk hall he
      refine List.all_eq_true.2 fun b hb => ?_
      obtain ⟨j, hj, rfl⟩ := List.mem_iff_getElem.1 hb
      rw [ba_len] at hj
      exact hall j (by omega) hj
    have hbad : ∀ k (hk : k < s.size), digN s[k].toNat = false → digS s = false := by
      intro k hk hf
      cases hd : digS s with
      | false => rfl
      | true => rw [dig_at hk hd] at hf; cases hf
    go_enter Tryz.func138, Tryz.ntmps138
    go_wp2
    all_goals try (exfalso; omega)
    go_loop [8] (fun i => ∃ k : Nat, k ≤ s.size ∧ i = .int .i64 k ∧ ∀ (j : Nat) (hj : j < k) (hj2 : j < s.size), digN s[j].toNat = true) (fun i => s.size - (intOf i).toNat)
    case atStart => exact ⟨0, Nat.zero_le _, rfl, fun j hj => absurd hj (by omega)⟩
    case round =>
      obtain ⟨k, hk, rfl, hall⟩ := hrel
      by_cases hlt : k < s.size
      · have hb := hbad k hlt
        have hnx : digN s[k].toNat = true → ∀ (j : Nat) (hj : j < k + 1) (hj2 : j < s.size), digN s[j].toNat = true := by
          intro h j hj hj2
          by_cases e : j = k
          · subst e; exact h
          · exact hall j (by omega) hj2
        obtain ⟨D, hD⟩ : ∃ D, digN s[k].toNat = D := ⟨_, rfl⟩
        have hcall := r3digN_at hD
        rw [hD] at hb hnx
        clear hD hall hto hbad hyes
        cases D with
        | true =>
          clear hb hno
          go_wp2_with (go_at_call 127; refine (hcall _).mono ?_; rintro e w' ⟨rfl, rfl⟩)
          go_round
          case rel => exact ⟨k + 1, by omega, by go_num, hnx (by first | trivial | rfl)⟩
          case measure => simp [intOf]; omega
        | false =>
          have hN := hno (hb rfl)
          clear hb hno hnx
          go_wp2_with (go_at_call 127; refine (hcall _).mono ?_; rintro e w' ⟨rfl, rfl⟩)
          go_ret2
          exact ⟨by rw [hN.out]; rfl, rfl⟩
      · obtain rfl : k = s.size := by omega
        have hd := hto s.size hk hall rfl
        have hY := hyes hd
        have hcall := r3number_walk s (by omega) hd
        clear hall hto hbad hyes hno hd
        go_wp2_with (go_at_call 174; refine (hcall _).mono ?_; rintro e w' ⟨rfl, rfl⟩)
        go_ret2
        exact ⟨by rw [hY.out]; rfl, rfl⟩
  · rw [show numE most s = none from if_neg (fun ⟨hh, hh2, _⟩ => h0 ⟨hh, hh2⟩)]
    have hmi : ¬ (1 ≤ (s.size : Int) ∧ (s.size : Int) ≤ most) := by omega
    show Calls Tryz.prog 138 #[.string s, .int .i64 most, .bool false] w fun e w' => e = .returned (.tuple #[.int .i64 0, .bool false]) ∧ w = w'
    go_enter Tryz.func138, Tryz.ntmps138
    go_wp2
    all_goals try (exfalso; omega)
    all_goals
      go_ret2
      exact ⟨rfl, rfl⟩
end Go.Proofs.YtehgnnedaedpjaaGreatDoor
