/- Walks of package timetableref05, on: numbers in decimal, cutting, small numbers. Conditions: texts shorter than 2^30 bytes. -/
import Derived.Test.YtgbkochjoaalhaaGreatDoorRef5
import Derived.Lib.ConvBytes
namespace Go.Proofs.YtgbkochjoaalhaaGreatDoor
open Go.RowKit
set_option maxRecDepth 100000

set_option maxHeartbeats 400000 in
theorem decimal_small (n : Nat) (h : n < 10) (w : World) :
    Calls Tryz.prog 51 #[.int .i64 n] w fun e w' => e = .returned (.string ⟨(dec2 n).toArray⟩) ∧ Below w.heap.size w w' := by
  rw [show dec2 n = [UInt8.ofNat (48 + n)] from if_pos h]
  have hconv : ∀ cap, (convert 89 9 (.slice (some ⟨w.heap.size, 0, none⟩) 1 cap)).run Tryz.prog (w.alloc (.cells #[.int .u8 (48 + (n : Int))] 5)) = .ok (.string ⟨[UInt8.ofNat (48 + n)].toArray⟩) (w.alloc (.cells #[.int .u8 (48 + (n : Int))] 5)) := fun cap =>
    run_convert_bytes_back _ 89 9 5 ⟨w.heap.size, 0, none⟩ cap [UInt8.ofNat (48 + n)] Tryz.underlying89 Tryz.underlying5 Tryz.underlying9 (by
      intro j hj
      have hj : j = 0 := by simp at hj; omega
      subst hj
      have he : ((UInt8.ofNat (48 + n)).toNat : Int) = 48 + (n : Int) := by
        rw [UInt8.toNat_ofNat']; omega
      simp [Addr.add]
      omega)
  go_enter Tryz.func51, Tryz.ntmps51
  go_wp2_with fail
  go_ret
  exact ⟨ret_str (by simp), (by repeat (first | exact Below.refl _ _ | refine ext_alloc ?_ _ | refine ext_drewN ?_ _ | refine ext_drew ?_ | refine ext_trans ?_ (by assumption)))⟩
set_option maxHeartbeats 400000 in
theorem decimal_walk (n : Nat) (h : n < 100) (w : World) :
    Calls Tryz.prog 51 #[.int .i64 n] w fun e w' => e = .returned (.string ⟨(dec2 n).toArray⟩) ∧ Below w.heap.size w w' := by
  by_cases h1 : n < 10
  · exact decimal_small n h1 w
  · have hd : Hid ((⟨(dec2 (n / 10)).toArray⟩ : ByteArray) ++ ⟨(dec2 (n % 10)).toArray⟩ = ⟨(dec2 n).toArray⟩) := by
      rw [show dec2 (n / 10) = [UInt8.ofNat (48 + n / 10)] from if_pos (by omega), show dec2 (n % 10) = [UInt8.ofNat (48 + n % 10)] from if_pos (by omega), show dec2 n = _ from if_neg h1]
      rfl
    have hl1 := dec2_len (n / 10)
    have hl2 := dec2_len (n % 10)
    go_enter Tryz.func51, Tryz.ntmps51
    go_wp2_with fail
    refine (decimal_small (n / 10) (by omega) _).mono ?_
    rintro e w1 ⟨rfl, hb1⟩
    go_wp2_with fail
    refine (decimal_small (n % 10) (by omega) _).mono ?_
    rintro e w2 ⟨rfl, hb2⟩
    go_wp2
    go_ret
    exact ⟨ret_str hd.out, ext_trans hb1 hb2⟩

set_option maxHeartbeats 800000 in
theorem r5Cut_walk (s : ByteArray) (c : UInt8) (ci : Int) (hci : ci = (c.toNat : Int)) (x y : List UInt8) (t : Bool) (hs : s.size < 1073741824) (hc : cut1 c s.data.toList = (x, y, t)) (w : World) :
    Calls Tryz.prog 58 #[.string s, .int .u8 ci] w fun e w' => e = .returned (.tuple #[.string ⟨x.toArray⟩, .string ⟨y.toArray⟩, .bool t]) ∧ Below w.heap.size w w' := by
  subst hci
  have hc := hide hc
  go_enter Tryz.func58, Tryz.ntmps58
  go_wp2
  go_loop [7] (fun i => ∃ k : Nat, k ≤ s.size ∧ i = .int .i64 k ∧ c ∉ s.data.toList.take k) (fun i => s.size - (intOf i).toNat)
  case atStart => exact ⟨0, by omega, rfl, by simp⟩
  case round =>
    obtain ⟨k, hk, rfl, hm⟩ := hrel
    have hm := hide hm
    by_cases hlt : k < s.size
    · by_cases he : s[k] = c
      · have hb : ((s[k].toNat : Int) == (c.toNat : Int)) = true := by rw [he]; simp
        have he := hide he
        have k0 : (0 : Int) ≤ k := by omega
        have k1 : (k : Int) < s.size := by omega
        go_wp2
        go_quiet (fail)
        go_wp2
        go_ret3
        refine ⟨?_, below_drewN (Below.refl _ _) _⟩
        have hsp : s.data.toList = s.data.toList.take k ++ c :: s.data.toList.drop (k + 1) := by
          have h1 : s.data.toList.drop k = s[k] :: s.data.toList.drop (k + 1) := List.drop_eq_getElem_cons (by simpa using hlt)
          rw [he.out] at h1
          rw [← h1, List.take_append_drop]
        have h2 := hc.out
        rw [hsp, cut1_of c _ hm.out] at h2
        injection h2 with h3 h4
        injection h4 with h4 h5
        subst h5
        rw [← h3, ← h4, ← Lib.extract_upto, ← Lib.extract_from]
        rfl
      · have hb : ((s[k].toNat : Int) == (c.toNat : Int)) = false := by
          rw [beq_eq_false_iff_ne]; intro h; exact he (UInt8.toNat_inj.1 (by omega))
        have he := hide he
        go_wp2
        go_round
        case rel => 
          refine ⟨k + 1, by omega, by go_num, ?_⟩
          have hx : s.data.toList.take (k + 1) = s.data.toList.take k ++ [s[k]] := by
            rw [List.take_succ_eq_append_getElem (by simpa using hlt)]; rfl
          rw [hx, List.mem_append, List.mem_singleton, not_or]
          exact ⟨hm.out, fun e => he.out e.symm⟩
        case measure => simp [intOf]; omega
    · have hk' : k = s.size := by omega
      have hm' : c ∉ s.data.toList := by
        have := hm.out
        rwa [hk', List.take_of_length_le (by simp)] at this
      have h2 := hc.out
      rw [cut1_miss c _ hm'] at h2
      injection h2 with h3 h4
      injection h4 with h4 h5
      subst h3 h4 h5
      clear hk'
      go_wp2
      go_ret3
      exact ⟨by simp, Below.refl _ _⟩

theorem numV_1 (a : UInt8) : numV [a] = if 49 ≤ a.toNat ∧ a.toNat ≤ 57 then a.toNat - 48 else 0 := by
  simp only [numV, numL]; split <;> rfl
theorem numV_2 (a b : UInt8) : numV [a, b] = if 49 ≤ a.toNat ∧ a.toNat ≤ 57 ∧ 48 ≤ b.toNat ∧ b.toNat ≤ 57 then 10 * (a.toNat - 48) + (b.toNat - 48) else 0 := by
  simp only [numV, numL]; split <;> rfl
theorem numV_other {l : List UInt8} (h : l.length < 1 ∨ 2 < l.length) : numV l = 0 := by
  match l, h with
  | [], _ => rfl
  | [_], h => simp at h
  | [_, _], h => simp at h
  | _ :: _ :: _ :: _, _ => rfl
set_option maxHeartbeats 800000 in
theorem small_walk (s : ByteArray) (w : World) :
    Calls Tryz.prog 59 #[.string s] w fun e w' => e = .returned (.int .i64 (numV s.data.toList)) ∧ w = w' := by
  by_cases h : s.size < 1 ∨ 2 < s.size
  · rw [numV_other (by rw [ba_len]; exact h)]
    go_enter Tryz.func59, Tryz.ntmps59
    go_wp2
    all_goals try (exfalso; omega)
    all_goals go_ret
    all_goals exact ⟨rfl, rfl⟩
  · have h0 : 0 < s.size := by omega
    have hb0 := (s[0]'h0).toNat_lt
    by_cases h1 : s.size = 1
    · have hl : s.data.toList = [s[0]] := by
        match hx : s.data.toList, ba_len s, ba_at0 s h0 with
        | [a], _, ha => simpa using ha
        | [], hz, _ => simp at hz; omega
        | _ :: _ :: _, hz, _ => simp at hz; omega
      have hv := hide (numV_1 s[0])
      rw [hl]
      clear h hl
      obtain ⟨v, hvv⟩ : ∃ v, numV [s[0]] = v := ⟨_, rfl⟩
      have hv : Hid (v = if 49 ≤ s[0].toNat ∧ s[0].toNat ≤ 57 then s[0].toNat - 48 else 0) := by rw [← hvv]; exact hv.out
      rw [hvv]
      clear hvv
      have e1 : ((s[0].toNat : Int) == 48) = decide (s[0].toNat = 48) := by rw [Bool.eq_iff_iff]; simp; omega
      have h1 := hide h1
      have hz : s.size < 2 := by have := h1.out; omega
      by_cases h48 : s[0].toNat = 48
      · rw [decide_eq_true h48] at e1
        have h48 := hide h48
        go_enter Tryz.func59, Tryz.ntmps59
        go_wp2
        go_ret
        exact ⟨ret_int (by rw [hv.out, if_neg (by have := h48.out; omega)]; rfl), rfl⟩
      · rw [decide_eq_false h48] at e1
        have h48 := hide h48
        go_enter Tryz.func59, Tryz.ntmps59
        go_wp2
        go_loop [3, 4] (fun n i => (i = .int .i64 0 ∧ n = .int .i64 0) ∨ (i = .int .i64 1 ∧ 48 ≤ s[0].toNat ∧ s[0].toNat ≤ 57 ∧ n = .int .i64 ((s[0].toNat : Int) - 48))) (fun _ i => (2 - intOf i).toNat)
        case atStart => exact Or.inl ⟨rfl, rfl⟩
        case round =>
          rcases hrel with ⟨rfl, rfl⟩ | ⟨rfl, q1, q2, rfl⟩
          · go_wp2
            all_goals first
              | (go_round
                 case rel => exact Or.inr ⟨rfl, by omega, by omega, by go_num⟩
                 case measure => simp [intOf])
              | (go_ret
                 exact ⟨ret_int (by rw [hv.out, if_neg (by omega)]; rfl), rfl⟩)
          · go_wp2
            all_goals try (exfalso; have := h1.out; omega)
            go_ret
            exact ⟨ret_int (by rw [hv.out, if_pos (by have := h48.out; omega)]; omega), rfl⟩
    · have h2 : s.size = 2 := by omega
      have h01 : 1 < s.size := by omega
      have hb1 := (s[1]'h01).toNat_lt
      have hl : s.data.toList = [s[0], s[1]] := by
        have h3 : s.data.toList[1]? = some s[1] := by
          have h' : 1 < s.data.toList.length := by simpa using h01
          rw [List.getElem?_eq_getElem h']; rfl
        match hx : s.data.toList, ba_len s, ba_at0 s h0, h3 with
        | [a, b], _, ha, hb => simp at ha hb; rw [ha, hb]
        | [], hz, _, _ => simp at hz; omega
        | [_], hz, _, _ => simp at hz; omega
        | _ :: _ :: _ :: _, hz, _, _ => simp at hz; omega
      have hv := hide (numV_2 s[0] s[1])
      rw [hl]
      clear h h1 hl
      obtain ⟨v, hvv⟩ : ∃ v, numV [s[0], s[1]] = v := ⟨_, rfl⟩
      have hv : Hid (v = if 49 ≤ s[0].toNat ∧ s[0].toNat ≤ 57 ∧ 48 ≤ s[1].toNat ∧ s[1].toNat ≤ 57 then 10 * (s[0].toNat - 48) + (s[1].toNat - 48) else 0) := by rw [← hvv]; exact hv.out
      rw [hvv]
      clear hvv
      have e1 : ((s[0].toNat : Int) == 48) = decide (s[0].toNat = 48) := by rw [Bool.eq_iff_iff]; simp; omega
      have h2 := hide h2
      have hz1 : 1 < s.size := h01
      have hz2 : s.size < 3 := by have := h2.out; omega
      by_cases h48 : s[0].toNat = 48
      · rw [decide_eq_true h48] at e1
        have h48 := hide h48
        go_enter Tryz.func59, Tryz.ntmps59
        go_wp2
        go_ret
        exact ⟨ret_int (by rw [hv.out, if_neg (by have := h48.out; omega)]; rfl), rfl⟩
      · rw [decide_eq_false h48] at e1
        have h48 := hide h48
        go_enter Tryz.func59, Tryz.ntmps59
        go_wp2
        go_loop [3, 4] (fun n i => (i = .int .i64 0 ∧ n = .int .i64 0) ∨ (i = .int .i64 1 ∧ 48 ≤ s[0].toNat ∧ s[0].toNat ≤ 57 ∧ n = .int .i64 ((s[0].toNat : Int) - 48)) ∨ (i = .int .i64 2 ∧ 48 ≤ s[0].toNat ∧ s[0].toNat ≤ 57 ∧ 48 ≤ s[1].toNat ∧ s[1].toNat ≤ 57 ∧ n = .int .i64 (10 * ((s[0].toNat : Int) - 48) + ((s[1].toNat : Int) - 48)))) (fun _ i => (3 - intOf i).toNat)
        case atStart => exact Or.inl ⟨rfl, rfl⟩
        case round =>
          rcases hrel with ⟨rfl, rfl⟩ | ⟨rfl, q1, q2, rfl⟩ | ⟨rfl, q1, q2, q3, q4, rfl⟩
          · go_wp2
            all_goals first
              | (go_round
                 case rel => exact Or.inr (Or.inl ⟨rfl, by omega, by omega, by go_num⟩)
                 case measure => simp [intOf])
              | (go_ret
                 exact ⟨ret_int (by rw [hv.out, if_neg (by omega)]; rfl), rfl⟩)
          · go_wp2
            all_goals first
              | (go_round
                 case rel => exact Or.inr (Or.inr ⟨rfl, by omega, by omega, by omega, by omega, by go_num⟩)
                 case measure => simp [intOf])
              | (go_ret
                 exact ⟨ret_int (by rw [hv.out, if_neg (by omega)]; rfl), rfl⟩)
          · go_wp2
            all_goals try (exfalso; have := h2.out; omega)
            go_ret
            exact ⟨ret_int (by rw [hv.out, if_pos (by have := h48.out; omega)]; omega), rfl⟩
end Go.Proofs.YtgbkochjoaalhaaGreatDoor
