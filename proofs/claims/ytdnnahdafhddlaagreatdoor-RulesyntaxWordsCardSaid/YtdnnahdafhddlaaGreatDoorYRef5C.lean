/- Walks of package timetableref05: the functions of numbers and of texts. Conditions: texts shorter than 2^30 bytes. Walks of package timetableref05, on: numbers in decimal, cutting, small numbers. Conditions: texts shorter than 2^30 bytes. Walks of package timetableref05, on: item, Parse. Conditions: texts shorter than 2^30 bytes; the variable words holds its five words. -/
import Derived.Lib.PathFns
import Derived.Test.YtdnnahdafhddlaaGreatDoorYSameL
namespace Go.Proofs.YtdnnahdafhddlaaGreatDoor
open Go.RowKit

/-- Is week i + 1 in the k-th named set of n weeks. -/
def nameP (n : Nat) : Nat → Nat → Bool
  | 0, _ => true
  | 1, i => decide ((i + 1) % 2 = 1)
  | 2, i => decide ((i + 1) % 2 = 0)
  | 3, i => decide (i + 1 ≤ (n + 1) / 2)
  | _, i => decide ((n + 1) / 2 < i + 1)
theorem maskTo_cut (p : Nat → Bool) (h : Nat) : ∀ n, h ≤ n → maskTo (fun i => decide (i + 1 ≤ h) && p i) n = maskTo p h := by
  intro n hn
  apply Nat.eq_of_testBit_eq
  intro i
  rw [maskTo_bit, maskTo_bit]
  by_cases e : i < h
  · simp [e, show i < n from by omega, show i + 1 ≤ h from by omega]
  · simp [e, show ¬ i + 1 ≤ h from by omega]
theorem named_eq (n k : Nat) (h1 : 1 ≤ n) (hk : k < 5) : maskTo (nameP n k) n = wordVal n k := by
  match k, hk with
  | 0, _ => exact maskTo_congr fun i _ => by simp [nameP, spanP]
  | 1, _ => exact maskTo_congr fun i _ => by simp only [nameP, everyP]; rw [Bool.eq_iff_iff]; simp only [Bool.and_eq_true, decide_eq_true_eq]; omega
  | 2, _ => exact maskTo_congr fun i _ => by simp only [nameP, everyP]; rw [Bool.eq_iff_iff]; simp only [Bool.and_eq_true, decide_eq_true_eq]; omega
  | 3, _ =>
    show _ = maskTo (spanP 1) ((n + 1) / 2)
    rw [← maskTo_cut (spanP 1) ((n + 1) / 2) n (by omega)]
    exact maskTo_congr fun i _ => by simp [nameP, spanP]
  | 4, _ => exact maskTo_congr fun i _ => by simp only [nameP, spanP]; rw [decide_eq_decide]; omega
set_option maxRecDepth 100000 in
set_option maxHeartbeats 4000000 in
theorem named_walk (k n : Nat) (hk : k < 5) (h1 : 1 ≤ n) (h2 : n ≤ 20) (w : World) :
    Calls Tryz.prog 121 #[.int .i64 k, .int .i64 n] w fun e w' => e = .returned (.int .i64 (wordVal n k)) ∧ w = w' := by
  rw [← named_eq n k h1 hk]
  obtain ⟨q, hq⟩ : ∃ q, nameP n k = q := ⟨_, rfl⟩
  have HQ : Hid (∀ j, q j = nameP n k j) := fun j => by rw [hq]
  rw [hq]
  clear hq
  have hk5 : k = 0 ∨ k = 1 ∨ k = 2 ∨ k = 3 ∨ k = 4 := by omega
  clear hk
  rcases hk5 with rfl | rfl | rfl | rfl | rfl
  all_goals
    go_enter Tryz.func121, Tryz.ntmps121
    go_wp2
    go_loop [5, 6] (fun s i => ∃ j : Nat, j ≤ n ∧ i = .int .i64 ((j : Int) + 1) ∧ s = .int .i64 (maskTo q j)) (fun _ i => (21 - intOf i).toNat)
    case atStart => exact ⟨0, by omega, rfl, rfl⟩
    case round =>
      obtain ⟨j, hj, rfl, rfl⟩ := hrel
      by_cases hlt : j < n
      · have hp : (j + 1) % 2 = 0 ∨ (j + 1) % 2 = 1 := by omega
        have hh : j + 1 ≤ (n + 1) / 2 ∨ (n + 1) / 2 < j + 1 := by omega
        rcases hp with hp | hp
        all_goals rcases hh with hh | hh
        all_goals
          have e1 : (((j : Int) + 1) % 2 == 1) = decide ((j + 1) % 2 = 1) := by rw [Bool.eq_iff_iff]; simp only [beq_iff_eq, decide_eq_true_eq]; omega
          have e2 : (((j : Int) + 1) % 2 == 0) = decide ((j + 1) % 2 = 0) := by rw [Bool.eq_iff_iff]; simp only [beq_iff_eq, decide_eq_true_eq]; omega
          rw [hp] at e1 e2
          have HP := hide hp
          clear hp
          go_wp2
          go_round
          case rel =>
            refine ⟨j + 1, by omega, by go_num, ?_⟩
            have hp := HP.out
            first
              | (have hq : q j = true := by rw [HQ.out]; first | rfl | (simp only [nameP, decide_eq_true_eq]; omega)
                 rw [or_step q j (by omega) hq])
              | (have hq : q j = false := by rw [HQ.out]; simp only [nameP, decide_eq_false_iff_not]; omega
                 rw [maskTo_no q j hq])
          case measure => simp [intOf]; omega
      · obtain rfl : j = n := by omega
        go_wp2
        go_ret
        exact ⟨rfl, rfl⟩
end Go.Proofs.YtdnnahdafhddlaaGreatDoor

namespace Go.Proofs.YtdnnahdafhddlaaGreatDoor
open Go.RowKit
set_option maxRecDepth 100000

set_option maxHeartbeats 400000 in
theorem decimal_small (n : Nat) (h : n < 10) (w : World) :
    Calls Tryz.prog 47 #[.int .i64 n] w fun e w' => e = .returned (.string ⟨(dec2 n).toArray⟩) ∧ Below w.heap.size w w' := by
  rw [show dec2 n = [UInt8.ofNat (48 + n)] from if_pos h]
  have hconv : ∀ cap, (convert 34 9 (.slice (some ⟨w.heap.size, 0, none⟩) 1 cap)).run Tryz.prog (w.alloc (.cells #[.int .u8 (48 + (n : Int))] 5)) = .ok (.string ⟨[UInt8.ofNat (48 + n)].toArray⟩) (w.alloc (.cells #[.int .u8 (48 + (n : Int))] 5)) := fun cap =>
    run_convert_bytes_back _ 34 9 5 ⟨w.heap.size, 0, none⟩ cap [UInt8.ofNat (48 + n)] Tryz.underlying34 Tryz.underlying5 Tryz.underlying9 (by
      intro j hj
      have hj : j = 0 := by simp at hj; omega
      subst hj
      have he : ((UInt8.ofNat (48 + n)).toNat : Int) = 48 + (n : Int) := by
        rw [UInt8.toNat_ofNat']; omega
      simp [Addr.add]
      omega)
  go_enter Tryz.func47, Tryz.ntmps47
  go_wp2_with fail
  go_ret
  exact ⟨ret_str (by simp), (by repeat (first | exact Below.refl _ _ | refine ext_alloc ?_ _ | refine ext_drewN ?_ _ | refine ext_drew ?_ | refine ext_trans ?_ (by assumption)))⟩
set_option maxHeartbeats 800000 in
theorem r5Cut_walk (s : ByteArray) (c : UInt8) (ci : Int) (hci : ci = (c.toNat : Int)) (x y : List UInt8) (t : Bool) (hs : s.size < 1073741824) (hc : cut1 c s.data.toList = (x, y, t)) (w : World) :
    Calls Tryz.prog 56 #[.string s, .int .u8 ci] w fun e w' => e = .returned (.tuple #[.string ⟨x.toArray⟩, .string ⟨y.toArray⟩, .bool t]) ∧ Below w.heap.size w w' := by
  subst hci
  have hc := hide hc
  go_enter Tryz.func56, Tryz.ntmps56
  go_wp2
  go_loop [7] (fun i => ∃ k : Nat, k ≤ s.size ∧ i = .int .i64 k ∧ c ∉ s.data.toList.take k) (fun i => s.size - (intOf i).toNat)
  case atStart => exact ⟨0, by omega, rfl, by simp⟩
  case round =>
    obtain ⟨k, hk, rfl, hm⟩ := hrel
    have hm := hide hm
    by_cases hlt : k < s.size
    · by_cases he : s[k] = c
      · have hb : ((s[k].toNat : Int) == (c.toNat : Int)) = true := by rw [he]; simp
        have he := hide he
        have k0 : (0 : Int) ≤ k := by omega
        have k1 : (k : Int) < s.size := by omega
        go_wp2
        go_quiet (fail)
        go_wp2
        go_ret3
        refine ⟨?_, below_drewN (Below.refl _ _) _⟩
        have hsp : s.data.toList = s.data.toList.take k ++ c :: s.data.toList.drop (k + 1) := by
          have h1 : s.data.toList.drop k = s[k] :: s.data.toList.drop (k + 1) := List.drop_eq_getElem_cons (by simpa using hlt)
          rw [he.out] at h1
          rw [← h1, List.take_append_drop]
        have h2 := hc.out
        rw [hsp, cut1_of c _ hm.out] at h2
        injection h2 with h3 h4
        injection h4 with h4 h5
        subst h5
        rw [← h3, ← h4, ← Lib.extract_upto, ← Lib.extract_from]
        rfl
      · have hb : ((s[k].toNat : Int) == (c.toNat : Int)) = false := by
          rw [beq_eq_false_iff_ne]; intro h; exact he (UInt8.toNat_inj.1 (by omega))
        have he := hide he
        go_wp2
        go_round
        case rel => 
          refine ⟨k + 1, by omega, by go_num, ?_⟩
          have hx : s.data.toList.take (k + 1) = s.data.toList.take k ++ [s[k]] := by
            rw [List.take_succ_eq_append_getElem (by simpa using hlt)]; rfl
          rw [hx, List.mem_append, List.mem_singleton, not_or]
          exact ⟨hm.out, fun e => he.out e.symm⟩
        case measure => simp [intOf]; omega
    · have hk' : k = s.size := by omega
      have hm' : c ∉ s.data.toList := by
        have := hm.out
        rwa [hk', List.take_of_length_le (by simp)] at this
      have h2 := hc.out
      rw [cut1_miss c _ hm'] at h2
      injection h2 with h3 h4
      injection h4 with h4 h5
      subst h3 h4 h5
      clear hk'
      go_wp2
      go_ret3
      exact ⟨by simp, Below.refl _ _⟩

theorem numV_1 (a : UInt8) : numV [a] = if 49 ≤ a.toNat ∧ a.toNat ≤ 57 then a.toNat - 48 else 0 := by
  simp only [numV, numL]; split <;> rfl
theorem numV_2 (a b : UInt8) : numV [a, b] = if 49 ≤ a.toNat ∧ a.toNat ≤ 57 ∧ 48 ≤ b.toNat ∧ b.toNat ≤ 57 then 10 * (a.toNat - 48) + (b.toNat - 48) else 0 := by
  simp only [numV, numL]; split <;> rfl
theorem numV_other {l : List UInt8} (h : l.length < 1 ∨ 2 < l.length) : numV l = 0 := by
  match l, h with
  | [], _ => rfl
  | [_], h => simp at h
  | [_, _], h => simp at h
  | _ :: _ :: _ :: _, _ => rfl
set_option maxHeartbeats 800000 in
theorem small_walk (s : ByteArray) (w : World) :
    Calls Tryz.prog 155 #[.string s] w fun e w' => e = .returned (.int .i64 (numV s.data.toList)) ∧ w = w' := by
  by_cases h : s.size < 1 ∨ 2 < s.size
  · rw [numV_other (by rw [ba_len]; exact h)]
    go_enter Tryz.func155, Tryz.ntmps155
    go_wp2
    all_goals try (exfalso; omega)
    all_goals go_ret
    all_goals exact ⟨rfl, rfl⟩
  · have h0 : 0 < s.size := by omega
    have hb0 := (s[0]'h0).toNat_lt
    by_cases h1 : s.size = 1
    · have hl : s.data.toList = [s[0]] := by
        match hx : s.data.toList, ba_len s, ba_at0 s h0 with
        | [a], _, ha => simpa using ha
        | [], hz, _ => simp at hz; omega
        | _ :: _ :: _, hz, _ => simp at hz; omega
      have hv := hide (numV_1 s[0])
      rw [hl]
      clear h hl
      obtain ⟨v, hvv⟩ : ∃ v, numV [s[0]] = v := ⟨_, rfl⟩
      have hv : Hid (v = if 49 ≤ s[0].toNat ∧ s[0].toNat ≤ 57 then s[0].toNat - 48 else 0) := by rw [← hvv]; exact hv.out
      rw [hvv]
      clear hvv
      have e1 : ((s[0].toNat : Int) == 48) = decide (s[0].toNat = 48) := by rw [Bool.eq_iff_iff]; simp; omega
      have h1 := hide h1
      have hz : s.size < 2 := by have := h1.out; omega
      by_cases h48 : s[0].toNat = 48
      · rw [decide_eq_true h48] at e1
        have h48 := hide h48
        go_enter Tryz.func155, Tryz.ntmps155
        go_wp2
        go_ret
        exact ⟨ret_int (by rw [hv.out, if_neg (by have := h48.out; omega)]; rfl), rfl⟩
      · rw [decide_eq_false h48] at e1
        have h48 := hide h48
        go_enter Tryz.func155, Tryz.ntmps155
        go_wp2
        go_loop [3, 4] (fun n i => (i = .int .i64 0 ∧ n = .int .i64 0) ∨ (i = .int .i64 1 ∧ 48 ≤ s[0].toNat ∧ s[0].toNat ≤ 57 ∧ n = .int .i64 ((s[0].toNat : Int) - 48))) (fun _ i => (2 - intOf i).toNat)
        case atStart => exact Or.inl ⟨rfl, rfl⟩
        case round =>
          rcases hrel with ⟨rfl, rfl⟩ | ⟨rfl, q1, q2, rfl⟩
          · go_wp2
            all_goals first
              | (go_round
                 case rel => exact Or.inr ⟨rfl, by omega, by omega, by go_num⟩
                 case measure => simp [intOf])
              | (go_ret
                 exact ⟨ret_int (by rw [hv.out, if_neg (by omega)]; rfl), rfl⟩)
          · go_wp2
            all_goals try (exfalso; have := h1.out; omega)
            go_ret
            exact ⟨ret_int (by rw [hv.out, if_pos (by have := h48.out; omega)]; omega), rfl⟩
    · have h2 : s.size = 2 := by omega
      have h01 : 1 < s.size := by omega
      have hb1 := (s[1]'h01).toNat_lt
      have hl : s.data.toList = [s[0], s[1]] := by
        have h3 : s.data.toList[1]? = some s[1] := by
          have h' : 1 < s.data.toList.length := by simpa using h01
          rw [List.getElem?_eq_getElem h']; rfl
        match hx : s.data.toList, ba_len s, ba_at0 s h0, h3 with
        | [a, b], _, ha, hb => simp at ha hb; rw [ha, hb]
        | [], hz, _, _ => simp at hz; omega
        | [_], hz, _, _ => simp at hz; omega
        | _ :: _ :: _ :: _, hz, _, _ => simp at hz; omega
      have hv := hide (numV_2 s[0] s[1])
      rw [hl]
      clear h h1 hl
      obtain ⟨v, hvv⟩ : ∃ v, numV [s[0], s[1]] = v := ⟨_, rfl⟩
      have hv : Hid (v = if 49 ≤ s[0].toNat ∧ s[0].toNat ≤ 57 ∧ 48 ≤ s[1].toNat ∧ s[1].toNat ≤ 57 then 10 * (s[0].toNat - 48) + (s[1].toNat - 48) else 0) := by rw [← hvv]; exact hv.out
      rw [hvv]
      clear hvv
      have e1 : ((s[0].toNat : Int) == 48) = decide (s[0].toNat = 48) := by rw [Bool.eq_iff_iff]; simp; omega
      have h2 := hide h2
      have hz1 : 1 < s.size := h01
      have hz2 : s.size < 3 := by have := h2.out; omega
      by_cases h48 : s[0].toNat = 48
      · rw [decide_eq_true h48] at e1
        have h48 := hide h48
        go_enter Tryz.func155, Tryz.ntmps155
        go_wp2
        go_ret
        exact ⟨ret_int (by rw [hv.out, if_neg (by have := h48.out; omega)]; rfl), rfl⟩
      · rw [decide_eq_false h48] at e1
        have h48 := hide h48
        go_enter Tryz.func155, Tryz.ntmps155
        go_wp2
        go_loop [3, 4] (fun n i => (i = .int .i64 0 ∧ n = .int .i64 0) ∨ (i = .int .i64 1 ∧ 48 ≤ s[0].toNat ∧ s[0].toNat ≤ 57 ∧ n = .int .i64 ((s[0].toNat : Int) - 48)) ∨ (i = .int .i64 2 ∧ 48 ≤ s[0].toNat ∧ s[0].toNat ≤ 57 ∧ 48 ≤ s[1].toNat ∧ s[1].toNat ≤ 57 ∧ n = .int .i64 (10 * ((s[0].toNat : Int) - 48) + ((s[1].toNat : Int) - 48)))) (fun _ i => (3 - intOf i).toNat)
        case atStart => exact Or.inl ⟨rfl, rfl⟩
        case round =>
          rcases hrel with ⟨rfl, rfl⟩ | ⟨rfl, q1, q2, rfl⟩ | ⟨rfl, q1, q2, q3, q4, rfl⟩
          · go_wp2
            all_goals first
              | (go_round
                 case rel => exact Or.inr (Or.inl ⟨rfl, by omega, by omega, by go_num⟩)
                 case measure => simp [intOf])
              | (go_ret
                 exact ⟨ret_int (by rw [hv.out, if_neg (by omega)]; rfl), rfl⟩)
          · go_wp2
            all_goals first
              | (go_round
                 case rel => exact Or.inr (Or.inr ⟨rfl, by omega, by omega, by omega, by omega, by go_num⟩)
                 case measure => simp [intOf])
              | (go_ret
                 exact ⟨ret_int (by rw [hv.out, if_neg (by omega)]; rfl), rfl⟩)
          · go_wp2
            all_goals try (exfalso; have := h2.out; omega)
            go_ret
            exact ⟨ret_int (by rw [hv.out, if_pos (by have := h48.out; omega)]; omega), rfl⟩
end Go.Proofs.YtdnnahdafhddlaaGreatDoor

namespace Go.Proofs.YtdnnahdafhddlaaGreatDoor
open Go.RowKit
set_option maxRecDepth 100000

theorem word_hit' (s : ByteArray) (k : Nat) (hk : k < 5) (h : wordIdx s.data.toList = k) : (s.toList == wordName k) = true := by
  have := word_hit s k hk h
  rw [beq_iff_eq] at this ⊢
  exact this.symm
theorem word_miss' (s : ByteArray) (k : Nat) (h : k < wordIdx s.data.toList) : (s.toList == wordName k) = false := by
  have := word_miss s k h
  rw [beq_eq_false_iff_ne] at this ⊢
  exact fun e => this e.symm
theorem Wds.cell {w : World} (h : Wds w) (k : Nat) (hk : k < 5) : w.cell? ⟨3, k, none⟩ = some (.string ⟨(wordName k).toArray⟩) := by
  obtain ⟨t, r, hr⟩ := h
  rw [cell_of_row w _ k _ _ _ hr]
  match k, hk with
  | 0, _ | 1, _ | 2, _ | 3, _ | 4, _ => rfl
theorem numOk_iff (l : List UInt8) : numOk l = decide (numV l ≠ 0) := by
  unfold numOk numV
  cases h : numL l with
  | none => rfl
  | some n => have := numL_parts h; simp; omega
theorem numV_le (l : List UInt8) : numV l ≤ 99 := by
  unfold numV
  cases h : numL l with
  | none => simp
  | some n => have := numL_parts h; simp; omega
/-- What itemR comes to, in terms of the two numbers. -/
theorem itemR_ways (x z : List UInt8) (n : Nat) : (numV x = 0 ∧ itemR x z n = (0, 4)) ∨ (numV x ≠ 0 ∧ numV z = 0 ∧ itemR x z n = (0, 4)) ∨
    (1 ≤ numV x ∧ 1 ≤ numV z ∧ (n < numV x ∨ n < numV z ∨ numV z < numV x) ∧ itemR x z n = (0, 3)) ∨
    (1 ≤ numV x ∧ 1 ≤ numV z ∧ numV x ≤ n ∧ numV z ≤ n ∧ numV x ≤ numV z ∧ itemR x z n = (spanN (numV x) (numV z), 0)) := by
  unfold itemR
  rw [numOk_iff, numOk_iff]
  by_cases h1 : numV x = 0
  · exact Or.inl ⟨h1, by rw [if_pos (by simp [h1])]⟩
  · by_cases h2 : numV z = 0
    · exact Or.inr (Or.inl ⟨h1, h2, by rw [if_pos (by simp [h2])]⟩)
    · rw [if_neg (by simp [h1, h2])]
      by_cases h3 : n < numV x ∨ n < numV z ∨ numV z < numV x
      · exact Or.inr (Or.inr (Or.inl ⟨by omega, by omega, h3, if_pos h3⟩))
      · exact Or.inr (Or.inr (Or.inr ⟨by omega, by omega, by omega, by omega, by omega, if_neg h3⟩))

set_option maxHeartbeats 4000000 in
theorem r5item_walk (s : ByteArray) (n : Nat) (h1 : 1 ≤ n) (h2 : n ≤ 20) (hs : s.size < 1073741824) (w : World) (hW : Wds w) :
    Calls Tryz.prog 194 #[.string s, .int .i64 n] w fun e w' => e = .returned (.tuple #[.int .i64 (itemV s.data.toList n).1, .int .i64 (itemV s.data.toList n).2]) ∧ Below w.heap.size w w' := by
  obtain ⟨x, y, t, hc⟩ : ∃ x y t, cut1 45 s.data.toList = (x, y, t) := ⟨_, _, _, rfl⟩
  have hc := hide hc
  obtain ⟨v, hv⟩ : ∃ v, itemV s.data.toList n = v := ⟨_, rfl⟩
  rw [hv]
  have hv := hide hv
  have h5 := wordIdx_le s.data.toList
  go_enter Tryz.func194, Tryz.ntmps194
  go_wp2
  go_loop [6] (fun i => ∃ k : Nat, k ≤ wordIdx s.data.toList ∧ i = .int .i64 k) (fun i => (5 - intOf i).toNat)
  case atStart => exact ⟨0, Nat.zero_le _, rfl⟩
  case round =>
    obtain ⟨k, hk, rfl⟩ := hrel
    have hkk : k = wordIdx s.data.toList ∧ k < 5 ∨ k < wordIdx s.data.toList ∧ k < 5 ∨ k = wordIdx s.data.toList ∧ k = 5 := by omega
    rcases hkk with ⟨e, h5⟩ | ⟨e, h5⟩ | ⟨e, h5⟩
    · have hw := word_hit' s k h5 e.symm
      have hfin : Hid (v = (wordVal n k, 0)) := by have := hv.out; unfold itemV at this; rw [← e, if_pos h5] at this; exact this.symm
      have c0 := hW.cell k h5
      have k0 : (0 : Int) ≤ k := by omega
      clear hk e hv hc
      go_wp2_with (go_at_call 121; refine (named_walk k n (by omega) h1 h2 _).mono ?_; rintro e w' ⟨rfl, rfl⟩)
      go_ret2
      exact ⟨ret_ii (by rw [hfin.out]) (by rw [hfin.out]; rfl), Below.refl _ _⟩
    · have hw := word_miss' s k e
      have c0 := hW.cell k h5
      go_wp2
      go_round
      case rel => exact ⟨k + 1, e, by go_num⟩
      case measure => simp [intOf]; omega
    · obtain rfl : k = 5 := h5
      have hfin : Hid (v = itemR x (if t then y else x) n) := by
        have := hv.out
        unfold itemV at this
        rw [← e, if_neg (by omega), cut_eq, hc.out] at this
        exact this.symm
      clear hv hk e
      obtain ⟨z, hz⟩ : ∃ z, (if t then y else x) = z := ⟨_, rfl⟩
      rw [hz] at hfin
      have hy : t = true → y = z := fun h => by rw [h] at hz; exact hz
      have hx : t = false → x = z := fun h => by rw [h] at hz; exact hz
      clear hz
      have hcase := itemR_ways x z n
      have hlx := numV_le x
      have hlz := numV_le z
      have hs := hide hs
      have e0 : ∀ m : Nat, m = 0 → ((m : Int) == 0) = true := fun m h => by rw [h]; rfl
      have e1 : ∀ m : Nat, m ≠ 0 → ((m : Int) == 0) = false := fun m h => by rw [beq_eq_false_iff_ne]; omega
      rcases hcase with ⟨ha, hr⟩ | ⟨ha, hb', hr⟩ | ⟨ha, hb', hk, hr⟩ | ⟨ha, hb', k1, k2, k3, hr⟩
      · have bx := e0 _ ha
        rw [hr] at hfin
        clear hr e0 e1 ha hx hy hlz hlx
        cases t with
        | true =>
          go_wp2_with fail
          refine (r5Cut_walk s 45 45 rfl x y true hs.out hc.out _).mono ?_
          rintro e w1 ⟨rfl, hb1⟩
          go_wp2_with (go_at_call 155; refine (small_walk _ _).mono ?_; rintro e w' ⟨rfl, rfl⟩)
          go_ret2
          exact ⟨ret_ii (by rw [hfin.out]; rfl) (by rw [hfin.out]; rfl), hb1⟩
        | false =>
          go_wp2_with fail
          refine (r5Cut_walk s 45 45 rfl x y false hs.out hc.out _).mono ?_
          rintro e w1 ⟨rfl, hb1⟩
          go_wp2_with (go_at_call 155; refine (small_walk _ _).mono ?_; rintro e w' ⟨rfl, rfl⟩)
          go_ret2
          exact ⟨ret_ii (by rw [hfin.out]; rfl) (by rw [hfin.out]; rfl), hb1⟩
      · have bx := e1 _ ha
        have bz := e0 _ hb'
        rw [hr] at hfin
        clear hr e0 e1
        cases t with
        | true =>
          obtain rfl := hy rfl
          clear hx hy ha hb'
          go_wp2_with fail
          refine (r5Cut_walk s 45 45 rfl x y true hs.out hc.out _).mono ?_
          rintro e w1 ⟨rfl, hb1⟩
          go_wp2_with (go_at_call 155; refine (small_walk _ _).mono ?_; rintro e w' ⟨rfl, rfl⟩)
          go_ret2
          exact ⟨ret_ii (by rw [hfin.out]; rfl) (by rw [hfin.out]; rfl), hb1⟩
        | false =>
          obtain rfl := hx rfl
          exact absurd hb' ha
      · have bx := e1 _ (by omega : numV x ≠ 0)
        have bz := e1 _ (by omega : numV z ≠ 0)
        rw [hr] at hfin
        clear hr e0 e1
        cases t with
        | true =>
          obtain rfl := hy rfl
          clear hx hy
          go_wp2_with fail
          refine (r5Cut_walk s 45 45 rfl x y true hs.out hc.out _).mono ?_
          rintro e w1 ⟨rfl, hb1⟩
          go_wp2_with (go_at_call 155; refine (small_walk _ _).mono ?_; rintro e w' ⟨rfl, rfl⟩)
          all_goals try (exfalso; omega)
          all_goals go_ret2
          all_goals exact ⟨ret_ii (by rw [hfin.out]; rfl) (by rw [hfin.out]; rfl), hb1⟩
        | false =>
          obtain rfl := hx rfl
          clear hx hy
          go_wp2_with fail
          refine (r5Cut_walk s 45 45 rfl x y false hs.out hc.out _).mono ?_
          rintro e w1 ⟨rfl, hb1⟩
          go_wp2_with (go_at_call 155; refine (small_walk _ _).mono ?_; rintro e w' ⟨rfl, rfl⟩)
          all_goals try (exfalso; omega)
          all_goals go_ret2
          all_goals exact ⟨ret_ii (by rw [hfin.out]; rfl) (by rw [hfin.out]; rfl), hb1⟩
      · have bx := e1 _ (by omega : numV x ≠ 0)
        have bz := e1 _ (by omega : numV z ≠ 0)
        rw [hr] at hfin
        clear hr e0 e1
        obtain ⟨p, hp⟩ : ∃ p, numV x = p := ⟨_, rfl⟩
        obtain ⟨q, hq⟩ : ∃ q, numV z = q := ⟨_, rfl⟩
        rw [hp, hq] at hfin
        rw [hp] at bx ha k1 k3
        rw [hq] at bz hb' k2 k3
        clear hlx hlz
        have HP := hide hp
        have HQ := hide hq
        clear hp hq
        cases t with
        | true =>
          obtain rfl := hy rfl
          clear hx hy
          go_wp2_with fail
          refine (r5Cut_walk s 45 45 rfl x y true hs.out hc.out _).mono ?_
          rintro e w1 ⟨rfl, hb1⟩
          go_wp2_with (go_at_call 155; refine (small_walk _ _).mono ?_; rintro e w' ⟨rfl, rfl⟩; first | rw [HP.out] | rw [HQ.out])
          all_goals try (exfalso; omega)
          go_loop [12, 13] (fun s i => ∃ k : Nat, p ≤ k + 1 ∧ k ≤ q ∧ i = .int .i64 ((k : Int) + 1) ∧ s = .int .i64 (maskTo (spanP p) k)) (fun _ i => (21 - intOf i).toNat)
          case atStart => exact ⟨p - 1, by omega, by omega, by congr 1; omega, by rw [span_empty _ _ (by omega)]; rfl⟩
          case round =>
            obtain ⟨k, g1, g2, rfl, rfl⟩ := hrel
            by_cases hlt : k < q
            · have HS := hide (or_step (spanP p) k (by omega) (by simp [spanP]; omega))
              go_wp2
              go_round
              case rel => exact ⟨k + 1, by omega, by omega, by go_num, by rw [HS.out]⟩
              case measure => simp [intOf]; omega
            · obtain rfl : k = q := by omega
              go_wp2
              go_ret2
              exact ⟨ret_ii (by rw [hfin.out]; rfl) (by rw [hfin.out]; rfl), hb1⟩
        | false =>
          obtain rfl := hx rfl
          clear hx hy
          obtain rfl : p = q := HP.out.symm.trans HQ.out
          go_wp2_with fail
          refine (r5Cut_walk s 45 45 rfl x y false hs.out hc.out _).mono ?_
          rintro e w1 ⟨rfl, hb1⟩
          go_wp2_with (go_at_call 155; refine (small_walk _ _).mono ?_; rintro e w' ⟨rfl, rfl⟩; first | rw [HP.out] | rw [HQ.out])
          all_goals try (exfalso; omega)
          go_loop [12, 13] (fun s i => ∃ k : Nat, p ≤ k + 1 ∧ k ≤ p ∧ i = .int .i64 ((k : Int) + 1) ∧ s = .int .i64 (maskTo (spanP p) k)) (fun _ i => (21 - intOf i).toNat)
          case atStart => exact ⟨p - 1, by omega, by omega, by congr 1; omega, by rw [span_empty _ _ (by omega)]; rfl⟩
          case round =>
            obtain ⟨k, g1, g2, rfl, rfl⟩ := hrel
            by_cases hlt : k < p
            · have HS := hide (or_step (spanP p) k (by omega) (by simp [spanP]; omega))
              go_wp2
              go_round
              case rel => exact ⟨k + 1, by omega, by omega, by go_num, by rw [HS.out]⟩
              case measure => simp [intOf]; omega
            · obtain rfl : k = p := by omega
              go_wp2
              go_ret2
              exact ⟨ret_ii (by rw [hfin.out]; rfl) (by rw [hfin.out]; rfl), hb1⟩

/-- What is still to come of a text. -/
def remV (n : Nat) (r : List UInt8) (more : Bool) (acc : Nat) : Nat × Nat := if more then itemsV n (splitOn1 44 r) acc else itemsV n [] acc
def moreM (s m : Value) : Nat := match s, m with
  | .string b, .bool true => b.size + 1
  | _, _ => 0
theorem remV_step {n : Nat} {r x y : List UInt8} {t : Bool} (hc : cut1 44 r = (x, y, t)) (acc : Nat) : remV n r true acc = if (itemV x n).2 = 0 then remV n y t (acc ||| (itemV x n).1) else (0, (itemV x n).2) := by
  have h1 : remV n r true acc = itemsV n (splitOn1 44 r) acc := rfl
  rw [h1, splitOn1_cut, hc]
  cases t with
  | true => exact itemsV_cons n x _ acc
  | false =>
    obtain ⟨h2, -, -⟩ := cut1_none 44 r (by rw [hc])
    rw [hc] at h2
    have h2 : x = r := h2
    subst h2
    exact itemsV_cons n x [] acc
theorem cut1_len {c : UInt8} {r x y : List UInt8} {t : Bool} (hc : cut1 c r = (x, y, t)) : x.length ≤ r.length ∧ y.length ≤ r.length ∧ (t = true → y.length < r.length) := by
  cases t with
  | true =>
    have h := cut1_split c r (by rw [hc])
    rw [hc] at h
    have h := congrArg List.length h
    simp at h
    exact ⟨by omega, by omega, fun _ => by omega⟩
  | false =>
    obtain ⟨h1, h2, -⟩ := cut1_none c r (by rw [hc])
    rw [hc] at h1 h2
    have h1 : x = r := h1
    have h2 : y = [] := h2
    subst h1 h2
    exact ⟨Nat.le_refl _, by simp, fun h => by cases h⟩
set_option maxHeartbeats 4000000 in
theorem r5Parse_walk (s : ByteArray) (n : Int) (hs : s.size < 1073741824) (w : World) (hS : Std w) (hW : Wds w) :
    Calls Tryz.prog 157 #[.string s, .int .i64 n] w fun e w' => e = .returned (.tuple #[.int .i64 (parseV s n).1, .int .i64 (parseV s n).2]) ∧ Below w.heap.size w w' := by
  by_cases hn : n < 1 ∨ 20 < n
  · rw [show parseV s n = (0, 3) from if_pos hn]
    go_enter Tryz.func157, Tryz.ntmps157
    go_wp2
    all_goals try (exfalso; omega)
    all_goals go_ret2
    all_goals exact ⟨rfl, Below.refl _ _⟩
  · have h1 : 1 ≤ n := by omega
    have h2 : n ≤ 20 := by omega
    rw [show parseV s n = itemsV n.toNat ((itemsOf s).map (·.data.toList)) 0 from if_neg hn, itemsOf_eq]
    clear hn
    obtain ⟨n, rfl⟩ := Int.eq_ofNat_of_zero_le (by omega : 0 ≤ n)
    rw [Int.toNat_natCast]
    obtain ⟨v, hv⟩ : ∃ v, itemsV n (splitOn1 44 s.data.toList) 0 = v := ⟨_, rfl⟩
    rw [hv]
    have hv := hide hv
    go_enter Tryz.func157, Tryz.ntmps157
    go_wp2
    go_loopw [0, 6, 7] (fun r a m wr => ∃ (b : ByteArray) (acc : Nat) (more : Bool), b.size < 1073741824 ∧ acc < 1048576 ∧ r = .string b ∧ a = .int .i64 acc ∧ m = .bool more ∧ remV n b.data.toList more acc = v ∧ Below w.heap.size w wr) (fun r _ m _ => moreM r m)
    case atStart => exact ⟨s, 0, true, hs, by omega, rfl, rfl, rfl, hv.out, Below.refl _ _⟩
    case round =>
      obtain ⟨r, acc, more, hr, hacc, rfl, rfl, rfl, hrem, hb⟩ := hrel
      have hS1 := hS.after hb
      have hW1 := hW.after hb hS
      cases more with
      | true =>
        obtain ⟨x, y, t, hc⟩ : ∃ x y t, cut1 44 r.data.toList = (x, y, t) := ⟨_, _, _, rfl⟩
        rw [remV_step hc] at hrem
        obtain ⟨l1, l2, l3⟩ := cut1_len hc
        rw [ba_len] at l1 l2 l3
        have hc := hide hc
        have hil := itemV_lt x n (by omega)
        obtain ⟨q, hq⟩ : ∃ q, itemV x n = q := ⟨_, rfl⟩
        rw [hq] at hrem hil
        have hq := hide hq
        have l3 := hide l3
        have hr' := hide hr
        have hx : (⟨x.toArray⟩ : ByteArray).size < 1073741824 := by show x.toArray.size < _; simp; omega
        have hx := hide hx
        clear hv
        by_cases he : q.2 = 0
        · rw [if_pos he] at hrem
          have hor := hide (i64_or_nat acc q.1 (by omega) (by omega))
          have hol := or_lt acc q.1 hacc hil.1
          have hrem := hide hrem
          have he' : ((q.2 : Int) != 0) = false := by simp [he]
          have he := hide he
          clear hil hacc
          have hol := hide hol
          go_wp2_with fail
          refine (r5Cut_walk r 44 44 rfl x y t hr'.out hc.out _).mono ?_
          rintro e w1 ⟨rfl, hb1⟩
          have hW2 := hW1.after hb1 hS1
          go_wp2_with fail
          refine (r5item_walk ⟨x.toArray⟩ n (by omega) (by omega) hx.out _ hW2).mono ?_
          rintro e w2 ⟨rfl, hb2⟩
          rw [show (ByteArray.mk x.toArray).data.toList = x from rfl, hq.out]
          go_wp2
          go_roundw
          case rel => exact ⟨⟨y.toArray⟩, acc ||| q.1, t, by show y.toArray.size < _; have := hr'.out; simp; omega, hol.out, rfl, by rw [hor.out], rfl, hrem.out, ext_trans (ext_trans hb hb1) hb2⟩
          case measure =>
            cases t with
            | true =>
              have := l3.out rfl
              show y.toArray.size + 1 < r.size + 1
              rw [List.size_toArray]; omega
            | false => exact Nat.succ_pos _
        · rw [if_neg he] at hrem
          have hrem := hide hrem
          have he' : ((q.2 : Int) != 0) = true := by simp [he]
          have he := hide he
          clear hil hacc
          go_wp2_with fail
          refine (r5Cut_walk r 44 44 rfl x y t hr'.out hc.out _).mono ?_
          rintro e w1 ⟨rfl, hb1⟩
          have hW2 := hW1.after hb1 hS1
          go_wp2_with fail
          refine (r5item_walk ⟨x.toArray⟩ n (by omega) (by omega) hx.out _ hW2).mono ?_
          rintro e w2 ⟨rfl, hb2⟩
          rw [show (ByteArray.mk x.toArray).data.toList = x from rfl, hq.out]
          go_wp2
          go_ret2
          exact ⟨ret_ii (by rw [← hrem.out]; rfl) (by rw [← hrem.out]), ext_trans (ext_trans hb hb1) hb2⟩
      | false =>
        have hnil : itemsV n [] acc = v := hrem
        clear hrem hv
        by_cases ha : acc = 0
        · have hfin : Hid (v = (0, 16)) := by rw [← hnil]; exact if_pos ha
          clear hnil
          subst ha
          go_wp2
          go_ret2
          exact ⟨ret_ii (by rw [hfin.out]; rfl) (by rw [hfin.out]; rfl), hb⟩
        · have hfin : Hid (v = (acc, 0)) := by rw [← hnil]; exact if_neg ha
          have ha' : ((acc : Int) == 0) = false := by simp [ha]
          clear hnil
          go_wp2
          go_ret2
          exact ⟨ret_ii (by rw [hfin.out]) (by rw [hfin.out]; rfl), hb⟩
end Go.Proofs.YtdnnahdafhddlaaGreatDoor
