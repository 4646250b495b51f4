/- Walks of package timetableref05, on: item, Parse. Conditions: texts shorter than 2^30 bytes; the variable words holds its five words. -/
import Derived.Test.YtgbkochjoaalhaaGreatDoorRef5B
namespace Go.Proofs.YtgbkochjoaalhaaGreatDoor
open Go.RowKit
set_option maxRecDepth 100000

theorem word_hit' (s : ByteArray) (k : Nat) (hk : k < 5) (h : wordIdx s.data.toList = k) : (s.toList == wordName k) = true := by
  have := word_hit s k hk h
  rw [beq_iff_eq] at this ⊢
  exact this.symm
theorem word_miss' (s : ByteArray) (k : Nat) (h : k < wordIdx s.data.toList) : (s.toList == wordName k) = false := by
  have := word_miss s k h
  rw [beq_eq_false_iff_ne] at this ⊢
  exact fun e => this e.symm
theorem Wds.cell {w : World} (h : Wds w) (k : Nat) (hk : k < 5) : w.cell? ⟨2, k, none⟩ = some (.string ⟨(wordName k).toArray⟩) := by
  obtain ⟨t, r, hr⟩ := h
  rw [cell_of_row w _ k _ _ _ hr]
  match k, hk with
  | 0, _ | 1, _ | 2, _ | 3, _ | 4, _ => rfl
theorem numOk_iff (l : List UInt8) : numOk l = decide (numV l ≠ 0) := by
  unfold numOk numV
  cases h : numL l with
  | none => rfl
  | some n => have := numL_parts h; simp; omega
theorem numV_le (l : List UInt8) : numV l ≤ 99 := by
  unfold numV
  cases h : numL l with
  | none => simp
  | some n => have := numL_parts h; simp; omega
/-- What itemR comes to, in terms of the two numbers. -/
theorem itemR_ways (x z : List UInt8) (n : Nat) : (numV x = 0 ∧ itemR x z n = (0, 4)) ∨ (numV x ≠ 0 ∧ numV z = 0 ∧ itemR x z n = (0, 4)) ∨
    (1 ≤ numV x ∧ 1 ≤ numV z ∧ (n < numV x ∨ n < numV z ∨ numV z < numV x) ∧ itemR x z n = (0, 3)) ∨
    (1 ≤ numV x ∧ 1 ≤ numV z ∧ numV x ≤ n ∧ numV z ≤ n ∧ numV x ≤ numV z ∧ itemR x z n = (spanN (numV x) (numV z), 0)) := by
  unfold itemR
  rw [numOk_iff, numOk_iff]
  by_cases h1 : numV x = 0
  · exact Or.inl ⟨h1, by rw [if_pos (by simp [h1])]⟩
  · by_cases h2 : numV z = 0
    · exact Or.inr (Or.inl ⟨h1, h2, by rw [if_pos (by simp [h2])]⟩)
    · rw [if_neg (by simp [h1, h2])]
      by_cases h3 : n < numV x ∨ n < numV z ∨ numV z < numV x
      · exact Or.inr (Or.inr (Or.inl ⟨by omega, by omega, h3, if_pos h3⟩))
      · exact Or.inr (Or.inr (Or.inr ⟨by omega, by omega, by omega, by omega, by omega, if_neg h3⟩))

set_option maxHeartbeats 4000000 in
theorem r5item_walk (s : ByteArray) (n : Nat) (h1 : 1 ≤ n) (h2 : n ≤ 20) (hs : s.size < 1073741824) (w : World) (hW : Wds w) :
    Calls Tryz.prog 100 #[.string s, .int .i64 n] w fun e w' => e = .returned (.tuple #[.int .i64 (itemV s.data.toList n).1, .int .i64 (itemV s.data.toList n).2]) ∧ Below w.heap.size w w' := by
  obtain ⟨x, y, t, hc⟩ : ∃ x y t, cut1 45 s.data.toList = (x, y, t) := ⟨_, _, _, rfl⟩
  have hc := hide hc
  obtain ⟨v, hv⟩ : ∃ v, itemV s.data.toList n = v := ⟨_, rfl⟩
  rw [hv]
  have hv := hide hv
  have h5 := wordIdx_le s.data.toList
  go_enter Tryz.func100, Tryz.ntmps100
  go_wp2
  go_loop [6] (fun i => ∃ k : Nat, k ≤ wordIdx s.data.toList ∧ i = .int .i64 k) (fun i => (5 - intOf i).toNat)
  case atStart => exact ⟨0, Nat.zero_le _, rfl⟩
  case round =>
    obtain ⟨k, hk, rfl⟩ := hrel
    have hkk : k = wordIdx s.data.toList ∧ k < 5 ∨ k < wordIdx s.data.toList ∧ k < 5 ∨ k = wordIdx s.data.toList ∧ k = 5 := by omega
    rcases hkk with ⟨e, h5⟩ | ⟨e, h5⟩ | ⟨e, h5⟩
    · have hw := word_hit' s k h5 e.symm
      have hfin : Hid (v = (wordVal n k, 0)) := by have := hv.out; unfold itemV at this; rw [← e, if_pos h5] at this; exact this.symm
      have c0 := hW.cell k h5
      have k0 : (0 : Int) ≤ k := by omega
      clear hk e hv hc
      go_wp2_with (go_at_call 93; refine (named_walk k n (by omega) h1 h2 _).mono ?_; rintro e w' ⟨rfl, rfl⟩)
      go_ret2
      exact ⟨ret_ii (by rw [hfin.out]) (by rw [hfin.out]; rfl), Below.refl _ _⟩
    · have hw := word_miss' s k e
      have c0 := hW.cell k h5
      go_wp2
      go_round
      case rel => exact ⟨k + 1, e, by go_num⟩
      case measure => simp [intOf]; omega
    · obtain rfl : k = 5 := h5
      have hfin : Hid (v = itemR x (if t then y else x) n) := by
        have := hv.out
        unfold itemV at this
        rw [← e, if_neg (by omega), cut_eq, hc.out] at this
        exact this.symm
      clear hv hk e
      obtain ⟨z, hz⟩ : ∃ z, (if t then y else x) = z := ⟨_, rfl⟩
      rw [hz] at hfin
      have hy : t = true → y = z := fun h => by rw [h] at hz; exact hz
      have hx : t = false → x = z := fun h => by rw [h] at hz; exact hz
      clear hz
      have hcase := itemR_ways x z n
      have hlx := numV_le x
      have hlz := numV_le z
      have hs := hide hs
      have e0 : ∀ m : Nat, m = 0 → ((m : Int) == 0) = true := fun m h => by rw [h]; rfl
      have e1 : ∀ m : Nat, m ≠ 0 → ((m : Int) == 0) = false := fun m h => by rw [beq_eq_false_iff_ne]; omega
      rcases hcase with ⟨ha, hr⟩ | ⟨ha, hb', hr⟩ | ⟨ha, hb', hk, hr⟩ | ⟨ha, hb', k1, k2, k3, hr⟩
      · have bx := e0 _ ha
        rw [hr] at hfin
        clear hr e0 e1 ha hx hy hlz hlx
        cases t with
        | true =>
          go_wp2_with fail
          refine (r5Cut_walk s 45 45 rfl x y true hs.out hc.out _).mono ?_
          rintro e w1 ⟨rfl, hb1⟩
          go_wp2_with (go_at_call 59; refine (small_walk _ _).mono ?_; rintro e w' ⟨rfl, rfl⟩)
          go_ret2
          exact ⟨ret_ii (by rw [hfin.out]; rfl) (by rw [hfin.out]; rfl), hb1⟩
        | false =>
          go_wp2_with fail
          refine (r5Cut_walk s 45 45 rfl x y false hs.out hc.out _).mono ?_
          rintro e w1 ⟨rfl, hb1⟩
          go_wp2_with (go_at_call 59; refine (small_walk _ _).mono ?_; rintro e w' ⟨rfl, rfl⟩)
          go_ret2
          exact ⟨ret_ii (by rw [hfin.out]; rfl) (by rw [hfin.out]; rfl), hb1⟩
      · have bx := e1 _ ha
        have bz := e0 _ hb'
        rw [hr] at hfin
        clear hr e0 e1
        cases t with
        | true =>
          obtain rfl := hy rfl
          clear hx hy ha hb'
          go_wp2_with fail
          refine (r5Cut_walk s 45 45 rfl x y true hs.out hc.out _).mono ?_
          rintro e w1 ⟨rfl, hb1⟩
          go_wp2_with (go_at_call 59; refine (small_walk _ _).mono ?_; rintro e w' ⟨rfl, rfl⟩)
          go_ret2
          exact ⟨ret_ii (by rw [hfin.out]; rfl) (by rw [hfin.out]; rfl), hb1⟩
        | false =>
          obtain rfl := hx rfl
          exact absurd hb' ha
      · have bx := e1 _ (by omega : numV x ≠ 0)
        have bz := e1 _ (by omega : numV z ≠ 0)
        rw [hr] at hfin
        clear hr e0 e1
        cases t with
        | true =>
          obtain rfl := hy rfl
          clear hx hy
          go_wp2_with fail
          refine (r5Cut_walk s 45 45 rfl x y true hs.out hc.out _).mono ?_
          rintro e w1 ⟨rfl, hb1⟩
          go_wp2_with (go_at_call 59; refine (small_walk _ _).mono ?_; rintro e w' ⟨rfl, rfl⟩)
          all_goals try (exfalso; omega)
          all_goals go_ret2
          all_goals exact ⟨ret_ii (by rw [hfin.out]; rfl) (by rw [hfin.out]; rfl), hb1⟩
        | false =>
          obtain rfl := hx rfl
          clear hx hy
          go_wp2_with fail
          refine (r5Cut_walk s 45 45 rfl x y false hs.out hc.out _).mono ?_
          rintro e w1 ⟨rfl, hb1⟩
          go_wp2_with (go_at_call 59; refine (small_walk _ _).mono ?_; rintro e w' ⟨rfl, rfl⟩)
          all_goals try (exfalso; omega)
          all_goals go_ret2
          all_goals exact ⟨ret_ii (by rw [hfin.out]; rfl) (by rw [hfin.out]; rfl), hb1⟩
      · have bx := e1 _ (by omega : numV x ≠ 0)
        have bz := e1 _ (by omega : numV z ≠ 0)
        rw [hr] at hfin
        clear hr e0 e1
        obtain ⟨p, hp⟩ : ∃ p, numV x = p := ⟨_, rfl⟩
        obtain ⟨q, hq⟩ : ∃ q, numV z = q := ⟨_, rfl⟩
        rw [hp, hq] at hfin
        rw [hp] at bx ha k1 k3
        rw [hq] at bz hb' k2 k3
        clear hlx hlz
        have HP := hide hp
        have HQ := hide hq
        clear hp hq
        cases t with
        | true =>
          obtain rfl := hy rfl
          clear hx hy
          go_wp2_with fail
          refine (r5Cut_walk s 45 45 rfl x y true hs.out hc.out _).mono ?_
          rintro e w1 ⟨rfl, hb1⟩
          go_wp2_with (go_at_call 59; refine (small_walk _ _).mono ?_; rintro e w' ⟨rfl, rfl⟩; first | rw [HP.out] | rw [HQ.out])
          all_goals try (exfalso; omega)
          go_loop [12, 13] (fun s i => ∃ k : Nat, p ≤ k + 1 ∧ k ≤ q ∧ i = .int .i64 ((k : Int) + 1) ∧ s = .int .i64 (maskTo (spanP p) k)) (fun _ i => (21 - intOf i).toNat)
          case atStart => exact ⟨p - 1, by omega, by omega, by congr 1; omega, by rw [span_empty _ _ (by omega)]; rfl⟩
          case round =>
            obtain ⟨k, g1, g2, rfl, rfl⟩ := hrel
            by_cases hlt : k < q
            · have HS := hide (or_step (spanP p) k (by omega) (by simp [spanP]; omega))
              go_wp2
              go_round
              case rel => exact ⟨k + 1, by omega, by omega, by go_num, by rw [HS.out]⟩
              case measure => simp [intOf]; omega
            · obtain rfl : k = q := by omega
              go_wp2
              go_ret2
              exact ⟨ret_ii (by rw [hfin.out]; rfl) (by rw [hfin.out]; rfl), hb1⟩
        | false =>
          obtain rfl := hx rfl
          clear hx hy
          obtain rfl : p = q := HP.out.symm.trans HQ.out
          go_wp2_with fail
          refine (r5Cut_walk s 45 45 rfl x y false hs.out hc.out _).mono ?_
          rintro e w1 ⟨rfl, hb1⟩
          go_wp2_with (go_at_call 59; refine (small_walk _ _).mono ?_; rintro e w' ⟨rfl, rfl⟩; first | rw [HP.out] | rw [HQ.out])
          all_goals try (exfalso; omega)
          go_loop [12, 13] (fun s i => ∃ k : Nat, p ≤ k + 1 ∧ k ≤ p ∧ i = .int .i64 ((k : Int) + 1) ∧ s = .int .i64 (maskTo (spanP p) k)) (fun _ i => (21 - intOf i).toNat)
          case atStart => exact ⟨p - 1, by omega, by omega, by congr 1; omega, by rw [span_empty _ _ (by omega)]; rfl⟩
          case round =>
            obtain ⟨k, g1, g2, rfl, rfl⟩ := hrel
            by_cases hlt : k < p
            · have HS := hide (or_step (spanP p) k (by omega) (by simp [spanP]; omega))
              go_wp2
              go_round
              case rel => exact ⟨k + 1, by omega, by omega, by go_num, by rw [HS.out]⟩
              case measure => simp [intOf]; omega
            · obtain rfl : k = p := by omega
              go_wp2
              go_ret2
              exact ⟨ret_ii (by rw [hfin.out]; rfl) (by rw [hfin.out]; rfl), hb1⟩

/-- What is still to come of a text. -/
def remV (n : Nat) (r : List UInt8) (more : Bool) (acc : Nat) : Nat × Nat := if more then itemsV n (splitOn1 44 r) acc else itemsV n [] acc
def moreM (s m : Value) : Nat := match s, m with
  | .string b, .bool true => b.size + 1
  | _, _ => 0
theorem remV_step {n : Nat} {r x y : List UInt8} {t : Bool} (hc : cut1 44 r = (x, y, t)) (acc : Nat) : remV n r true acc = if (itemV x n).2 = 0 then remV n y t (acc ||| (itemV x n).1) else (0, (itemV x n).2) := by
  have h1 : remV n r true acc = itemsV n (splitOn1 44 r) acc := rfl
  rw [h1, splitOn1_cut, hc]
  cases t with
  | true => exact itemsV_cons n x _ acc
  | false =>
    obtain ⟨h2, -, -⟩ := cut1_none 44 r (by rw [hc])
    rw [hc] at h2
    have h2 : x = r := h2
    subst h2
    exact itemsV_cons n x [] acc
theorem cut1_len {c : UInt8} {r x y : List UInt8} {t : Bool} (hc : cut1 c r = (x, y, t)) : x.length ≤ r.length ∧ y.length ≤ r.length ∧ (t = true → y.length < r.length) := by
  cases t with
  | true =>
    have h := cut1_split c r (by rw [hc])
    rw [hc] at h
    have h := congrArg List.length h
    simp at h
    exact ⟨by omega, by omega, fun _ => by omega⟩
  | false =>
    obtain ⟨h1, h2, -⟩ := cut1_none c r (by rw [hc])
    rw [hc] at h1 h2
    have h1 : x = r := h1
    have h2 : y = [] := h2
    subst h1 h2
    exact ⟨Nat.le_refl _, by simp, fun h => by cases h⟩
set_option maxHeartbeats 4000000 in
theorem r5Parse_walk (s : ByteArray) (n : Int) (hs : s.size < 1073741824) (w : World) (hS : Std w) (hW : Wds w) :
    Calls Tryz.prog 61 #[.string s, .int .i64 n] w fun e w' => e = .returned (.tuple #[.int .i64 (parseV s n).1, .int .i64 (parseV s n).2]) ∧ Below w.heap.size w w' := by
  by_cases hn : n < 1 ∨ 20 < n
  · rw [show parseV s n = (0, 3) from if_pos hn]
    go_enter Tryz.func61, Tryz.ntmps61
    go_wp2
    all_goals try (exfalso; omega)
    all_goals go_ret2
    all_goals exact ⟨rfl, Below.refl _ _⟩
  · have h1 : 1 ≤ n := by omega
    have h2 : n ≤ 20 := by omega
    rw [show parseV s n = itemsV n.toNat ((itemsOf s).map (·.data.toList)) 0 from if_neg hn, itemsOf_eq]
    clear hn
    obtain ⟨n, rfl⟩ := Int.eq_ofNat_of_zero_le (by omega : 0 ≤ n)
    rw [Int.toNat_natCast]
    obtain ⟨v, hv⟩ : ∃ v, itemsV n (splitOn1 44 s.data.toList) 0 = v := ⟨_, rfl⟩
    rw [hv]
    have hv := hide hv
    go_enter Tryz.func61, Tryz.ntmps61
    go_wp2
    go_loopw [0, 6, 7] (fun r a m wr => ∃ (b : ByteArray) (acc : Nat) (more : Bool), b.size < 1073741824 ∧ acc < 1048576 ∧ r = .string b ∧ a = .int .i64 acc ∧ m = .bool more ∧ remV n b.data.toList more acc = v ∧ Below w.heap.size w wr) (fun r _ m _ => moreM r m)
    case atStart => exact ⟨s, 0, true, hs, by omega, rfl, rfl, rfl, hv.out, Below.refl _ _⟩
    case round =>
      obtain ⟨r, acc, more, hr, hacc, rfl, rfl, rfl, hrem, hb⟩ := hrel
      have hS1 := hS.after hb
      have hW1 := hW.after hb hS
      cases more with
      | true =>
        obtain ⟨x, y, t, hc⟩ : ∃ x y t, cut1 44 r.data.toList = (x, y, t) := ⟨_, _, _, rfl⟩
        rw [remV_step hc] at hrem
        obtain ⟨l1, l2, l3⟩ := cut1_len hc
        rw [ba_len] at l1 l2 l3
        have hc := hide hc
        have hil := itemV_lt x n (by omega)
        obtain ⟨q, hq⟩ : ∃ q, itemV x n = q := ⟨_, rfl⟩
        rw [hq] at hrem hil
        have hq := hide hq
        have l3 := hide l3
        have hr' := hide hr
        have hx : (⟨x.toArray⟩ : ByteArray).size < 1073741824 := by show x.toArray.size < _; simp; omega
        have hx := hide hx
        clear hv
        by_cases he : q.2 = 0
        · rw [if_pos he] at hrem
          have hor := hide (i64_or_nat acc q.1 (by omega) (by omega))
          have hol := or_lt acc q.1 hacc hil.1
          have hrem := hide hrem
          have he' : ((q.2 : Int) != 0) = false := by simp [he]
          have he := hide he
          clear hil hacc
          have hol := hide hol
          go_wp2_with fail
          refine (r5Cut_walk r 44 44 rfl x y t hr'.out hc.out _).mono ?_
          rintro e w1 ⟨rfl, hb1⟩
          have hW2 := hW1.after hb1 hS1
          go_wp2_with fail
          refine (r5item_walk ⟨x.toArray⟩ n (by omega) (by omega) hx.out _ hW2).mono ?_
          rintro e w2 ⟨rfl, hb2⟩
          rw [show (ByteArray.mk x.toArray).data.toList = x from rfl, hq.out]
          go_wp2
          go_roundw
          case rel => exact ⟨⟨y.toArray⟩, acc ||| q.1, t, by show y.toArray.size < _; have := hr'.out; simp; omega, hol.out, rfl, by rw [hor.out], rfl, hrem.out, ext_trans (ext_trans hb hb1) hb2⟩
          case measure =>
            cases t with
            | true =>
              have := l3.out rfl
              show y.toArray.size + 1 < r.size + 1
              rw [List.size_toArray]; omega
            | false => exact Nat.succ_pos _
        · rw [if_neg he] at hrem
          have hrem := hide hrem
          have he' : ((q.2 : Int) != 0) = true := by simp [he]
          have he := hide he
          clear hil hacc
          go_wp2_with fail
          refine (r5Cut_walk r 44 44 rfl x y t hr'.out hc.out _).mono ?_
          rintro e w1 ⟨rfl, hb1⟩
          have hW2 := hW1.after hb1 hS1
          go_wp2_with fail
          refine (r5item_walk ⟨x.toArray⟩ n (by omega) (by omega) hx.out _ hW2).mono ?_
          rintro e w2 ⟨rfl, hb2⟩
          rw [show (ByteArray.mk x.toArray).data.toList = x from rfl, hq.out]
          go_wp2
          go_ret2
          exact ⟨ret_ii (by rw [← hrem.out]; rfl) (by rw [← hrem.out]), ext_trans (ext_trans hb hb1) hb2⟩
      | false =>
        have hnil : itemsV n [] acc = v := hrem
        clear hrem hv
        by_cases ha : acc = 0
        · have hfin : Hid (v = (0, 16)) := by rw [← hnil]; exact if_pos ha
          clear hnil
          subst ha
          go_wp2
          go_ret2
          exact ⟨ret_ii (by rw [hfin.out]; rfl) (by rw [hfin.out]; rfl), hb⟩
        · have hfin : Hid (v = (acc, 0)) := by rw [← hnil]; exact if_neg ha
          have ha' : ((acc : Int) == 0) = false := by simp [ha]
          clear hnil
          go_wp2
          go_ret2
          exact ⟨ret_ii (by rw [hfin.out]) (by rw [hfin.out]; rfl), hb⟩
end Go.Proofs.YtgbkochjoaalhaaGreatDoor
