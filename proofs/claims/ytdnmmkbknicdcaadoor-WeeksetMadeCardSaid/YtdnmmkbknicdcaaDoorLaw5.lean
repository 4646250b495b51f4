/- The statements about weekset: their walks. No condition but what the program's variables hold. -/
import Derived.Test.YtdnmmkbknicdcaaDoorRef5D
import Derived.Test.YtdnmmkbknicdcaaDoorDice
namespace Go.Proofs.YtdnmmkbknicdcaaDoor
open Go.RowKit
set_option maxRecDepth 100000

theorem p05 : parseV ⟨#[49, 45, 51, 44, 55]⟩ 10 = (71, 0) := by decide +kernel
theorem f05 : fmtV 71 10 = ([49, 45, 51, 44, 55], 0) := by decide +kernel
set_option maxHeartbeats 1000000 in
theorem awake05_walk (w : World) (hS : Std w) :
    Calls Tryd.prog 25 #[] w fun e w' => e = .returned (.bool true) ∧ Below w.heap.size w w' := by
  have h1 := wsParse_walk ⟨#[49, 45, 51, 44, 55]⟩ 10 (by decide) w hS
  rw [p05] at h1
  replace h1 := hide h1
  have h2 : Hid (∀ w : World, Calls Tryd.prog 39 #[.int .i64 71, .int .i64 10] w fun e w' => e = .returned (.tuple #[.string ⟨[49, 45, 51, 44, 55].toArray⟩, .int .i64 0]) ∧ Below w.heap.size w w') := fun w => by
    have := wsFormat_walk 71 10 w
    rw [f05] at this
    exact this
  go_enter Tryd.func25, Tryd.ntmps25
  go_wp2_with fail
  refine h1.out.mono ?_
  rintro e w1 ⟨rfl, hb1⟩
  rw [show (((71, 0) : Nat × Nat).1 : Int) = 71 from rfl, show (((71, 0) : Nat × Nat).2 : Int) = 0 from rfl]
  go_wp2_with fail
  refine (h2.out _).mono ?_
  rintro e w2 ⟨rfl, hb2⟩
  go_wp2
  go_ret
  exact ⟨rfl, ext_trans hb1 hb2⟩

def wdA : ByteArray := ⟨#[102, 105, 114, 115, 116]⟩
def wdB : ByteArray := ⟨#[115, 101, 99, 111, 110, 100]⟩
def wdC : ByteArray := ⟨#[111, 100, 100]⟩
def wdD : ByteArray := ⟨#[101, 118, 101, 110]⟩
/-- The four sets of a term of n weeks. -/
theorem halves_all : ((List.range 21).all fun n => n < 2 || (parseV wdA n == (spanN 1 ((n + 1) / 2), 0) && parseV wdB n == (spanN ((n + 1) / 2 + 1) n, 0) && parseV wdC n == (everyN 1 n, 0) && parseV wdD n == (everyN 2 n, 0) &&
    (spanN 1 ((n + 1) / 2) &&& spanN ((n + 1) / 2 + 1) n == 0) && (spanN 1 ((n + 1) / 2) ||| spanN ((n + 1) / 2 + 1) n == 2 ^ n - 1) && (everyN 1 n &&& everyN 2 n == 0) && (everyN 1 n ||| everyN 2 n == 2 ^ n - 1) &&
    ((weeksI (spanN 1 ((n + 1) / 2))).length == (weeksI (spanN ((n + 1) / 2 + 1) n)).length + n % 2))) = true := by decide +kernel
theorem halves (n : Nat) (h1 : 2 ≤ n) (h2 : n ≤ 20) : ∃ a b c d : Nat, parseV wdA n = (a, 0) ∧ parseV wdB n = (b, 0) ∧ parseV wdC n = (c, 0) ∧ parseV wdD n = (d, 0) ∧
    bits .and .i64 (a : Int) (b : Int) = 0 ∧ bits .or .i64 (a : Int) (b : Int) = ((2 ^ n - 1 : Nat) : Int) ∧ bits .and .i64 (c : Int) (d : Int) = 0 ∧ bits .or .i64 (c : Int) (d : Int) = ((2 ^ n - 1 : Nat) : Int) ∧
    (weeksI a).length = (weeksI b).length + n % 2 ∧ (weeksI a).length ≤ 20 := by
  have h := List.all_eq_true.1 halves_all n (List.mem_range.2 (by omega))
  have h0 : decide (n < 2) = false := by simp; omega
  simp only [h0, Bool.false_or, Bool.and_eq_true, beq_iff_eq] at h
  obtain ⟨⟨⟨⟨⟨⟨⟨⟨q1, q2⟩, q3⟩, q4⟩, q5⟩, q6⟩, q7⟩, q8⟩, q9⟩ := h
  have la := spanN_lt 1 ((n + 1) / 2) (by omega)
  have lb := spanN_lt ((n + 1) / 2 + 1) n (by omega)
  have lc := everyN_lt 1 n (by omega)
  have ld := everyN_lt 2 n (by omega)
  refine ⟨_, _, _, _, q1, q2, q3, q4, ?_, ?_, ?_, ?_, q9, ?_⟩
  · rw [i64_and_nat _ _ (by omega) (by omega), q5]; rfl
  · rw [i64_or_nat _ _ (by omega) (by omega), q6]
  · rw [i64_and_nat _ _ (by omega) (by omega), q7]; rfl
  · rw [i64_or_nat _ _ (by omega) (by omega), q8]
  · unfold weeksI
    split
    · exact weeksL_len _ _
    · simp
theorem parse_at (s : ByteArray) (hs : s.size < 1073741824) (n a : Nat) (h : parseV s n = (a, 0)) (w : World) (hS : Std w) :
    Calls Tryd.prog 24 #[.string s, .int .i64 n] w fun e w' => e = .returned (.tuple #[.int .i64 a, .int .i64 0]) ∧ Below w.heap.size w w' := by
  have := wsParse_walk s n hs w hS
  rw [h] at this
  exact this
/-- A slice of so many elements. -/
def HasLen (v : Value) (n : Nat) : Prop := ∃ A c, v = .slice A n c
theorem IntsAt.len {B : Nat} {W : World} {v : Value} {xs : List Nat} (h : IntsAt B W v xs) : HasLen v xs.length := by
  rcases h.open with ⟨rfl, A, c, rfl⟩ | ⟨g, c, rfl, -⟩
  · exact ⟨_, _, rfl⟩
  · exact ⟨_, _, rfl⟩
theorem mod_in (x m : Int) (h1 : 1 ≤ m) (hm : m ≤ 1073741824) (w : World) :
    Calls Tryd.prog 22 #[.int .i64 x, .int .i64 m] w fun e w' => (∃ r : Nat, e = .returned (.int .i64 r) ∧ (r : Int) < m) ∧ w = w' := by
  refine (mod_walk x m hm w).mono fun e w' ⟨he, hw⟩ => ⟨?_, hw⟩
  obtain ⟨h2, h3, -⟩ := modV_bd x m
  obtain ⟨r, hr⟩ := Int.eq_ofNat_of_zero_le h2
  exact ⟨r, by rw [he, hr], by have := h3 h1; omega⟩
set_option maxHeartbeats 4000000 in
theorem halves_walk (n : Int) (w : World) (hS : Std w) :
    Calls Tryd.prog 10 #[.int .i64 n] w fun e w' => e = .returned (.bool true) ∧ Below w.heap.size w w' := by
  go_enter Tryd.func10, Tryd.ntmps10
  go_wp2_with fail
  refine (mod_in n 19 (by omega) (by omega) _).mono ?_
  rintro e w' ⟨⟨r, rfl, hr⟩, rfl⟩
  go_wp2_with fail
  obtain ⟨m, hm⟩ : ∃ m : Nat, 2 + r = m := ⟨_, rfl⟩
  have hm1 : 2 ≤ m := by omega
  have hm2 : m ≤ 20 := by omega
  rw [show (2 : Int) + (r : Int) = (m : Int) from by omega]
  clear hm hr
  obtain ⟨a, b, c, d, q1, q2, q3, q4, q5, q6, q7, q8, q9, q10⟩ := halves m hm1 hm2
  obtain ⟨e1, e2, -, -⟩ := pow_facts2 m (by omega) hm2
  replace q1 := hide q1
  replace q2 := hide q2
  replace q3 := hide q3
  replace q4 := hide q4
  replace q9 := hide q9
  refine (parse_at wdA (by decide) m a q1.out _ hS).mono ?_
  rintro e w1 ⟨rfl, hb1⟩
  have hS1 := hS.after hb1
  go_wp2_with fail
  refine (parse_at wdB (by decide) m b q2.out _ hS1).mono ?_
  rintro e w2 ⟨rfl, hb2⟩
  have hS2 := hS1.after hb2
  go_wp2_with fail
  refine (parse_at wdC (by decide) m c q3.out _ hS2).mono ?_
  rintro e w3 ⟨rfl, hb3⟩
  have hS3 := hS2.after hb3
  go_wp2_with fail
  refine (parse_at wdD (by decide) m d q4.out _ hS3).mono ?_
  rintro e w4 ⟨rfl, hb4⟩
  have hS4 := hS3.after hb4
  go_wp2_with fail
  refine (awake05_walk _ hS4).mono ?_
  rintro e w5 ⟨rfl, hb5⟩
  have hb := ext_trans (ext_trans (ext_trans (ext_trans hb1 hb2) hb3) hb4) hb5
  clear hb1 hb2 hb3 hb4 hb5 hS1 hS2 hS3 hS4
  have hn : ((weeksI (a : Int)).length : Int) - ((weeksI (b : Int)).length : Int) = (m : Int) % 2 := by have := q9.out; omega
  have hla : (weeksI (b : Int)).length ≤ 20 := by have := q9.out; omega
  obtain ⟨la, ea⟩ : ∃ la, (weeksI (a : Int)).length = la := ⟨_, rfl⟩
  obtain ⟨lb, eb⟩ : ∃ lb, (weeksI (b : Int)).length = lb := ⟨_, rfl⟩
  rw [ea] at hn q10
  rw [eb] at hn hla
  replace ea := hide ea
  replace eb := hide eb
  replace hn := hide hn
  go_wp2_with fail
  refine (wsWeeks_walk _ _).mono ?_
  rintro e w6 ⟨v, rfl, hv, hb6⟩
  obtain ⟨A1, c1, rfl⟩ := hv.len
  rw [ea.out]
  go_wp2_with fail
  refine (wsWeeks_walk _ _).mono ?_
  rintro e w7 ⟨v', rfl, hv', hb7⟩
  obtain ⟨A2, c2, rfl⟩ := hv'.len
  rw [eb.out]
  go_wp2
  go_ret
  exact ⟨ret_bool (by rw [hn.out]; simp), ext_trans (ext_trans hb hb6) hb7⟩

theorem format_at (s n : Nat) (hn1 : 1 ≤ n) (hn : n ≤ 20) (h0 : 1 ≤ s) (hs : s < 2 ^ n) : fmtV (s : Int) (n : Int) = (formatL s n, 0) := by
  have hv : validB (s : Int) (n : Int) = true := validB_iff.2 ⟨by omega, by omega, by omega, by rw [Int.toNat_natCast]; exact_mod_cast hs⟩
  unfold fmtV
  rw [if_pos hv, Int.toNat_natCast, Int.toNat_natCast]
theorem wsFormat_at (s n : Nat) (hn1 : 1 ≤ n) (hn : n ≤ 20) (h0 : 1 ≤ s) (hs : s < 2 ^ n) (F : List UInt8) (hF : formatL s n = F) (w : World) :
    Calls Tryd.prog 39 #[.int .i64 s, .int .i64 n] w fun e w' => e = .returned (.tuple #[.string ⟨F.toArray⟩, .int .i64 0]) ∧ Below w.heap.size w w' := by
  have := wsFormat_walk s n w
  rw [format_at s n hn1 hn h0 hs, hF] at this
  exact this
theorem r5Format_at (s n : Nat) (hn1 : 1 ≤ n) (hn : n ≤ 20) (h0 : 1 ≤ s) (hs : s < 2 ^ n) (F : List UInt8) (hF : formatL s n = F) (w : World) (hW : Wds w) :
    Calls Tryd.prog 23 #[.int .i64 s, .int .i64 n] w fun e w' => e = .returned (.tuple #[.string ⟨F.toArray⟩, .int .i64 0]) ∧ Below w.heap.size w w' := by
  have := r5Format_walk s n w hW
  rw [format_at s n hn1 hn h0 hs, hF] at this
  exact this
theorem weeksI_at (s n : Nat) (hn : n ≤ 20) (h0 : 1 ≤ s) (hs : s < 2 ^ n) : weeksI (s : Int) = weeksL s 20 := by
  have h20 : s < 2 ^ 20 := Nat.lt_of_lt_of_le hs (Nat.pow_le_pow_right (by omega) hn)
  have hv : validB (s : Int) 20 = true := validB_iff.2 ⟨by omega, by omega, by omega, by
    have : (s : Int) < ((2 ^ 20 : Nat) : Int) := by omega
    simpa using this⟩
  unfold weeksI
  rw [if_pos hv, Int.toNat_natCast]
theorem or_pow (a x : Nat) (ha : a < 1048576) (hx : x < 20) : bits .or .i64 (a : Int) (wrap64 ((2 : Int) ^ x)) = ((a ||| 2 ^ x : Nat) : Int) := by
  have h2 := pow_small x (by omega)
  rw [wrap64_pow x (by omega), i64_or_nat _ _ (by omega) (by omega)]
theorem pow_lt (x : Nat) (hx : x < 20) : 2 ^ x < 1048576 := by
  have h1 : (2 : Nat) ^ x < 2 ^ 20 := Nat.pow_lt_pow_right (by omega) hx
  simpa using h1
theorem backN_take {l : List Nat} {k x : Nat} (h : l[k]? = some x) : backN (l.take (k + 1)) 0 = backN (l.take k) 0 ||| 2 ^ (x - 1) := by
  rw [List.take_add_one, h]
  simp [backN, List.foldl_append]
set_option maxHeartbeats 4000000 in
theorem returns_walk (s n : Int) (w : World) (hS : Std w) :
    Calls Tryd.prog 9 #[.int .i64 s, .int .i64 n] w fun e w' => e = .returned (.bool true) ∧ Below w.heap.size w w' := by
  go_enter Tryd.func9, Tryd.ntmps9
  go_wp2_with fail
  refine (mod_in n 20 (by omega) (by omega) _).mono ?_
  rintro e w' ⟨⟨r, rfl, hr⟩, rfl⟩
  go_wp2_with fail
  obtain ⟨m, hm⟩ : ∃ m : Nat, 1 + r = m := ⟨_, rfl⟩
  have hm1 : 1 ≤ m := by omega
  have hm2 : m ≤ 20 := by omega
  rw [show (1 : Int) + (r : Int) = (m : Int) from by omega, hm]
  clear hm hr
  obtain ⟨e1, e2, e3, e4⟩ := pow_facts2 m (by omega) hm2
  rw [e1, e2]
  replace e2 := hide e2
  refine (mod_in s _ (by omega) (by omega) _).mono ?_
  rintro e w' ⟨⟨q, rfl, hq⟩, rfl⟩
  obtain ⟨S, hSd⟩ : ∃ S : Nat, 1 + q = S := ⟨_, rfl⟩
  have s1 : 1 ≤ S := by omega
  have s2 : S < 2 ^ m := by omega
  have s3 : S < 1048576 := by omega
  have hqb : (q : Int) ≤ 1048576 := by omega
  have HQ : Hid ((1 : Int) + (q : Int) = (S : Int)) := by show (1 : Int) + (q : Int) = (S : Int); omega
  clear hSd hq e1 e3 e4
  replace s2 := hide s2
  replace s3 := hide s3
  go_wp2_with fail
  rw [HQ.out]
  obtain ⟨F, hF⟩ : ∃ F, formatL S m = F := ⟨_, rfl⟩
  have hP := parse_format (by omega) hm2 s2.out (by omega : S ≠ 0)
  rw [hF] at hP
  have hFl : F.length ≤ 120 := by rw [← hF]; exact formatL_len S m hm2
  replace hF := hide hF
  replace hP := hide hP
  refine (wsFormat_at S m (by omega) hm2 s1 s2.out F hF.out _).mono ?_
  rintro e w1 ⟨rfl, hb1⟩
  have hS1 := hS.after hb1
  go_wp2_with fail
  refine (parse_at ⟨F.toArray⟩ (by show F.toArray.size < _; simp; omega) m S hP.out _ hS1).mono ?_
  rintro e w2 ⟨rfl, hb2⟩
  have hS2 := hS1.after hb2
  have hb := ext_trans hb1 hb2
  clear hb1 hb2 hS1
  go_wp2_with fail
  refine (wsWeeks_walk _ _).mono ?_
  rintro e w3 ⟨v, rfl, hv, hbn⟩
  replace hb := ext_trans hb hbn
  have hS3 := hS2.after hbn
  clear hS2 hbn
  rw [weeksI_at S m hm2 s1 s2.out] at hv
  have hback := hide (backN_weeks (s := S) (by have := s3.out; simpa using this))
  have hmem := hide (fun x hx => weeksL_mem (s := S) (k := 20) (x := x) hx)
  obtain ⟨xs, hxs⟩ : ∃ xs, weeksL S 20 = xs := ⟨_, rfl⟩
  rw [hxs] at hv hback hmem
  have hxl : xs.length ≤ 20 := by rw [← hxs]; exact weeksL_len S 20
  clear hxs
  have hne : 0 < xs.length := by
    cases xs with
    | nil => have := hback.out; simp [backN] at this; omega
    | cons x r => simp
  have hvo : ∃ g c, v = .slice (some ⟨g, 0, none⟩) xs.length c ∧ xs.length ≤ c ∧ ∀ j, j < xs.length → w3.cell? ⟨g, j, none⟩ = some (.int .i64 ((xs.getD j 0 : Nat) : Int)) := by
    rcases hv.open with ⟨h0, -⟩ | ⟨g, c, h1, -, h2, -, h3⟩
    · rw [h0] at hne; simp at hne
    · exact ⟨g, c, h1, h2, h3⟩
  obtain ⟨g, c, rfl, hlc, hcells⟩ := hvo
  replace hcells := hide hcells
  obtain ⟨L, hL⟩ : ∃ L, xs.length = L := ⟨_, rfl⟩
  rw [hL] at hxl hne hlc
  rw [hL]
  replace hL := hide hL
  clear hv hne
  go_wp2_with fail
  go_loop [9, 11] (fun b i => ∃ k acc : Nat, k ≤ L ∧ acc < 1048576 ∧ i = .int .i64 k ∧ b = .int .i64 acc ∧ backN (xs.take k) 0 = acc) (fun _ i => L - (intOf i).toNat)
  case atStart => exact ⟨0, 0, by omega, by omega, rfl, rfl, rfl⟩
  case round =>
    obtain ⟨k, acc, hk, ha, rfl, rfl, hacc⟩ := hrel
    by_cases hlt : k < L
    · obtain ⟨x, hx⟩ : ∃ x, xs[k]? = some x := ⟨_, List.getElem?_eq_getElem (by rw [hL.out]; exact hlt)⟩
      have hx2 := hmem.out x (List.mem_of_getElem? hx)
      have hcl := hcells.out k (by rw [hL.out]; exact hlt)
      rw [List.getD_eq_getElem?_getD, hx, Option.getD_some] at hcl
      have hst := backN_take hx
      rw [hacc] at hst
      have hor := hide (or_pow acc (x - 1) ha (by omega))
      have hol := or_lt acc (2 ^ (x - 1)) ha (pow_lt _ (by omega))
      replace hst := hide hst
      replace hol := hide hol
      obtain ⟨x1, x2⟩ := hx2
      have k0 : (0 : Int) ≤ k := by omega
      have k1 : (k : Int) < L := by omega
      clear hx hacc ha
      go_wp2_with fail
      go_round
      case rel => exact ⟨k + 1, acc ||| 2 ^ (x - 1), by omega, hol.out, by go_num, by rw [hor.out], hst.out⟩
      case measure => simp [intOf]; omega
    · have hall : acc = S := by rw [← hacc, List.take_of_length_le (by rw [hL.out]; omega)]; exact hback.out
      clear hacc
      subst hall
      go_wp2_with fail
      refine (awake05_walk _ hS3).mono ?_
      rintro e w5 ⟨rfl, hb5⟩
      go_wp2
      go_ret
      exact ⟨ret_bool (by simp), ext_trans hb hb5⟩

set_option maxHeartbeats 4000000 in
theorem unites_walk (a b n : Int) (w : World) (hS : Std w) (hW : Wds w) :
    Calls Tryd.prog 4 #[.int .i64 a, .int .i64 b, .int .i64 n] w fun e w' => e = .returned (.bool true) ∧ Below w.heap.size w w' := by
  go_enter Tryd.func4, Tryd.ntmps4
  go_wp2_with fail
  refine (mod_in n 20 (by omega) (by omega) _).mono ?_
  rintro e w' ⟨⟨r, rfl, hr⟩, rfl⟩
  go_wp2_with fail
  obtain ⟨m, hm⟩ : ∃ m : Nat, 1 + r = m := ⟨_, rfl⟩
  have hm1 : 1 ≤ m := by omega
  have hm2 : m ≤ 20 := by omega
  rw [show (1 : Int) + (r : Int) = (m : Int) from by omega, hm]
  clear hm hr
  obtain ⟨e1, e2, e3, e4⟩ := pow_facts2 m (by omega) hm2
  rw [e1, e2]
  replace e2 := hide e2
  refine (mod_in a _ (by omega) (by omega) _).mono ?_
  rintro e w' ⟨⟨q, rfl, hq⟩, rfl⟩
  obtain ⟨S, hSd⟩ : ∃ S : Nat, 1 + q = S := ⟨_, rfl⟩
  have s1 : 1 ≤ S := by omega
  have s2 : S < 2 ^ m := by omega
  have s3 : S < 1048576 := by omega
  have hqb : (q : Int) ≤ 1048576 := by omega
  have HQ : Hid ((1 : Int) + (q : Int) = (S : Int)) := by show (1 : Int) + (q : Int) = (S : Int); omega
  clear hSd hq
  go_wp2_with fail
  rw [e2.out]
  refine (mod_in b _ (by omega) (by omega) _).mono ?_
  rintro e w' ⟨⟨q', rfl, hq'⟩, rfl⟩
  obtain ⟨T, hTd⟩ : ∃ T : Nat, 1 + q' = T := ⟨_, rfl⟩
  have t1 : 1 ≤ T := by omega
  have t2 : T < 2 ^ m := by omega
  have t3 : T < 1048576 := by omega
  have hqb' : (q' : Int) ≤ 1048576 := by omega
  have HQ' : Hid ((1 : Int) + (q' : Int) = (T : Int)) := by show (1 : Int) + (q' : Int) = (T : Int); omega
  clear hTd hq' e1 e3 e4
  replace s2 := hide s2
  replace t2 := hide t2
  have hor := hide (i64_or_nat S T (by omega) (by omega))
  replace s3 := hide s3
  replace t3 := hide t3
  obtain ⟨F, hF⟩ : ∃ F, formatL S m = F := ⟨_, rfl⟩
  obtain ⟨G, hG⟩ : ∃ G, formatL T m = G := ⟨_, rfl⟩
  have hP := parse_union (by omega) hm2 s2.out (by omega : S ≠ 0) t2.out (by omega : T ≠ 0)
  rw [hF, hG] at hP
  have hFl : F.length ≤ 120 := by rw [← hF]; exact formatL_len S m hm2
  have hGl : G.length ≤ 120 := by rw [← hG]; exact formatL_len T m hm2
  replace hF := hide hF
  replace hG := hide hG
  replace hP := hide hP
  go_wp2_with fail
  rw [HQ.out]
  refine (r5Format_at S m (by omega) hm2 s1 s2.out F hF.out _ hW).mono ?_
  rintro e w1 ⟨rfl, hb1⟩
  have hS1 := hS.after hb1
  have hW1 := hW.after hb1 hS
  go_wp2_with fail
  rw [HQ'.out]
  refine (r5Format_at T m (by omega) hm2 t1 t2.out G hG.out _ hW1).mono ?_
  rintro e w2 ⟨rfl, hb2⟩
  have hS2 := hS1.after hb2
  have hb := ext_trans hb1 hb2
  clear hb1 hb2 hS1 hW1
  have hst : (⟨F.toArray⟩ : ByteArray) ++ ⟨#[44]⟩ ++ ⟨G.toArray⟩ = ⟨(F ++ 44 :: G).toArray⟩ := by
    apply ByteArray.ext; simp [ByteArray.data_append]
  replace hst := hide hst
  go_wp2_with fail
  rw [hst.out]
  refine (parse_at ⟨(F ++ 44 :: G).toArray⟩ (by show (F ++ 44 :: G).toArray.size < _; simp; omega) m (S ||| T) hP.out _ hS2).mono ?_
  rintro e w3 ⟨rfl, hb3⟩
  replace hb := ext_trans hb hb3
  have hS3 := hS2.after hb3
  go_wp2_with fail
  refine (awake05_walk _ hS3).mono ?_
  rintro e w4 ⟨rfl, hb4⟩
  go_wp2
  go_ret
  exact ⟨ret_bool (by rw [hor.out]; simp), ext_trans hb hb4⟩
end Go.Proofs.YtdnmmkbknicdcaaDoor
