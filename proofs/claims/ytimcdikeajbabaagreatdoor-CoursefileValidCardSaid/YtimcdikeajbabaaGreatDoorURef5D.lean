/- Walks of package timetableref05: the functions of numbers and of texts. Conditions: texts shorter than 2^30 bytes. Walks of package timetableref05, on: numbers in decimal, cutting, small numbers. Conditions: texts shorter than 2^30 bytes. Walks of package timetableref05, on: item, Parse. Conditions: texts shorter than 2^30 bytes; the variable words holds its five words. Walk of timetableref05.Format. The variable words holds its five words. -/
import Derived.Test.YtimcdikeajbabaaGreatDoorRows
import Derived.WalkKit
import Derived.WalkSpells
import Derived.WalkLawsBesides
import Derived.BigGuardPart
import Derived.Lib.Hide
import Derived.Laws.BitsAllLaws
import Derived.Laws.BitsLemmas
import Derived.Lib.LaidTab
import Derived.Test.YtimcdikeajbabaaGreatDoorShelf
import Derived.Lib.ConvBytes
import Derived.Deep.QuietTactic
import Derived.BigQuiet
import Derived.Lib.SmallJoins
import Derived.Lib.SplitLaws
import Derived.Lib.CountLaws
import Derived.Lib.IndexMore
import Derived.Lib.Split
import Derived.Lib.Join
import Derived.Lib.ItoaNum
import Derived.Lib.PathFns
import Derived.Test.YtimcdikeajbabaaGreatDoorUWsC
import Derived.Test.YtimcdikeajbabaaGreatDoorUSameL
import Derived.Test.YtimcdikeajbabaaGreatDoorUWsF
import Derived.Laws.AppendOwn
namespace Go.Proofs.YtimcdikeajbabaaGreatDoor
open Go.RowKit

/-- Is week i + 1 in the k-th named set of n weeks. -/
def nameP (n : Nat) : Nat → Nat → Bool
  | 0, _ => true
  | 1, i => decide ((i + 1) % 2 = 1)
  | 2, i => decide ((i + 1) % 2 = 0)
  | 3, i => decide (i + 1 ≤ (n + 1) / 2)
  | _, i => decide ((n + 1) / 2 < i + 1)
theorem maskTo_cut (p : Nat → Bool) (h : Nat) : ∀ n, h ≤ n → maskTo (fun i => decide (i + 1 ≤ h) && p i) n = maskTo p h := by
  intro n hn
  apply Nat.eq_of_testBit_eq
  intro i
  rw [maskTo_bit, maskTo_bit]
  by_cases e : i < h
  · simp [e, show i < n from by omega, show i + 1 ≤ h from by omega]
  · simp [e, show ¬ i + 1 ≤ h from by omega]
theorem named_eq (n k : Nat) (h1 : 1 ≤ n) (hk : k < 5) : maskTo (nameP n k) n = wordVal n k := by
  match k, hk with
  | 0, _ => exact maskTo_congr fun i _ => by simp [nameP, spanP]
  | 1, _ => exact maskTo_congr fun i _ => by simp only [nameP, everyP]; rw [Bool.eq_iff_iff]; simp only [Bool.and_eq_true, decide_eq_true_eq]; omega
  | 2, _ => exact maskTo_congr fun i _ => by simp only [nameP, everyP]; rw [Bool.eq_iff_iff]; simp only [Bool.and_eq_true, decide_eq_true_eq]; omega
  | 3, _ =>
    show _ = maskTo (spanP 1) ((n + 1) / 2)
    rw [← maskTo_cut (spanP 1) ((n + 1) / 2) n (by omega)]
    exact maskTo_congr fun i _ => by simp [nameP, spanP]
  | 4, _ => exact maskTo_congr fun i _ => by simp only [nameP, spanP]; rw [decide_eq_decide]; omega
set_option maxRecDepth 100000 in
set_option maxHeartbeats 4000000 in
theorem named_walk (k n : Nat) (hk : k < 5) (h1 : 1 ≤ n) (h2 : n ≤ 20) (w : World) :
    Calls Tryz.prog 87 #[.int .i64 k, .int .i64 n] w fun e w' => e = .returned (.int .i64 (wordVal n k)) ∧ w = w' := by
  rw [← named_eq n k h1 hk]
  obtain ⟨q, hq⟩ : ∃ q, nameP n k = q := ⟨_, rfl⟩
  have HQ : Hid (∀ j, q j = nameP n k j) := fun j => by rw [hq]
  rw [hq]
  clear hq
  have hk5 : k = 0 ∨ k = 1 ∨ k = 2 ∨ k = 3 ∨ k = 4 := by omega
  clear hk
  rcases hk5 with rfl | rfl | rfl | rfl | rfl
  all_goals
    go_enter Tryz.func87, Tryz.ntmps87
    go_wp2
    go_loop [5, 6] (fun s i => ∃ j : Nat, j ≤ n ∧ i = .int .i64 ((j : Int) + 1) ∧ s = .int .i64 (maskTo q j)) (fun _ i => (21 - intOf i).toNat)
    case atStart => exact ⟨0, by omega, rfl, rfl⟩
    case round =>
      obtain ⟨j, hj, rfl, rfl⟩ := hrel
      by_cases hlt : j < n
      · have hp : (j + 1) % 2 = 0 ∨ (j + 1) % 2 = 1 := by omega
        have hh : j + 1 ≤ (n + 1) / 2 ∨ (n + 1) / 2 < j + 1 := by omega
        rcases hp with hp | hp
        all_goals rcases hh with hh | hh
        all_goals
          have e1 : (((j : Int) + 1) % 2 == 1) = decide ((j + 1) % 2 = 1) := by rw [Bool.eq_iff_iff]; simp only [beq_iff_eq, decide_eq_true_eq]; omega
          have e2 : (((j : Int) + 1) % 2 == 0) = decide ((j + 1) % 2 = 0) := by rw [Bool.eq_iff_iff]; simp only [beq_iff_eq, decide_eq_true_eq]; omega
          rw [hp] at e1 e2
          have HP := hide hp
          clear hp
          go_wp2
          go_round
          case rel =>
            refine ⟨j + 1, by omega, by go_num, ?_⟩
            have hp := HP.out
            first
              | (have hq : q j = true := by rw [HQ.out]; first | rfl | (simp only [nameP, decide_eq_true_eq]; omega)
                 rw [or_step q j (by omega) hq])
              | (have hq : q j = false := by rw [HQ.out]; simp only [nameP, decide_eq_false_iff_not]; omega
                 rw [maskTo_no q j hq])
          case measure => simp [intOf]; omega
      · obtain rfl : j = n := by omega
        go_wp2
        go_ret
        exact ⟨rfl, rfl⟩
end Go.Proofs.YtimcdikeajbabaaGreatDoor

namespace Go.Proofs.YtimcdikeajbabaaGreatDoor
open Go.RowKit
set_option maxRecDepth 100000

set_option maxHeartbeats 400000 in
theorem decimal_small (n : Nat) (h : n < 10) (w : World) :
    Calls Tryz.prog 54 #[.int .i64 n] w fun e w' => e = .returned (.string ⟨(dec2 n).toArray⟩) ∧ Below w.heap.size w w' := by
  rw [show dec2 n = [UInt8.ofNat (48 + n)] from if_pos h]
  have hconv : ∀ cap, (convert 82 9 (.slice (some ⟨w.heap.size, 0, none⟩) 1 cap)).run Tryz.prog (w.alloc (.cells #[.int .u8 (48 + (n : Int))] 5)) = .ok (.string ⟨[UInt8.ofNat (48 + n)].toArray⟩) (w.alloc (.cells #[.int .u8 (48 + (n : Int))] 5)) := fun cap =>
    run_convert_bytes_back _ 82 9 5 ⟨w.heap.size, 0, none⟩ cap [UInt8.ofNat (48 + n)] Tryz.underlying82 Tryz.underlying5 Tryz.underlying9 (by
      intro j hj
      have hj : j = 0 := by simp at hj; omega
      subst hj
      have he : ((UInt8.ofNat (48 + n)).toNat : Int) = 48 + (n : Int) := by
        rw [UInt8.toNat_ofNat']; omega
      simp [Addr.add]
      omega)
  go_enter Tryz.func54, Tryz.ntmps54
  go_wp2_with fail
  go_ret
  exact ⟨ret_str (by simp), (by repeat (first | exact Below.refl _ _ | refine ext_alloc ?_ _ | refine ext_drewN ?_ _ | refine ext_drew ?_ | refine ext_trans ?_ (by assumption)))⟩
set_option maxHeartbeats 400000 in
theorem decimal_walk (n : Nat) (h : n < 100) (w : World) :
    Calls Tryz.prog 54 #[.int .i64 n] w fun e w' => e = .returned (.string ⟨(dec2 n).toArray⟩) ∧ Below w.heap.size w w' := by
  by_cases h1 : n < 10
  · exact decimal_small n h1 w
  · have hd : Hid ((⟨(dec2 (n / 10)).toArray⟩ : ByteArray) ++ ⟨(dec2 (n % 10)).toArray⟩ = ⟨(dec2 n).toArray⟩) := by
      rw [show dec2 (n / 10) = [UInt8.ofNat (48 + n / 10)] from if_pos (by omega), show dec2 (n % 10) = [UInt8.ofNat (48 + n % 10)] from if_pos (by omega), show dec2 n = _ from if_neg h1]
      rfl
    have hl1 := dec2_len (n / 10)
    have hl2 := dec2_len (n % 10)
    go_enter Tryz.func54, Tryz.ntmps54
    go_wp2_with fail
    refine (decimal_small (n / 10) (by omega) _).mono ?_
    rintro e w1 ⟨rfl, hb1⟩
    go_wp2_with fail
    refine (decimal_small (n % 10) (by omega) _).mono ?_
    rintro e w2 ⟨rfl, hb2⟩
    go_wp2
    go_ret
    exact ⟨ret_str hd.out, ext_trans hb1 hb2⟩

end Go.Proofs.YtimcdikeajbabaaGreatDoor

namespace Go.Proofs.YtimcdikeajbabaaGreatDoor
open Go.RowKit
set_option maxRecDepth 100000

theorem Wds.cell {w : World} (h : Wds w) (k : Nat) (hk : k < 5) : w.cell? ⟨2, k, none⟩ = some (.string ⟨(wordName k).toArray⟩) := by
  obtain ⟨t, r, hr⟩ := h
  rw [cell_of_row w _ k _ _ _ hr]
  match k, hk with
  | 0, _ | 1, _ | 2, _ | 3, _ | 4, _ => rfl
theorem cut1_len {c : UInt8} {r x y : List UInt8} {t : Bool} (hc : cut1 c r = (x, y, t)) : x.length ≤ r.length ∧ y.length ≤ r.length ∧ (t = true → y.length < r.length) := by
  cases t with
  | true =>
    have h := cut1_split c r (by rw [hc])
    rw [hc] at h
    have h := congrArg List.length h
    simp at h
    exact ⟨by omega, by omega, fun _ => by omega⟩
  | false =>
    obtain ⟨h1, h2, -⟩ := cut1_none c r (by rw [hc])
    rw [hc] at h1 h2
    have h1 : x = r := h1
    have h2 : y = [] := h2
    subst h1 h2
    exact ⟨Nat.le_refl _, by simp, fun h => by cases h⟩
end Go.Proofs.YtimcdikeajbabaaGreatDoor

namespace Go.Proofs.YtimcdikeajbabaaGreatDoor
open Go.RowKit
set_option maxRecDepth 100000

theorem join_snoc (c : UInt8) (x : List UInt8) : ∀ (xs : List (List UInt8)), Lib.join (xs ++ [x]) [c] = if xs = [] then x else Lib.join xs [c] ++ c :: x
  | [] => by simp [Lib.join_one]
  | y :: r => by
    rw [if_neg (by simp), ← join_two (y :: r) [x] c (by simp) (by simp), Lib.join_one]
theorem dec2_ne (k : Nat) : dec2 k ≠ [] := by unfold dec2; split <;> simp
theorem runT_ne (r : Nat × Nat) : runT r ≠ [] := by
  unfold runT
  split
  · exact dec2_ne _
  · simp
theorem join_ne {xs : List (List UInt8)} (h : ∀ x ∈ xs, x ≠ []) (hx : xs ≠ []) : Lib.join xs [44] ≠ [] := by
  match xs, hx with
  | [x], _ => rw [Lib.join_one]; exact h x (by simp)
  | x :: y :: r, _ =>
    have : Lib.join (x :: y :: r) [44] = x ++ 44 :: Lib.join (y :: r) [44] := by simp [Lib.join, List.intercalate]
    rw [this]; simp
theorem runs_take1 {p : Nat → Bool} {n w : Nat} (h : w ≤ n) (e : runE p n w ≠ w) : runs p n w = (w, runE p n w - 1) :: runs p n (runE p n w) := by
  obtain ⟨f1, f2, -, f4⟩ := runE_facts p n _ w (Nat.le_refl _) (by omega)
  rw [runs_take h e]
  congr 1
  by_cases hE : runE p n w ≤ n
  · exact (runs_skip hE (runE_stop (by rw [f4 hE]; simp))).symm
  · rw [runs_done (by omega), runs_done (by omega)]
theorem str_eq {a : ByteArray} {l : List UInt8} (h : a.data.toList = l) : Value.string a = Value.string ⟨l.toArray⟩ := by
  subst h; rfl
set_option maxHeartbeats 4000000 in
theorem r5Format_walk (set n : Int) (w : World) (hW : Wds w) :
    Calls Tryz.prog 52 #[.int .i64 set, .int .i64 n] w fun e w' => e = .returned (.tuple #[.string ⟨(fmtV set n).1.toArray⟩, .int .i64 (fmtV set n).2]) ∧ Below w.heap.size w w' := by
  cases hv : validB set n
  · rw [show fmtV set n = ([], 1) from by simp [fmtV, hv]]
    go_enter Tryz.func52, Tryz.ntmps52
    go_wp2_with (go_at_call 51; refine (r5Valid_walk _ _ _).mono ?_; rintro e w3 ⟨rfl, rfl⟩)
    go_ret2
    exact ⟨rfl, Below.refl _ _⟩
  · obtain ⟨n1, n2, h1, h2⟩ := validB_iff.1 hv
    rw [show fmtV set n = (formatL set.toNat n.toNat, 0) from by simp [fmtV, hv]]
    obtain ⟨s, rfl⟩ := Int.eq_ofNat_of_zero_le (by omega : 0 ≤ set)
    obtain ⟨n, rfl⟩ := Int.eq_ofNat_of_zero_le (by omega : 0 ≤ n)
    rw [Int.toNat_natCast] at h2
    rw [Int.toNat_natCast, Int.toNat_natCast]
    have hs : s < 1048576 := by
      have := pow_small n (by omega)
      have h3 : (s : Int) < ((2 ^ n : Nat) : Int) := by simpa using h2
      omega
    clear h2
    replace hs := hide hs
    obtain ⟨F, hF⟩ : ∃ F, formatL s n = F := ⟨_, rfl⟩
    rw [hF]
    replace hF := hide hF
    have h5 := nameIdx_le s n
    go_enter Tryz.func52, Tryz.ntmps52
    go_wp2_with (go_at_call 51; refine (r5Valid_walk _ _ _).mono ?_; rintro e w3 ⟨rfl, rfl⟩)
    go_loop [6] (fun i => ∃ k : Nat, k ≤ nameIdx s n ∧ i = .int .i64 k) (fun i => (5 - intOf i).toNat)
    case atStart => exact ⟨0, Nat.zero_le _, rfl⟩
    case round =>
      obtain ⟨k, hk, rfl⟩ := hrel
      have hkk : k = nameIdx s n ∧ k < 5 ∨ k < nameIdx s n ∧ k < 5 ∨ k = nameIdx s n ∧ k = 5 := by omega
      rcases hkk with ⟨e, h5⟩ | ⟨e, h5⟩ | ⟨e, h5⟩
      · have hw : ((s : Int) == (wordVal n k : Int)) = true := by rw [beq_iff_eq, nameIdx_hit e.symm h5]
        have hfin : Hid (F = wordName k) := hF.out.symm.trans (formatL_name e.symm h5)
        have c0 := hW.cell k h5
        have k0 : (0 : Int) ≤ k := by omega
        clear hk e
        go_wp2_with (go_at_call 87; refine (named_walk k n (by omega) (by omega) (by omega) _).mono ?_; rintro e w' ⟨rfl, rfl⟩)
        go_ret2
        exact ⟨ret_fs hfin.out.symm rfl, Below.refl _ _⟩
      · have hw : ((s : Int) == (wordVal n k : Int)) = false := by
          rw [beq_eq_false_iff_ne]; intro e'; exact nameIdx_miss e (by omega)
        go_wp2_with (go_at_call 87; refine (named_walk k n (by omega) (by omega) (by omega) _).mono ?_; rintro e w' ⟨rfl, rfl⟩)
        go_round
        case rel => exact ⟨k + 1, e, by go_num⟩
        case measure => simp [intOf]; omega
      · obtain rfl : k = 5 := h5
        rw [show ((5 : Nat) : Int) = 5 from rfl]
        have hfin : Hid (F = Lib.join ((runs s.testBit n 1).map runT) [44]) := hF.out.symm.trans (formatL_runs e.symm)
        clear hF hk
        obtain ⟨p, hp⟩ : ∃ p, s.testBit = p := ⟨_, rfl⟩
        rw [hp] at hfin
        replace hp := hide hp
        have hrl : (runs p n 1).length ≤ 20 := by have := runs_len p n _ 1 (Nat.le_refl _); omega
        clear e
        replace hrl := hide hrl
        go_wp2_with fail
        go_loopw [7, 8] (fun v i wx => ∃ (k : Nat) (dn : List (Nat × Nat)), 1 ≤ k ∧ k ≤ n + 1 ∧ i = .int .i64 k ∧ v = .string ⟨(Lib.join (dn.map runT) [44]).toArray⟩ ∧ dn ++ runs p n k = runs p n 1 ∧ Below w.heap.size w wx) (fun _ i _ => (n + 3 - (intOf i).toNat))
        case atStart => exact ⟨1, [], by omega, by omega, rfl, rfl, rfl, Below.refl _ _⟩
        case round =>
          obtain ⟨k, dn, hk1, hk2, rfl, rfl, hdn, hbx⟩ := hrel
          have hdl : dn.length ≤ 20 := by have h := congrArg List.length hdn; rw [List.length_append] at h; have := hrl.out; omega
          replace hdn := hide hdn
          have hOl : (Lib.join (dn.map runT) [44]).length ≤ 120 := by
            have := lens_le 5 (dn.map runT) (fun x hx => by obtain ⟨r, -, rfl⟩ := List.mem_map.1 hx; exact runT_len r)
            rw [List.length_map] at this
            omega
          by_cases hlt : k ≤ n
          · cases hpk : p (k - 1)
            · have hbw := (bit_walk0 s (k - 1) hs.out).trans (congrArg not ((congrFun hp.out (k - 1)).trans hpk))
              have hsk := hide (runs_skip (p := p) hlt (runE_stop (by rw [hpk]; simp)))
              clear hpk hOl
              go_wp2_with fail
              go_roundw
              case rel => exact ⟨k + 1, dn, by omega, by omega, by go_num, rfl, by rw [← hsk.out]; exact hdn.out, hbx⟩
              case measure => simp [intOf]; omega
            · have hbw := (bit_walk0 s (k - 1) hs.out).trans (congrArg not ((congrFun hp.out (k - 1)).trans hpk))
              have hE0 := runE_step hlt hpk
              obtain ⟨E, hE⟩ : ∃ E, runE p n k = E := ⟨_, rfl⟩
              obtain ⟨f1, f2, f3, f4⟩ := runE_facts p n _ (k + 1) (Nat.le_refl _) (by omega)
              rw [← hE0, hE] at f1 f2
              have rtake := hide (runs_take1 (p := p) hlt (by rw [hE]; omega))
              rw [hE] at rtake
              rw [hE] at hE0
              clear f3 f4
              replace hE0 := hide hE0.symm
              clear hE hpk
              obtain ⟨O, hO⟩ : ∃ O, Lib.join (dn.map runT) [44] = O := ⟨_, rfl⟩
              rw [hO] at hOl
              rw [hO]
              replace hO := hide hO
              go_wp2_with fail
              go_loop [9] (fun i => ∃ j : Nat, k ≤ j ∧ j ≤ n ∧ i = .int .i64 j ∧ runE p n (j + 1) = E) (fun i => n + 2 - (intOf i).toNat)
              case atStart => exact ⟨k, Nat.le_refl _, by omega, rfl, hE0.out⟩
              case round =>
                obtain ⟨j, hj1, hj2, rfl, hj⟩ := hrel
                by_cases hin : j < n ∧ p j = true
                · obtain ⟨hjn, hpj⟩ := hin
                  have hbw := (bit_walk s j hs.out).trans ((congrFun hp.out j).trans hpj)
                  replace hj := hide ((runE_step (w := j + 1) (by omega) hpj).symm.trans hj)
                  clear hpj
                  go_wp2_with fail
                  go_round
                  case rel => exact ⟨j + 1, by omega, by omega, by go_num, hj.out⟩
                  case measure => simp [intOf]; omega
                · have hjE : E = j + 1 := by rw [← hj, runE_stop (fun h => hin ⟨by omega, h.2⟩)]
                  subst hjE
                  have hway : (j < n ∧ (bits .and .i64 ((s : Int) / 2 ^ j) 1 == 1) = false) ∨ n ≤ j := by
                    by_cases hjn : j < n
                    · have hpj : p j = false := by
                        cases h : p j
                        · rfl
                        · exact absurd ⟨hjn, h⟩ hin
                      exact Or.inl ⟨hjn, (bit_walk s j hs.out).trans ((congrFun hp.out j).trans hpj)⟩
                    · exact Or.inr (by omega)
                  clear hj hin
                  rw [Nat.add_sub_cancel] at rtake
                  have hnx := (join_snoc 44 (runT (k, j)) (dn.map runT))
                  have h3 : j = k ∨ k < j := by omega
                  have l1 := dec2_len k
                  have l2 := dec2_len j
                  rcases hway with ⟨hjn, hbw⟩ | hjn
                  all_goals
                    by_cases hd : dn = []
                    · subst hd
                      have hO2 : O = [] := hO.out.symm
                      subst hO2
                      clear hnx hO hOl
                      rcases h3 with h3 | h3
                      · subst h3
                        have HT : Hid (runT (j, j) = dec2 j) := if_pos rfl
                        go_wp2_with fail
                        refine (decimal_walk j (by omega) _).mono ?_
                        rintro e w1 ⟨rfl, hb1⟩
                        go_wp2_with fail
                        go_roundw
                        case rel => exact ⟨j + 1, [(j, j)], by omega, by omega, by go_num, by rw [show ([(j, j)] : List (Nat × Nat)).map runT = [runT (j, j)] from rfl, Lib.join_one, HT.out]; exact str_eq (by simp [ByteArray.data_append]), by rw [← hdn.out, rtake.out]; rfl, ext_trans hbx hb1⟩
                        case measure => simp [intOf]; omega
                      · have HT : Hid (runT (k, j) = dec2 k ++ 45 :: dec2 j) := if_neg (by show ¬ k = j; omega)
                        go_wp2_with fail
                        refine (decimal_walk k (by omega) _).mono ?_
                        rintro e w1 ⟨rfl, hb1⟩
                        go_wp2_with fail
                        refine (decimal_walk j (by omega) _).mono ?_
                        rintro e w2 ⟨rfl, hb2⟩
                        go_wp2_with fail
                        go_roundw
                        case rel => exact ⟨j + 1, [(k, j)], by omega, by omega, by go_num, by rw [show ([(k, j)] : List (Nat × Nat)).map runT = [runT (k, j)] from rfl, Lib.join_one, HT.out]; exact str_eq (by simp [ByteArray.data_append]), by rw [← hdn.out, rtake.out]; rfl, ext_trans (ext_trans hbx hb1) hb2⟩
                        case measure => simp [intOf]; omega
                    · have hO2 : O ≠ [] := by
                        rw [← hO.out]
                        exact join_ne (fun x hx => by obtain ⟨r, -, rfl⟩ := List.mem_map.1 hx; exact runT_ne r) (by simpa using hd)
                      have hO3 : O.isEmpty = false := by simpa using hO2
                      rw [if_neg (by simpa using hd), hO.out] at hnx
                      replace hnx := hide hnx
                      replace hO2 := hide hO2
                      replace hd := hide hd
                      rcases h3 with h3 | h3
                      · subst h3
                        have HT : Hid (runT (j, j) = dec2 j) := if_pos rfl
                        go_wp2_with fail
                        refine (decimal_walk j (by omega) _).mono ?_
                        rintro e w1 ⟨rfl, hb1⟩
                        go_wp2_with fail
                        go_roundw
                        case rel => exact ⟨j + 1, dn ++ [(j, j)], by omega, by omega, by go_num, by rw [List.map_append, show ([(j, j)] : List (Nat × Nat)).map runT = [runT (j, j)] from rfl, hnx.out, HT.out]; exact str_eq (by simp [ByteArray.data_append]), by rw [← hdn.out, rtake.out, List.append_assoc]; rfl, ext_trans hbx hb1⟩
                        case measure => simp [intOf]; omega
                      · have HT : Hid (runT (k, j) = dec2 k ++ 45 :: dec2 j) := if_neg (by show ¬ k = j; omega)
                        go_wp2_with fail
                        refine (decimal_walk k (by omega) _).mono ?_
                        rintro e w1 ⟨rfl, hb1⟩
                        go_wp2_with fail
                        refine (decimal_walk j (by omega) _).mono ?_
                        rintro e w2 ⟨rfl, hb2⟩
                        go_wp2_with fail
                        go_roundw
                        case rel => exact ⟨j + 1, dn ++ [(k, j)], by omega, by omega, by go_num, by rw [List.map_append, show ([(k, j)] : List (Nat × Nat)).map runT = [runT (k, j)] from rfl, hnx.out, HT.out]; exact str_eq (by simp [ByteArray.data_append]), by rw [← hdn.out, rtake.out, List.append_assoc]; rfl, ext_trans (ext_trans hbx hb1) hb2⟩
                        case measure => simp [intOf]; omega
          · have hall : dn = runs p n 1 := by rw [← hdn.out, runs_done (by omega), List.append_nil]
            have hfin2 : Hid (F = Lib.join (dn.map runT) [44]) := by rw [hall]; exact hfin.out
            clear hall
            go_wp2
            go_ret2
            exact ⟨ret_fs hfin2.out.symm rfl, hbx⟩
end Go.Proofs.YtimcdikeajbabaaGreatDoor
