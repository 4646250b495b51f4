/- Walk of timegrid.Format. No condition. -/
import Derived.Test.YtehgnnedaedpjaaGreatDoorKWsF
import Derived.Test.YtehgnnedaedpjaaGreatDoorKTgF
import Derived.Test.YtehgnnedaedpjaaGreatDoorKTgC
import Derived.Test.YtehgnnedaedpjaaGreatDoorKDice
import Derived.RegionTactic
import Derived.BigRegion
import Derived.Deep.RegionHeld3
import Derived.Deep.DeepCutAuto
namespace Go.Proofs.YtehgnnedaedpjaaGreatDoor
open Go.RowKit
set_option maxRecDepth 100000

def dayB (k : Nat) : ByteArray := dayNames.getD k ByteArray.empty
theorem dayB_size (k : Nat) : (dayB k).size ≤ 2 := by
  unfold dayB
  match k with
  | 0 | 1 | 2 | 3 | 4 | 5 | 6 => decide
  | k + 7 => simp [dayNames]
/-- The text of a time: day and slots. -/
def slotT (p q : Nat) : List UInt8 := dec2 (p + 1) ++ if 1 < q then 45 :: dec2 (p + q) else []
def timeT (n x1 k p q : Nat) : List UInt8 := (dayB k).data.toList ++ 32 :: slotT p q ++ if x1 = 2 ^ n - 1 then [] else 32 :: formatL x1 n
/-- What Format returns. -/
def fmtT (d s b m n x1 x2 x3 x4 : Int) : List UInt8 × Int := if fitsV d s b m n x1 x2 x3 x4 = 0 then (timeT n.toNat x1.toNat x2.toNat x3.toNat x4.toNat, 0) else ([], fitsV d s b m n x1 x2 x3 x4)
structure FitsB (d s n x1 x2 x3 x4 : Int) : Prop where
  n1 : 1 ≤ n
  n2 : n ≤ 20
  v : validB x1 n = true
  w1 : 1 ≤ x1
  d1 : 0 ≤ x2
  d2 : x2 < 7
  d3 : x2 < d
  s1 : 0 ≤ x3
  l1 : 1 ≤ x4
  s2 : x3 + x4 ≤ 24
  s3 : x3 + x4 ≤ s
theorem fits_parts {d s b m n x1 x2 x3 x4 : Int} (h : fitsV d s b m n x1 x2 x3 x4 = 0) : weekB d s b m n = true ∧ FitsB d s n x1 x2 x3 x4 := by
  unfold fitsV at h
  cases hw : weekB d s b m n
  · rw [if_pos hw] at h; omega
  · rw [if_neg (by simp [hw])] at h
    by_cases hc : soundB x1 x2 x3 x4 = false ∨ validB x1 n = false ∨ d ≤ x2 ∨ s < x3 + x4
    · rw [if_pos hc] at h; omega
    · have hn : 1 ≤ n ∧ n ≤ 20 := by
        simp only [weekB, Bool.and_eq_true, decide_eq_true_eq] at hw; exact hw.2
      have hs : soundB x1 x2 x3 x4 = true := by
        cases hx : soundB x1 x2 x3 x4
        · exact absurd (Or.inl hx) hc
        · rfl
      have hv : validB x1 n = true := by
        cases hx : validB x1 n
        · exact absurd (Or.inr (Or.inl hx)) hc
        · rfl
      obtain ⟨⟨a1, -⟩, a2, a3, a4, a5, a6⟩ := soundB_parts hs
      exact ⟨rfl, hn.1, hn.2, hv, a1, a2, a3, by omega, a4, a5, a6, by omega⟩
abbrev HeldF (K : Nat) (x1 x2 x3 x4 : Int) (w0 W : World) : Prop := W.cell? ⟨K, 0, none⟩ = some (.int .i64 x1) ∧ W.cell? ⟨K, 1, none⟩ = some (.int .i64 x2) ∧ W.cell? ⟨K, 2, none⟩ = some (.int .i64 x3) ∧ W.cell? ⟨K, 3, none⟩ = some (.int .i64 x4) ∧ Below w0.heap.size w0 W
theorem HeldF.later {K : Nat} {x1 x2 x3 x4 : Int} {w0 W W' : World} (h : HeldF K x1 x2 x3 x4 w0 W) (hb : Below W.heap.size W W') : HeldF K x1 x2 x3 x4 w0 W' :=
  ⟨cell_later hb h.1, cell_later hb h.2.1, cell_later hb h.2.2.1, cell_later hb h.2.2.2.1, ext_trans h.2.2.2.2 hb⟩
theorem keepF {P : Program} {f : FuncId} {args : Array Value} {v : Value} {K : Nat} {x1 x2 x3 x4 : Int} {w0 W : World} (h : HeldF K x1 x2 x3 x4 w0 W) (hc : Calls P f args W fun e w' => e = .returned v ∧ Below W.heap.size W w') :
    Calls P f args W fun e w' => e = .returned v ∧ HeldF K x1 x2 x3 x4 w0 w' := hc.mono fun _ _ ⟨he, hb⟩ => ⟨he, h.later hb⟩
theorem itoa_below (a : Int) (h0 : 0 ≤ a) (h1 : a < 100) (w : World) :
    Calls Tryz.prog 83 #[.int .i64 a] w fun e w' => e = .returned (.string ⟨(dec2 a.toNat).toArray⟩) ∧ Below w.heap.size w w' :=
  (itoa_walk a h0 h1 w).mono fun _ _ ⟨he, hw⟩ => ⟨he, by rw [hw]; exact Below.refl _ _⟩
theorem nameB_walk (k : Nat) (hk : k < 7) (w : World) :
    Calls Tryz.prog 99 #[.int .i64 (k : Int)] w fun e w' => e = .returned (.string (dayB k)) ∧ Below w.heap.size w w' := name_walk k hk w
theorem ret_sv {a : ByteArray} {l : List UInt8} {k : IntKind} {c : Int} (h : a.data.toList = l) : Ending.returned (.tuple #[.string a, .int k c]) = .returned (.tuple #[.string ⟨l.toArray⟩, .int k c]) := by
  subst h; rfl
theorem timeT_eq (n x1 k p q : Nat) (A B : List UInt8) (hA : (if 1 < q then 45 :: dec2 (p + q) else []) = A) (hB : (if x1 = 2 ^ n - 1 then [] else 32 :: formatL x1 n) = B) : timeT n x1 k p q = (dayB k).data.toList ++ 32 :: (dec2 (p + 1) ++ A) ++ B := by
  unfold timeT slotT; rw [hA, hB]
set_option maxHeartbeats 8000000 in
theorem tgFormat_walk (d s b m n x1 x2 x3 x4 : Int) (w : World) :
    Calls Tryz.prog 145 #[.agg #[.int .i64 d, .int .i64 s, .int .i64 b, .int .i64 m], .int .i64 n, .agg #[.int .i64 x1, .int .i64 x2, .int .i64 x3, .int .i64 x4]] w fun e w' => e = .returned (.tuple #[.string ⟨(fmtT d s b m n x1 x2 x3 x4).1.toArray⟩, .int .i64 (fmtT d s b m n x1 x2 x3 x4).2]) ∧ Below w.heap.size w w' := by
  by_cases hfit : fitsV d s b m n x1 x2 x3 x4 = 0
  · obtain ⟨hwk, hF⟩ := fits_parts hfit
    rw [show fmtT d s b m n x1 x2 x3 x4 = (timeT n.toNat x1.toNat x2.toNat x3.toNat x4.toNat, 0) from if_pos hfit]
    obtain ⟨n1, n2, hv, w1, d1, d2, d3, s1, l1, s2, s3⟩ := hF
    replace hfit := hide hfit
    obtain ⟨N, rfl⟩ := Int.eq_ofNat_of_zero_le (by omega : 0 ≤ n)
    obtain ⟨a, rfl⟩ := Int.eq_ofNat_of_zero_le (by omega : 0 ≤ x1)
    obtain ⟨k, rfl⟩ := Int.eq_ofNat_of_zero_le d1
    obtain ⟨p, rfl⟩ := Int.eq_ofNat_of_zero_le s1
    obtain ⟨q, rfl⟩ := Int.eq_ofNat_of_zero_le (by omega : 0 ≤ x4)
    simp only [Int.toNat_natCast]
    have hds := dayB_size k
    have l1' := dec2_len (p + 1)
    have l2' := dec2_len (p + q)
    have hH : HeldF (w.heap.size + 1) (a : Int) k p q w ((w.alloc (.cells #[.int .i64 d, .int .i64 s, .int .i64 b, .int .i64 m] 30)).alloc (.cells #[.int .i64 a, .int .i64 k, .int .i64 p, .int .i64 q] 83)) :=
      ⟨by simp, by simp, by simp, by simp, (by repeat (first | exact Below.refl _ _ | refine ext_alloc ?_ _ | refine ext_drewN ?_ _ | refine ext_drew ?_ | refine ext_trans ?_ (by assumption)))⟩
    obtain ⟨W0, hW0⟩ : ∃ W0, (w.alloc (.cells #[.int .i64 d, .int .i64 s, .int .i64 b, .int .i64 m] 30)).alloc (.cells #[.int .i64 a, .int .i64 k, .int .i64 p, .int .i64 q] 83) = W0 := ⟨_, rfl⟩
    rw [hW0] at hH
    replace hW0 := hide hW0
    go_enter Tryz.func145, Tryz.ntmps145
    go_wp2_with fail
    refine (tgFits_walk _ _ _ _ _ _ _ _ _ _).mono ?_
    rintro e w1 ⟨rfl, hb1⟩
    rw [hfit.out]
    rw [hW0.out] at hb1
    replace hH := hH.later hb1
    clear hb1
    obtain ⟨a0, a1, a2, a3, hb⟩ := id hH
    go_upto_region 4 with fail
    have hwr : IntKind.i64.wrap ((p : Int) + 1) = (p : Int) + 1 := IntWalk.i64_in _ (by omega)
    have hc1 : (9223372036854775807 < (dayB k).size + 1) = False := eq_false (by omega)
    have hc2 : (9223372036854775807 < (dayB k).size + 1 + (dec2 (p + 1)).length) = False := eq_false (by omega)
    go_cut [9] (fun s9 wx => s9 = .string (dayB k ++ ⟨#[32]⟩ ++ ⟨(dec2 (p + 1)).toArray⟩) ∧ HeldF (w.heap.size + 1) (a : Int) k p q w wx)
    case first =>
      go_region_held3 (fun W => W.cell? ⟨w.heap.size + 1, 0, none⟩ = some (.int .i64 a) ∧ W.cell? ⟨w.heap.size + 1, 1, none⟩ = some (.int .i64 k) ∧ W.cell? ⟨w.heap.size + 1, 2, none⟩ = some (.int .i64 p) ∧ W.cell? ⟨w.heap.size + 1, 3, none⟩ = some (.int .i64 q) ∧ Below w.heap.size w W) (first | with_reducible assumption | exact HeldF.later (by with_reducible assumption) (ext_drew (Below.refl _ _))) (first | (go_at_call 99; refine (keepF (by with_reducible assumption) (nameB_walk k (by omega) _)).mono ?_; rintro e w' ⟨rfl, hs⟩) | (go_at_call 83; refine (keepF (by with_reducible assumption) (itoa_below _ (by omega) (by omega) _)).mono ?_; rintro e w' ⟨rfl, hs⟩; rw [show ((p : Int) + 1).toNat = p + 1 from by omega]))
      all_goals
        go_wp2_with fail
        go_meet
        exact ⟨rfl, by with_reducible assumption⟩
    case rest =>
      clear hwr hc1 hc2 a0 a1 a2 a3 hb hH
      obtain ⟨rfl, hH⟩ := hcut
      obtain ⟨a0, a1, a2, a3, hb⟩ := id hH
      obtain ⟨pe1, pe2, pe3, pe4⟩ := pow_facts2 N (by omega) (by omega)
      have ha := validB_iff.1 hv
      have haN : a < 2 ^ N := by
        have h3 := ha.2.2.2
        rw [Int.toNat_natCast] at h3
        exact_mod_cast h3
      clear ha
      obtain ⟨D, hD⟩ : ∃ D, dayB k = D := ⟨_, rfl⟩
      rw [hD] at hds
      rw [hD]
      replace hD := hide hD
      have hfm : Hid (∀ w : World, Calls Tryz.prog 98 #[.int .i64 a, .int .i64 N] w fun e w' => e = .returned (.tuple #[.string ⟨(formatL a N).toArray⟩, .int .i64 0]) ∧ Below w.heap.size w w') := fun w => by
        have := wsFormat_walk a N w
        rw [show fmtV (a : Int) (N : Int) = (formatL a N, 0) from by unfold fmtV; rw [if_pos hv, Int.toNat_natCast, Int.toNat_natCast]] at this
        exact this
      have hfl := formatL_len a N (by omega)
      by_cases hq : 1 < q
      all_goals by_cases hall : a = 2 ^ N - 1
      · have hfin := hide (timeT_eq N a k p q _ _ (if_pos hq) (if_pos hall))
        have hx : ((a : Int) != ((2 ^ N - 1 : Nat) : Int)) = false := by rw [hall]; simp
        replace hall := hide hall
        clear a0 a1 a2 a3 hb
        obtain ⟨a0, a1, a2, a3, hb⟩ := id hH
        go_wp2_with fail
        refine (keepF hH (itoa_below _ (by omega) (by omega) _)).mono ?_
        rintro e w2 ⟨rfl, hH2⟩
        rw [show ((p : Int) + (q : Int)).toNat = p + q from by omega]
        clear a0 a1 a2 a3 hb hH
        obtain ⟨a0, a1, a2, a3, hb⟩ := id hH2
        go_wp2_with fail
        go_quiet (fail)
        go_wp2_with fail
        go_ret2
        refine ⟨?_, ext_drewN hb _⟩
        rw [hfin.out, hD.out]
        exact ret_sv (by simp [ByteArray.data_append])
      · have hfin := hide (timeT_eq N a k p q _ _ (if_pos hq) (if_neg hall))
        have hx : ((a : Int) != ((2 ^ N - 1 : Nat) : Int)) = true := by rw [bne_iff_ne]; omega
        replace hall := hide hall
        clear a0 a1 a2 a3 hb
        obtain ⟨a0, a1, a2, a3, hb⟩ := id hH
        go_wp2_with fail
        refine (keepF hH (itoa_below _ (by omega) (by omega) _)).mono ?_
        rintro e w2 ⟨rfl, hH2⟩
        rw [show ((p : Int) + (q : Int)).toNat = p + q from by omega]
        clear a0 a1 a2 a3 hb hH
        obtain ⟨a0, a1, a2, a3, hb⟩ := id hH2
        go_wp2_with fail
        go_quiet (fail)
        go_wp2_with fail
        refine (hfm.out _).mono ?_
        rintro e w3 ⟨rfl, hb3⟩
        go_wp2_with fail
        go_ret2
        refine ⟨?_, ext_trans (ext_drewN hb _) hb3⟩
        rw [hfin.out, hD.out]
        exact ret_sv (by simp [ByteArray.data_append])
      · have hfin := hide (timeT_eq N a k p q _ _ (if_neg hq) (if_pos hall))
        have hq' : q ≤ 1 := by omega
        have hx : ((a : Int) != ((2 ^ N - 1 : Nat) : Int)) = false := by rw [hall]; simp
        replace hall := hide hall
        clear a0 a1 a2 a3 hb
        obtain ⟨a0, a1, a2, a3, hb⟩ := id hH
        go_wp2_with fail
        go_quiet (fail)
        go_wp2_with fail
        go_ret2
        refine ⟨?_, ext_drewN hb _⟩
        rw [hfin.out, hD.out]
        exact ret_sv (by simp [ByteArray.data_append])
      · have hfin := hide (timeT_eq N a k p q _ _ (if_neg hq) (if_neg hall))
        have hq' : q ≤ 1 := by omega
        have hx : ((a : Int) != ((2 ^ N - 1 : Nat) : Int)) = true := by rw [bne_iff_ne]; omega
        replace hall := hide hall
        clear a0 a1 a2 a3 hb
        obtain ⟨a0, a1, a2, a3, hb⟩ := id hH
        go_wp2_with fail
        go_quiet (fail)
        go_wp2_with fail
        refine (hfm.out _).mono ?_
        rintro e w3 ⟨rfl, hb3⟩
        go_wp2_with fail
        go_ret2
        refine ⟨?_, ext_trans (ext_drewN hb _) hb3⟩
        rw [hfin.out, hD.out]
        exact ret_sv (by simp [ByteArray.data_append])
  · rw [show fmtT d s b m n x1 x2 x3 x4 = ([], fitsV d s b m n x1 x2 x3 x4) from if_neg hfit]
    have hne : (fitsV d s b m n x1 x2 x3 x4 != 0) = true := by simpa using hfit
    replace hfit := hide hfit
    go_enter Tryz.func145, Tryz.ntmps145
    go_wp2_with fail
    refine (tgFits_walk _ _ _ _ _ _ _ _ _ _).mono ?_
    rintro e w1 ⟨rfl, hb1⟩
    go_wp2
    go_ret2
    exact ⟨rfl, (by repeat (first | exact Below.refl _ _ | refine ext_alloc ?_ _ | refine ext_drewN ?_ _ | refine ext_drew ?_ | refine ext_trans ?_ (by assumption)))⟩
end Go.Proofs.YtehgnnedaedpjaaGreatDoor
