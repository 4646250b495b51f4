/- Walks of timetableref06.Format and Weekday. The listed variables hold their words. -/
import Derived.Test.YtnbcaklnpflihaaGreatDoorKTgK
import Derived.Test.YtnbcaklnpflihaaGreatDoorKRef5D
namespace Go.Proofs.YtnbcaklnpflihaaGreatDoor
open Go.RowKit
set_option maxRecDepth 100000

theorem span_full : ((List.range 21).all fun n => n < 1 || spanN 1 n == 2 ^ n - 1) = true := by decide +kernel
theorem spanN_full {n : Nat} (h1 : 1 ≤ n) (h : n ≤ 20) : spanN 1 n = 2 ^ n - 1 := by
  have := List.all_eq_true.1 span_full n (List.mem_range.2 (by omega))
  have h0 : decide (n < 1) = false := by simp; omega
  rw [h0, Bool.false_or, beq_iff_eq] at this
  exact this
theorem formatL_all {s n : Nat} (h1 : 1 ≤ n) (h : n ≤ 20) (s1 : 1 ≤ s) (hs : s < 2 ^ n) : formatL s n = wAll ↔ s = 2 ^ n - 1 := by
  have hf := spanN_full h1 h
  have hname : formatL (2 ^ n - 1) n = wAll := formatL_name (k := 0) (by unfold nameIdx; rw [if_pos (by show spanN 1 n = _; exact hf)]) (by omega)
  have h2 : 2 ≤ 2 ^ n := by have := Nat.pow_le_pow_right (n := 2) (by omega) h1; simpa using this
  constructor
  · intro e
    have p1 := parse_format h1 h hs (by omega : s ≠ 0)
    have p2 := parse_format (s := 2 ^ n - 1) h1 h (by omega) (by omega)
    rw [e] at p1
    rw [hname, p1] at p2
    exact congrArg Prod.fst p2
  · rintro rfl; exact hname
theorem Dys.cell {w : World} (h : Dys w) (k : Nat) (hk : k < 7) : w.cell? ⟨0, k, none⟩ = some (.string (dayB k)) := by
  obtain ⟨t, r, hr⟩ := h
  rw [cell_of_row w _ k _ _ _ hr]
  match k, hk with
  | 0, _ | 1, _ | 2, _ | 3, _ | 4, _ | 5, _ | 6, _ => rfl
abbrev HeldG (K : Nat) (x1 x2 x3 x4 : Int) (D : ByteArray) (kk : Nat) (w0 W : World) : Prop := W.cell? ⟨K, 0, none⟩ = some (.int .i64 x1) ∧ W.cell? ⟨K, 1, none⟩ = some (.int .i64 x2) ∧ W.cell? ⟨K, 2, none⟩ = some (.int .i64 x3) ∧ W.cell? ⟨K, 3, none⟩ = some (.int .i64 x4) ∧ W.cell? ⟨0, kk, none⟩ = some (.string D) ∧ Below w0.heap.size w0 W
theorem HeldG.later {K : Nat} {x1 x2 x3 x4 : Int} {D : ByteArray} {kk : Nat} {w0 W W' : World} (h : HeldG K x1 x2 x3 x4 D kk w0 W) (hb : Below W.heap.size W W') : HeldG K x1 x2 x3 x4 D kk w0 W' :=
  ⟨cell_later hb h.1, cell_later hb h.2.1, cell_later hb h.2.2.1, cell_later hb h.2.2.2.1, cell_later hb h.2.2.2.2.1, ext_trans h.2.2.2.2.2 hb⟩
theorem keepG {P : Program} {f : FuncId} {args : Array Value} {v : Value} {K : Nat} {x1 x2 x3 x4 : Int} {D : ByteArray} {kk : Nat} {w0 W : World} (h : HeldG K x1 x2 x3 x4 D kk w0 W) (hc : Calls P f args W fun e w' => e = .returned v ∧ Below W.heap.size W w') :
    Calls P f args W fun e w' => e = .returned v ∧ HeldG K x1 x2 x3 x4 D kk w0 w' := hc.mono fun _ _ ⟨he, hb⟩ => ⟨he, h.later hb⟩
theorem decimal_below (a : Int) (h0 : 0 ≤ a) (h1 : a < 100) (w : World) :
    Calls Tryz.prog 27 #[.int .i64 a] w fun e w' => e = .returned (.string ⟨(dec2 a.toNat).toArray⟩) ∧ Below w.heap.size w w' := by
  obtain ⟨n, rfl⟩ := Int.eq_ofNat_of_zero_le h0
  exact decimal_walk n (by omega) w
set_option maxHeartbeats 8000000 in
theorem r6Format_walk (d s b m n x1 x2 x3 x4 : Int) (w : World) (hS : Std w) (hW : Wds w) (hDy : Dys w) :
    Calls Tryz.prog 61 #[.agg #[.int .i64 d, .int .i64 s, .int .i64 b, .int .i64 m], .int .i64 n, .agg #[.int .i64 x1, .int .i64 x2, .int .i64 x3, .int .i64 x4]] w fun e w' => e = .returned (.tuple #[.string ⟨(fmtT d s b m n x1 x2 x3 x4).1.toArray⟩, .int .i64 (fmtT d s b m n x1 x2 x3 x4).2]) ∧ Below w.heap.size w w' := by
  by_cases hfit : fitsV d s b m n x1 x2 x3 x4 = 0
  · obtain ⟨hwk, hF⟩ := fits_parts hfit
    rw [show fmtT d s b m n x1 x2 x3 x4 = (timeT n.toNat x1.toNat x2.toNat x3.toNat x4.toNat, 0) from if_pos hfit]
    obtain ⟨n1, n2, hv, w1, d1, d2, d3, s1, l1, s2, s3⟩ := hF
    replace hfit := hide hfit
    obtain ⟨N, rfl⟩ := Int.eq_ofNat_of_zero_le (by omega : 0 ≤ n)
    obtain ⟨a, rfl⟩ := Int.eq_ofNat_of_zero_le (by omega : 0 ≤ x1)
    obtain ⟨k, rfl⟩ := Int.eq_ofNat_of_zero_le d1
    obtain ⟨p, rfl⟩ := Int.eq_ofNat_of_zero_le s1
    obtain ⟨q, rfl⟩ := Int.eq_ofNat_of_zero_le (by omega : 0 ≤ x4)
    simp only [Int.toNat_natCast]
    have hds := dayB_size k
    have l1' := dec2_len (p + 1)
    have l2' := dec2_len (p + q)
    obtain ⟨D, hD⟩ : ∃ D, dayB k = D := ⟨_, rfl⟩
    have hcell := hDy.cell k (by omega)
    rw [hD] at hcell hds
    replace hD := hide hD
    obtain ⟨W0, hW0⟩ : ∃ W0, (w.alloc (.cells #[.int .i64 d, .int .i64 s, .int .i64 b, .int .i64 m] 24)).alloc (.cells #[.int .i64 a, .int .i64 k, .int .i64 p, .int .i64 q] 50) = W0 := ⟨_, rfl⟩
    have hbW : Below w.heap.size w W0 := by rw [← hW0]; exact (by repeat (first | exact Below.refl _ _ | refine ext_alloc ?_ _ | refine ext_drewN ?_ _ | refine ext_drew ?_ | refine ext_trans ?_ (by assumption)))
    have hH : HeldG (w.heap.size + 1) (a : Int) k p q D k w W0 := by
      rw [← hW0]
      exact ⟨by simp, by simp, by simp, by simp, cell_later (by repeat (first | exact Below.refl _ _ | refine ext_alloc ?_ _ | refine ext_drewN ?_ _ | refine ext_drew ?_ | refine ext_trans ?_ (by assumption))) hcell, (by repeat (first | exact Below.refl _ _ | refine ext_alloc ?_ _ | refine ext_drewN ?_ _ | refine ext_drew ?_ | refine ext_trans ?_ (by assumption)))⟩
    replace hW0 := hide hW0
    clear hcell hbW
    go_enter Tryz.func61, Tryz.ntmps61
    go_wp2_with fail
    refine (r6Fits_walk _ _ _ _ _ _ _ _ _ _).mono ?_
    rintro e w1 ⟨rfl, hb1⟩
    rw [hfit.out]
    rw [hW0.out] at hb1
    replace hH := hH.later hb1
    clear hb1
    obtain ⟨a0, a1, a2, a3, ac, hb⟩ := id hH
    go_upto_region 4 with fail
    have hwr : IntKind.i64.wrap ((p : Int) + 1) = (p : Int) + 1 := IntWalk.i64_in _ (by omega)
    have hc1 : (9223372036854775807 < D.size + 1) = False := eq_false (by omega)
    have hc2 : (9223372036854775807 < D.size + 1 + (dec2 (p + 1)).length) = False := eq_false (by omega)
    have k0 : (0 : Int) ≤ k := by omega
    have k7 : (k : Int) < 7 := by omega
    go_cut [9] (fun s9 wx => s9 = .string (D ++ ⟨#[32]⟩ ++ ⟨(dec2 (p + 1)).toArray⟩) ∧ HeldG (w.heap.size + 1) (a : Int) k p q D k w wx)
    case first =>
      go_region_held3 (fun W => W.cell? ⟨w.heap.size + 1, 0, none⟩ = some (.int .i64 a) ∧ W.cell? ⟨w.heap.size + 1, 1, none⟩ = some (.int .i64 k) ∧ W.cell? ⟨w.heap.size + 1, 2, none⟩ = some (.int .i64 p) ∧ W.cell? ⟨w.heap.size + 1, 3, none⟩ = some (.int .i64 q) ∧ W.cell? ⟨0, k, none⟩ = some (.string D) ∧ Below w.heap.size w W) (first | with_reducible assumption | exact HeldG.later (by with_reducible assumption) (ext_drew (Below.refl _ _))) ((go_at_call 27; refine (keepG (by with_reducible assumption) (decimal_below _ (by omega) (by omega) _)).mono ?_; rintro e w' ⟨rfl, hs⟩; rw [show ((p : Int) + 1).toNat = p + 1 from by omega]))
      all_goals
        go_wp2_with fail
        go_meet
        exact ⟨rfl, by with_reducible assumption⟩
    case rest =>
      clear hwr hc1 hc2 a0 a1 a2 a3 ac hb hH
      obtain ⟨rfl, hH⟩ := hcut
      have ha := validB_iff.1 hv
      have haN : a < 2 ^ N := by
        have h3 := ha.2.2.2
        rw [Int.toNat_natCast] at h3
        exact_mod_cast h3
      clear ha
      have hfl := formatL_len a N (by omega)
      have hfm : Hid (∀ w : World, Wds w → Calls Tryz.prog 97 #[.int .i64 a, .int .i64 N] w fun e w' => e = .returned (.tuple #[.string ⟨(formatL a N).toArray⟩, .int .i64 0]) ∧ Below w.heap.size w w') := fun w hW => by
        have := r5Format_walk a N w hW
        rw [show fmtV (a : Int) (N : Int) = (formatL a N, 0) from by unfold fmtV; rw [if_pos hv, Int.toNat_natCast, Int.toNat_natCast]] at this
        exact this
      have hiff := hide (formatL_all (s := a) (n := N) (by omega) (by omega) (by omega) haN)
      obtain ⟨X, hX⟩ : ∃ X, formatL a N = X := ⟨_, rfl⟩
      rw [hX] at hfl
      replace hX := hide hX
      by_cases hq : 1 < q
      · by_cases hall : a = 2 ^ N - 1
        · have hfin := hide (timeT_eq N a k p q _ _ (if_pos hq) (if_pos hall))
          have hXe : X = [97, 108, 108] := hX.out.symm.trans (hiff.out.2 hall)
          subst hXe
          replace hall := hide hall
          obtain ⟨a0, a1, a2, a3, ac, hb⟩ := id hH
          go_wp2_with fail
          refine (keepG hH (decimal_below _ (by omega) (by omega) _)).mono ?_
          rintro e w2 ⟨rfl, hH2⟩
          rw [show ((p : Int) + (q : Int)).toNat = p + q from by omega]
          clear a0 a1 a2 a3 ac hb hH
          obtain ⟨a0, a1, a2, a3, ac, hb⟩ := id hH2
          go_wp2_with fail
          refine (hfm.out _ (hW.after hb hS)).mono ?_
          rintro e w3 ⟨rfl, hb3⟩
          rw [hX.out]
          go_wp2_with fail
          go_ret2
          refine ⟨?_, ext_trans hb hb3⟩
          rw [hfin.out, hD.out]
          exact ret_sv (by simp [ByteArray.data_append])
        · have hfin := hide (timeT_eq N a k p q _ _ (if_pos hq) (if_neg hall))
          have hXe : X ≠ [97, 108, 108] := fun e => hall (hiff.out.1 (hX.out.trans e))
          have hXb : (X == [97, 108, 108]) = false := by rw [beq_eq_false_iff_ne]; exact hXe
          replace hXe := hide hXe
          replace hall := hide hall
          obtain ⟨a0, a1, a2, a3, ac, hb⟩ := id hH
          go_wp2_with fail
          refine (keepG hH (decimal_below _ (by omega) (by omega) _)).mono ?_
          rintro e w2 ⟨rfl, hH2⟩
          rw [show ((p : Int) + (q : Int)).toNat = p + q from by omega]
          clear a0 a1 a2 a3 ac hb hH
          obtain ⟨a0, a1, a2, a3, ac, hb⟩ := id hH2
          go_wp2_with fail
          refine (hfm.out _ (hW.after hb hS)).mono ?_
          rintro e w3 ⟨rfl, hb3⟩
          rw [hX.out]
          go_wp2_with fail
          go_ret2
          refine ⟨?_, ext_trans hb hb3⟩
          rw [hfin.out, hD.out]; rw [hX.out]
          exact ret_sv (by simp [ByteArray.data_append])
      · by_cases hall : a = 2 ^ N - 1
        · have hfin := hide (timeT_eq N a k p q _ _ (if_neg hq) (if_pos hall))
          have hq' : q ≤ 1 := by omega
          have hXe : X = [97, 108, 108] := hX.out.symm.trans (hiff.out.2 hall)
          subst hXe
          replace hall := hide hall
          obtain ⟨a0, a1, a2, a3, ac, hb⟩ := id hH
          go_wp2_with fail
          refine (hfm.out _ (hW.after hb hS)).mono ?_
          rintro e w3 ⟨rfl, hb3⟩
          rw [hX.out]
          go_wp2_with fail
          go_ret2
          refine ⟨?_, ext_trans hb hb3⟩
          rw [hfin.out, hD.out]
          exact ret_sv (by simp [ByteArray.data_append])
        · have hfin := hide (timeT_eq N a k p q _ _ (if_neg hq) (if_neg hall))
          have hq' : q ≤ 1 := by omega
          have hXe : X ≠ [97, 108, 108] := fun e => hall (hiff.out.1 (hX.out.trans e))
          have hXb : (X == [97, 108, 108]) = false := by rw [beq_eq_false_iff_ne]; exact hXe
          replace hXe := hide hXe
          replace hall := hide hall
          obtain ⟨a0, a1, a2, a3, ac, hb⟩ := id hH
          go_wp2_with fail
          refine (hfm.out _ (hW.after hb hS)).mono ?_
          rintro e w3 ⟨rfl, hb3⟩
          rw [hX.out]
          go_wp2_with fail
          go_ret2
          refine ⟨?_, ext_trans hb hb3⟩
          rw [hfin.out, hD.out]; rw [hX.out]
          exact ret_sv (by simp [ByteArray.data_append])
  · rw [show fmtT d s b m n x1 x2 x3 x4 = ([], fitsV d s b m n x1 x2 x3 x4) from if_neg hfit]
    have hne : (fitsV d s b m n x1 x2 x3 x4 != 0) = true := by simpa using hfit
    replace hfit := hide hfit
    go_enter Tryz.func61, Tryz.ntmps61
    go_wp2_with fail
    refine (r6Fits_walk _ _ _ _ _ _ _ _ _ _).mono ?_
    rintro e w1 ⟨rfl, hb1⟩
    go_wp2
    go_ret2
    exact ⟨rfl, (by repeat (first | exact Below.refl _ _ | refine ext_alloc ?_ _ | refine ext_drewN ?_ _ | refine ext_drew ?_ | refine ext_trans ?_ (by assumption)))⟩
end Go.Proofs.YtnbcaklnpflihaaGreatDoor
