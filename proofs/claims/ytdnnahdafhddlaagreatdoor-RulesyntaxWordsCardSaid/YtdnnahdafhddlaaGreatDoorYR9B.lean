/- Walk of the reference's Valid of a rule. Conditions: the rule's data. Walk of timetableref07.Times. Conditions: texts shorter than 2^30 bytes; what the program's variables hold. -/
import Derived.Test.YtdnnahdafhddlaaGreatDoorYRrS
import Derived.Test.YtdnnahdafhddlaaGreatDoorYPairsP
namespace Go.Proofs.YtdnnahdafhddlaaGreatDoor
open Go.RowKit
set_option maxRecDepth 100000

set_option maxHeartbeats 2000000 in
theorem rnone_walk (s : Sel) (k : Int) (n : ByteArray) (A : Option Addr) (l c : Nat) (w : World) (hr : kSel.rep AnyB w s [.int .i64 k, .string n, .slice A l c]) :
    Calls Tryz.prog 37 #[.agg #[.int .i64 k, .string n, .slice A l c]] w fun e w' => e = .returned (.bool (noneS s)) ∧ Below w.heap.size w w' := by
  rw [noneS_rep hr]
  obtain ⟨W, hW⟩ : ∃ W, w.alloc (.cells #[.int .i64 k, .string n, .slice A l c] 40) = W := ⟨_, rfl⟩
  have hb1 : Below w.heap.size w W := by rw [← hW]; exact ext_alloc (Below.refl _ _) _
  have hr1 : W.heap[w.heap.size]? = some (.cells #[.int .i64 k, .string n, .slice A l c] 40 (0, 0)) := by rw [← hW]; exact heap_alloc_new _ _
  obtain ⟨y0, y1, y2, -⟩ := sel_cells hr1
  have hE0 := str_empty n
  have hE : n.toList.isEmpty = decide (n.size = 0) := by rw [← hE0]; cases n.toList <;> rfl
  obtain ⟨EM, hEM⟩ : ∃ EM, decide (n.size = 0) = EM := ⟨_, rfl⟩
  rw [hEM] at hE hE0 ⊢
  obtain ⟨Z, hZ⟩ : ∃ Z, (k == 0) = Z := ⟨_, rfl⟩
  have hZ2 : decide (k = 0) = Z := by rw [← hZ]; rfl
  obtain ⟨M, hM⟩ : ∃ M, ((l : Int) == 0) = M := ⟨_, rfl⟩
  have hM2 : decide (l = 0) = M := by rw [← hM, Bool.eq_iff_iff]; simp
  rw [hZ2, hM2]
  replace hZ2 := hide hZ2
  replace hM2 := hide hM2
  clear hEM hr hr1
  go_enter Tryz.func37, Tryz.ntmps37
  cases Z
  · go_wp2
    go_ret
    exact ⟨by first | rfl | simp, hb1⟩
  · cases EM
    · go_wp2
      go_ret
      exact ⟨by first | rfl | simp, hb1⟩
    · go_wp2
      go_ret
      exact ⟨by first | rfl | simp, hb1⟩
set_option maxHeartbeats 2000000 in
theorem rSound_walk (s : Sel) (hs : selSize s ≤ 9223372036854775807) (k : Int) (n : ByteArray) (A : Option Addr) (l c : Nat) (w : World) (hr : kSel.rep AnyB w s [.int .i64 k, .string n, .slice A l c]) :
    Calls Tryz.prog 28 #[.agg #[.int .i64 k, .string n, .slice A l c]] w fun e w' => e = .returned (.bool (selOk s)) ∧ Below w.heap.size w w' := by
  rw [show selOk s = _ from selOk_same codeB s]
  obtain ⟨W, hW⟩ : ∃ W, w.alloc (.cells #[.int .i64 k, .string n, .slice A l c] 40) = W := ⟨_, rfl⟩
  have hb1 : Below w.heap.size w W := by rw [← hW]; exact ext_alloc (Below.refl _ _) _
  have hr1 : W.heap[w.heap.size]? = some (.cells #[.int .i64 k, .string n, .slice A l c] 40 (0, 0)) := by rw [← hW]; exact heap_alloc_new _ _
  obtain ⟨y0, y1, y2, -⟩ := sel_cells hr1
  have hrep : ∀ V, Below W.heap.size W V → kSel.rep AnyB V s [.int .i64 k, .string n, .slice A l c] := fun V hV => kSel.later (kSel.later hr hb1) hV
  have hD := rDepth_walk s hs k n A l c W (hrep W (Below.refl _ _))
  have hP := hide (fun V hV => rparts_walk s hs k n A l c V (hrep V hV))
  have hS := hide (fun V hV => rsound_walk s hs k n A l c V (hrep V hV))
  obtain ⟨D, hDe⟩ : ∃ D, depthR s 101 = D := ⟨_, rfl⟩
  obtain ⟨P, hPe⟩ : ∃ P, partsR s = P := ⟨_, rfl⟩
  obtain ⟨Q, hQe⟩ : ∃ Q, soundS codeB s = Q := ⟨_, rfl⟩
  rw [hDe] at hD ⊢
  rw [hPe] at hP ⊢
  rw [hQe] at hS ⊢
  have hr2 := hide hr1
  clear hr hrep hDe hPe hQe hr1
  go_enter Tryz.func28, Tryz.ntmps28
  go_wp2_with fail
  refine hD.mono ?_
  rintro e w1 ⟨rfl, hb2⟩
  clear hD y0 y1 y2
  have hr3 := (hb2.block _ (blk_lt hr2.out)).trans hr2.out
  obtain ⟨y0, y1, y2, -⟩ := sel_cells hr3
  have hrl := blk_lt hr3
  by_cases h8 : D ≤ 8
  · have h8i : (D : Int) ≤ 8 := by omega
    have hc := hP.out w1 hb2
    clear hr3
    go_wp2_with fail
    refine hc.mono ?_
    rintro e w2 ⟨rfl, hb3⟩
    have hb4 := ext_trans hb2 hb3
    clear hc y0 y1 y2 hrl
    have hr4 := (hb4.block _ (blk_lt hr2.out)).trans hr2.out
    obtain ⟨y0, y1, y2, -⟩ := sel_cells hr4
    have hrl := blk_lt hr4
    by_cases h64 : P ≤ 64
    · have h64i : (P : Int) ≤ 64 := by omega
      have hc := hS.out w2 hb4
      clear hr4
      go_wp2_with fail
      refine hc.mono ?_
      rintro e w3 ⟨rfl, hb5⟩
      go_wp2
      go_ret
      exact ⟨by simp [h8, h64], ext_trans hb1 (ext_trans hb4 hb5)⟩
    · have h64i : ¬ (P : Int) ≤ 64 := by omega
      clear hr4
      go_wp2
      go_ret
      exact ⟨by simp, ext_trans hb1 hb4⟩
  · have h8i : ¬ (D : Int) ≤ 8 := by omega
    clear hr3
    go_wp2
    go_ret
    exact ⟨by simp, ext_trans hb1 hb2⟩

set_option maxHeartbeats 8000000 in
theorem r14valid_walk (u : RuleD) (hok : RuleOk u) (d sl b m wk : Int) (f1 s1 : ByteArray) (f0 s0 : Int) (fA sA tA rA : Option Addr) (fl fc sl' sc tc rc : Nat) (w : World) (hrc : u.rooms.length ≤ rc)
    (h1 : kSel.rep AnyB w u.first [.int .i64 f0, .string f1, .slice fA fl fc]) (h2 : kSel.rep AnyB w u.second [.int .i64 s0, .string s1, .slice sA sl' sc]) (h3 : At kTime AnyB w tA u.times) (h4 : At kStr AnyB w rA u.rooms) :
    Calls Tryz.prog 17 #[.agg #[.string u.name, .int .i64 u.weight, .int .i64 u.kind, .int .i64 f0, .string f1, .slice fA fl fc, .int .i64 s0, .string s1, .slice sA sl' sc, .int .i64 u.n, .slice tA u.times.length tc, .slice rA u.rooms.length rc, .int .i64 u.line], .agg #[.int .i64 d, .int .i64 sl, .int .i64 b, .int .i64 m], .int .i64 wk] w fun e w' => e = .returned (.int .i64 (ruleE d sl b m wk u)) ∧ Below w.heap.size w w' := by
  obtain ⟨o1, o2, o3, o4⟩ := hok
  have hE : ruleE d sl b m wk u = if weekB d sl b m wk = false then 1 else if codeB u.name = false then 10 else if u.weight < 0 ∨ 1000 < u.weight then 3 else if u.kind < 1 ∨ 12 < u.kind then 1
    else if selectedB u = false then 4 else if u.n < 0 ∨ (if numbI u.kind then 24 else 0) < u.n then 3 else if listedE d sl b m wk u ≠ 0 then listedE d sl b m wk u else if u.line < 0 then 3 else 0 := rfl
  have hLL : listedE d sl b m wk u = if u.kind ≠ 10 ∧ 0 < u.times.length then 1 else if u.kind = 10 ∧ u.times.length = 0 then 16 else if 24 < u.times.length then 2 else if unfitB d sl b m wk u.times = true then 14
    else if u.kind ≠ 11 ∧ 0 < u.rooms.length then 1 else if u.kind = 11 ∧ u.rooms.length = 0 then 16 else if 16 < u.rooms.length then 2 else roomsTo u.rooms u.rooms.length := rfl
  obtain ⟨E, hEE⟩ : ∃ E, ruleE d sl b m wk u = E := ⟨_, rfl⟩
  obtain ⟨nm, hnm⟩ : ∃ nm, u.name = nm := ⟨_, rfl⟩
  obtain ⟨wt, hwt⟩ : ∃ wt, u.weight = wt := ⟨_, rfl⟩
  obtain ⟨kd, hkd⟩ : ∃ kd, u.kind = kd := ⟨_, rfl⟩
  obtain ⟨nn, hnn⟩ : ∃ nn, u.n = nn := ⟨_, rfl⟩
  obtain ⟨ln, hln⟩ : ∃ ln, u.line = ln := ⟨_, rfl⟩
  obtain ⟨ts, hts⟩ : ∃ ts, u.times = ts := ⟨_, rfl⟩
  obtain ⟨xs, hxs⟩ : ∃ xs, u.rooms = xs := ⟨_, rfl⟩
  rw [hts] at o3 h3 hLL
  rw [hxs] at o4 h4 hLL hrc
  rw [hts, hxs]
  obtain ⟨nt, hnt⟩ : ∃ nt, ts.length = nt := ⟨_, rfl⟩
  obtain ⟨nr, hnr⟩ : ∃ nr, xs.length = nr := ⟨_, rfl⟩
  have hs1 := hide (fun V (hV : Below w.heap.size w V) => rSound_walk u.first o1 f0 f1 fA fl fc V (kSel.later h1 hV))
  have hs2 := hide (fun V (hV : Below w.heap.size w V) => rSound_walk u.second o2 s0 s1 sA sl' sc V (kSel.later h2 hV))
  have hs3 := hide (fun V (hV : Below w.heap.size w V) => rnone_walk u.second s0 s1 sA sl' sc V (kSel.later h2 hV))
  have hSB : selectedB u = if kd = 6 then selOk u.first && selOk u.second else selOk u.first && noneS u.second := by unfold selectedB; rw [hkd]
  obtain ⟨Q1, hQ1⟩ : ∃ Q1, selOk u.first = Q1 := ⟨_, rfl⟩
  obtain ⟨Q2, hQ2⟩ : ∃ Q2, selOk u.second = Q2 := ⟨_, rfl⟩
  obtain ⟨Q3, hQ3⟩ : ∃ Q3, noneS u.second = Q3 := ⟨_, rfl⟩
  rw [hQ1] at hs1 hSB
  rw [hQ2] at hs2 hSB
  rw [hQ3] at hs3 hSB
  obtain ⟨SB, hSBe⟩ : ∃ SB, selectedB u = SB := ⟨_, rfl⟩
  obtain ⟨L, hL⟩ : ∃ L, listedE d sl b m wk u = L := ⟨_, rfl⟩
  rw [hSBe] at hSB hE
  rw [hL] at hE hLL
  rw [hEE, hnm, hwt, hkd, hnn, hln] at hE
  rw [hEE, hnm, hwt, hkd, hnn, hln, hnt, hnr]
  rw [hkd, hnt, hnr] at hLL
  rw [hnt] at o3
  rw [hnr] at o4 hrc
  clear hEE hnm hwt hkd hnn hln hSBe hL h1 h2 o1 o2 hQ1 hQ2 hQ3 hts hxs
  obtain ⟨W, hW⟩ : ∃ W, (w.alloc (.cells #[.string nm, .int .i64 wt, .int .i64 kd, .int .i64 f0, .string f1, .slice fA fl fc, .int .i64 s0, .string s1, .slice sA sl' sc, .int .i64 nn, .slice tA nt tc, .slice rA nr rc, .int .i64 ln] 43)).alloc (.cells #[.int .i64 d, .int .i64 sl, .int .i64 b, .int .i64 m] 23) = W := ⟨_, rfl⟩
  obtain ⟨r, hr⟩ : ∃ r, w.heap.size = r := ⟨_, rfl⟩
  obtain ⟨gb, hgb⟩ : ∃ gb, r + 1 = gb := ⟨_, rfl⟩
  have hb : Below w.heap.size w W := by rw [← hW]; exact (by repeat (first | exact Below.refl _ _ | refine ext_alloc ?_ _ | refine ext_drewN ?_ _ | refine ext_drew ?_ | refine ext_trans ?_ (by assumption)))
  have hrow : RowV 43 W r [.string nm, .int .i64 wt, .int .i64 kd, .int .i64 f0, .string f1, .slice fA fl fc, .int .i64 s0, .string s1, .slice sA sl' sc, .int .i64 nn, .slice tA nt tc, .slice rA nr rc, .int .i64 ln] := ⟨_, by rw [← hW, ← hr]; exact (Below.heap_alloc _ _ _ (by simp only [World.size_alloc]; omega)).trans (heap_alloc_new _ _), rfl⟩
  have bG : Box4 W gb (.int .i64 d) (.int .i64 sl) (.int .i64 b) (.int .i64 m) := by
    rw [← hW, ← hgb, ← hr]
    have := Box4.new (w.alloc (.cells #[.string nm, .int .i64 wt, .int .i64 kd, .int .i64 f0, .string f1, .slice fA fl fc, .int .i64 s0, .string s1, .slice sA sl' sc, .int .i64 nn, .slice tA nt tc, .slice rA nr rc, .int .i64 ln] 43)) 23 (.int .i64 d) (.int .i64 sl) (.int .i64 b) (.int .i64 m)
    rw [World.size_alloc] at this
    exact this
  have h3W := h3.later hb
  have h4W := h4.later hb
  obtain ⟨NB, hNB⟩ : ∃ NB, numbI kd = NB := ⟨_, rfl⟩
  obtain ⟨S6, hS6⟩ : ∃ S6, (kd == 6) = S6 := ⟨_, rfl⟩
  have p6 : kd = 6 ↔ S6 = true := by rw [← hS6]; simp
  rw [hNB] at hE
  simp only [p6] at hSB
  replace p6 := hide p6
  have c2 := hrow.get (j := 2) rfl
  have hrl := hrow.lt
  replace hE := hide hE
  replace hLL := hide hLL
  replace hSB := hide hSB
  replace hNB := hide hNB
  replace hnt := hide hnt
  replace hnr := hide hnr
  clear h3 h4
  go_enter Tryz.func17, Tryz.ntmps17
  go_upto_region 1 with fail
  go_cut [7] (fun s7 V => s7 = .bool NB ∧ V = W)
  case first =>
    have hN := hNB.out
    unfold numbI at hN
    by_cases k7 : kd = 7
    · subst k7
      obtain rfl : true = NB := hN
      go_wp2_with fail
      go_meet
      exact ⟨rfl, rfl⟩
    · have e7 : (kd == 7) = false := by rw [beq_eq_false_iff_ne]; exact k7
      by_cases k8 : kd = 8
      · subst k8
        obtain rfl : true = NB := hN
        go_wp2_with fail
        go_meet
        exact ⟨rfl, rfl⟩
      · have e8 : (kd == 8) = false := by rw [beq_eq_false_iff_ne]; exact k8
        by_cases k9 : kd = 9
        · subst k9
          obtain rfl : true = NB := hN
          go_wp2_with fail
          go_meet
          exact ⟨rfl, rfl⟩
        · have e9 : (kd == 9) = false := by rw [beq_eq_false_iff_ne]; exact k9
          obtain rfl : false = NB := by rw [← hN]; symm; rw [Bool.and_eq_false_iff, decide_eq_false_iff_not, decide_eq_false_iff_not]; omega
          replace k7 := hide k7
          replace k8 := hide k8
          replace k9 := hide k9
          clear hN
          go_wp2_with fail
          go_meet
          exact ⟨rfl, rfl⟩
  case rest =>
    obtain ⟨rfl, rfl⟩ := hcut
    rename World => W0
    have hwk := r6Usable_walk d sl b m wk W0
    obtain ⟨g0, g1, g2, g3⟩ := id bG
    have hgl := bG.lt
    have hE1 := hE.out
    replace hW := hide hW
    clear hE
    go_wp2_with fail
    refine hwk.mono ?_
    rintro e w1 ⟨rfl, hb1⟩
    clear hwk
    have hrow1 := hrow.later hb1
    have bG1 := bG.later hb1
    have hbw := ext_trans hb hb1
    clear c2 hrl g0 g1 g2 g3 hgl
    have c0 := hrow1.get (j := 0) rfl
    have c1 := hrow1.get (j := 1) rfl
    have c2 := hrow1.get (j := 2) rfl
    have c3 := hrow1.get (j := 3) rfl
    have c4 := hrow1.get (j := 4) rfl
    have c5 := hrow1.get (j := 5) rfl
    have hrl := hrow1.lt
    cases hwb : weekB d sl b m wk with
    | false =>
      have hend : Hid (E = 1) := hide (by rw [hE1, if_pos hwb])
      clear hE1 hLL hSB
      (
              go_wp2
              go_ret
              exact ⟨by rw [hend.out]; rfl, by first | exact hbw | (rw [← hr]; exact hbw) | (rw [hr]; exact hbw)⟩)
    | true =>
      rw [if_neg (by rw [hwb]; decide)] at hE1
      have hcv := r3valid_walk nm
      obtain ⟨CV, hCV⟩ : ∃ CV, codeB nm = CV := ⟨_, rfl⟩
      rw [hCV] at hcv hE1
      replace hCV := hide hCV
      replace hE1 := hide hE1
      clear hwb
      go_upto_if 32 with (go_at_call 36; refine (hcv _).mono ?_; rintro e w' ⟨rfl, rfl⟩)
      clear hcv
      have hE1 := hE1.out
      cases CV with
      | false =>
        have hend : Hid (E = 10) := hide (by rw [hE1, if_pos rfl])
        clear hE1 hLL hSB
        (
                go_wp2
                go_ret
                exact ⟨by rw [hend.out]; rfl, by first | exact hbw | (rw [← hr]; exact hbw) | (rw [hr]; exact hbw)⟩)
      | true =>
        rw [if_neg (by decide)] at hE1
        by_cases hw1 : wt < 0
        · have hend : Hid (E = 3) := hide (by rw [hE1, if_pos (.inl hw1)])
          clear hE1 hLL hSB
          (
                  go_wp2
                  go_ret
                  exact ⟨by rw [hend.out]; rfl, by first | exact hbw | (rw [← hr]; exact hbw) | (rw [hr]; exact hbw)⟩)
        · by_cases hw2 : 1000 < wt
          · have hend : Hid (E = 3) := hide (by rw [hE1, if_pos (.inr hw2)])
            clear hE1 hLL hSB
            (
                    go_wp2
                    go_ret
                    exact ⟨by rw [hend.out]; rfl, by first | exact hbw | (rw [← hr]; exact hbw) | (rw [hr]; exact hbw)⟩)
          · rw [if_neg (by omega)] at hE1
            by_cases hk1 : kd < 1
            · have hend : Hid (E = 1) := hide (by rw [hE1, if_pos (.inl hk1)])
              clear hE1 hLL hSB
              (
                      go_wp2
                      go_ret
                      exact ⟨by rw [hend.out]; rfl, by first | exact hbw | (rw [← hr]; exact hbw) | (rw [hr]; exact hbw)⟩)
            · by_cases hk2 : 12 < kd
              · have hend : Hid (E = 1) := hide (by rw [hE1, if_pos (.inr hk2)])
                clear hE1 hLL hSB
                (
                        go_wp2
                        go_ret
                        exact ⟨by rw [hend.out]; rfl, by first | exact hbw | (rw [← hr]; exact hbw) | (rw [hr]; exact hbw)⟩)
              · rw [if_neg (by omega)] at hE1
                replace hE1 := hide hE1
                have hc1 := hs1.out w1 hbw
                have hSB1 := hSB.out
                clear hSB
                go_upto_region 11 with fail
                go_cut [55] (fun s V => s = .bool (!SB) ∧ Below W0.heap.size W0 V)
                case first =>
                  go_wp2_with fail
                  refine hc1.mono ?_
                  rintro e w2 ⟨rfl, hb2⟩
                  clear hc1 c0 c1 c2 c3 c4 c5 hrl
                  have hrow2 := hrow1.later hb2
                  have hb12 := ext_trans hb1 hb2
                  have c6 := hrow2.get (j := 6) rfl
                  have c7 := hrow2.get (j := 7) rfl
                  have c8 := hrow2.get (j := 8) rfl
                  have hrl := hrow2.lt
                  have hc2 := hs2.out w2 (ext_trans hbw hb2)
                  have hc3 := hs3.out w2 (ext_trans hbw hb2)
                  cases Q1 with
                  | false =>
                    obtain rfl : SB = false := by rw [hSB1]; simp
                    clear hSB1 hc2 hc3
                    cases S6
                    · go_wp2_with fail
                      go_meet
                      exact ⟨rfl, hb12⟩
                    · go_wp2_with fail
                      go_meet
                      exact ⟨rfl, hb12⟩
                  | true =>
                    cases S6 with
                    | true =>
                      obtain rfl : SB = Q2 := by rw [hSB1]; simp
                      clear hSB1 hc3
                      go_wp2_with fail
                      refine hc2.mono ?_
                      rintro e w3 ⟨rfl, hb3⟩
                      clear hc2
                      cases SB
                      · go_wp2_with fail
                        go_meet
                        exact ⟨rfl, ext_trans hb12 hb3⟩
                      · go_wp2_with fail
                        go_meet
                        exact ⟨rfl, ext_trans hb12 hb3⟩
                    | false =>
                      obtain rfl : SB = Q3 := by rw [hSB1]; simp
                      clear hSB1 hc2
                      go_wp2_with fail
                      refine hc3.mono ?_
                      rintro e w3 ⟨rfl, hb3⟩
                      clear hc3
                      cases SB
                      · go_wp2_with fail
                        go_meet
                        exact ⟨rfl, ext_trans hb12 hb3⟩
                      · go_wp2_with fail
                        go_meet
                        exact ⟨rfl, ext_trans hb12 hb3⟩
                case rest =>
                  obtain ⟨rfl, hb2⟩ := hcut
                  clear hrow1 bG1 hbw c0 c1 c2 c3 c4 c5 hrl hc1 hSB1 hb1 hs1 hs2 hs3
                  rename World => wq
                  have hbw := ext_trans hb hb2
                  have hE2 := hE1.out
                  have hrow2 := hrow.later hb2
                  have c9 := hrow2.get (j := 9) rfl
                  have hrl := hrow2.lt
                  clear hE1 hrow2
                  cases SB with
                  | false =>
                    have hend : Hid (E = 4) := hide (by rw [hE2, if_pos rfl])
                    clear hE2 hLL
                    (
                            go_wp2
                            go_ret
                            exact ⟨by rw [hend.out]; rfl, by first | exact hbw | (rw [← hr]; exact hbw) | (rw [hr]; exact hbw)⟩)
                  | true =>
                    rw [if_neg (by decide)] at hE2
                    replace hE2 := hide hE2
                    obtain ⟨NX, hNX⟩ : ∃ NX, decide (nn < 0 ∨ (if NB = true then 24 else 0) < nn) = NX := ⟨_, rfl⟩
                    go_upto_region 13 with fail
                    go_cut [79] (fun s V => s = .bool NX ∧ V = wq)
                    case first =>
                      by_cases n1 : nn < 0
                      · obtain rfl : true = NX := by rw [← hNX]; exact (decide_eq_true (.inl n1)).symm
                        clear hNX
                        go_wp2_with fail
                        go_meet
                        exact ⟨rfl, rfl⟩
                      · by_cases n2 : 24 < nn
                        · obtain rfl : true = NX := by rw [← hNX]; symm; rw [decide_eq_true_iff]; right; split <;> omega
                          clear hNX
                          go_wp2_with fail
                          go_meet
                          exact ⟨rfl, rfl⟩
                        · cases NB with
                          | true =>
                            obtain rfl : false = NX := by rw [← hNX]; symm; rw [decide_eq_false_iff_not, if_pos rfl]; omega
                            clear hNX
                            go_wp2_with fail
                            go_meet
                            exact ⟨rfl, rfl⟩
                          | false =>
                            by_cases n3 : nn = 0
                            · subst n3
                              obtain rfl : false = NX := by rw [← hNX]; symm; rw [decide_eq_false_iff_not, if_neg (by decide)]; omega
                              clear hNX n1 n2
                              go_wp2_with fail
                              go_meet
                              exact ⟨rfl, rfl⟩
                            · obtain rfl : true = NX := by rw [← hNX]; symm; rw [decide_eq_true_iff, if_neg (by decide)]; omega
                              have n4 : (nn != 0) = true := by rw [bne_iff_ne]; exact n3
                              have n5 : (nn == 0) = false := by rw [beq_eq_false_iff_ne]; exact n3
                              replace n3 := hide n3
                              clear hNX
                              go_wp2_with fail
                              go_meet
                              exact ⟨rfl, rfl⟩
                    case rest =>
                      obtain ⟨rfl, rfl⟩ := hcut
                      have hE := hE2.out
                      clear hE2 c9 hrl
                      cases NX with
                      | true =>
                        have hend : Hid (E = 3) := hide (by rw [hE, if_pos (of_decide_eq_true hNX)])
                        clear hE hNX hLL
                        (
                                go_wp2
                                go_ret
                                exact ⟨by rw [hend.out]; rfl, by first | exact hbw | (rw [← hr]; exact hbw) | (rw [hr]; exact hbw)⟩)
                      | false =>
                        rw [if_neg (of_decide_eq_false hNX)] at hE
                        have hL := hLL.out
                        clear hNX hLL hw1 hw2 hk1 hk2
                        have hrow2 := hrow.later hb2
                        have c2 := hrow2.get (j := 2) rfl
                        have c10 := hrow2.get (j := 10) rfl
                        have c11 := hrow2.get (j := 11) rfl
                        have c12 := hrow2.get (j := 12) rfl
                        have hrl := hrow2.lt
                        by_cases k10 : kd = 10
                        · rw [if_neg (fun h => h.1 k10)] at hL
                          subst k10
                          by_cases n0 : nt = 0
                          · rw [if_pos ⟨rfl, n0⟩] at hL
                            subst hL
                            have hend : Hid (E = 16) := hide (by rw [hE, if_pos (by decide)])
                            subst n0
                            clear hE
                            (
                                    go_wp2
                                    go_ret
                                    exact ⟨by rw [hend.out]; rfl, by first | exact hbw | (rw [← hr]; exact hbw) | (rw [hr]; exact hbw)⟩)
                          · rw [if_neg (fun h => n0 h.2)] at hL
                            have n0' : ((nt : Int) == 0) = false := by rw [beq_eq_false_iff_ne]; omega
                            by_cases n24 : 24 < nt
                            · rw [if_pos n24] at hL
                              subst hL
                              have hend : Hid (E = 2) := hide (by rw [hE, if_pos (by decide)])
                              have n24' : (24 : Int) < (nt : Int) := by omega
                              clear hE
                              replace n0 := hide n0
                              (
                                      go_wp2
                                      go_ret
                                      exact ⟨by rw [hend.out]; rfl, by first | exact hbw | (rw [← hr]; exact hbw) | (rw [hr]; exact hbw)⟩)
                            · rw [if_neg n24] at hL
                              have n24' : ¬ (24 : Int) < (nt : Int) := by omega
                              have hT := cells_of_at h3W.lo
                              rw [hnt.out] at hT
                              clear hrow2 c2 c10 c11 c12 hrl hbw hE1 hCV hNB hS6 p6 h4W
                              replace hE := hide hE
                              replace hL := hide hL
                              replace n0 := hide n0
                              replace n24 := hide n24
                              have hbr := hb2
                              (
                                      have hrow3 := hrow.later hbr
                                      have c2 := hrow3.get (j := 2) rfl
                                      have c10 := hrow3.get (j := 10) rfl
                                      have c11 := hrow3.get (j := 11) rfl
                                      have c12 := hrow3.get (j := 12) rfl
                                      have hrl := hrow3.lt
                                      have hbw := ext_trans hb hbr)
                              go_wp2_with fail
                              go_loopw [9] (fun i wr => ∃ j : Nat, j ≤ nt ∧ i = .int .i64 j ∧ Hid (orTo (fun j => fitsV d sl b m wk (ts.getD j (0, 0, 0, 0)).1 (ts.getD j (0, 0, 0, 0)).2.1 (ts.getD j (0, 0, 0, 0)).2.2.1 (ts.getD j (0, 0, 0, 0)).2.2.2 != 0) j = false) ∧ Below W0.heap.size W0 wr) (fun i _ => nt - (intOf i).toNat)
                              case atStart => exact ⟨0, Nat.zero_le _, rfl, hide rfl, hb2⟩
                              case round =>
                                clear hrow3 c2 c10 c11 c12 hrl hbw hbr
                                obtain ⟨j, hj, rfl, hor, hbr⟩ := hrel
                                (
                                        have hrow3 := hrow.later hbr
                                        have c2 := hrow3.get (j := 2) rfl
                                        have c10 := hrow3.get (j := 10) rfl
                                        have c11 := hrow3.get (j := 11) rfl
                                        have c12 := hrow3.get (j := 12) rfl
                                        have hrl := hrow3.lt
                                        have hbw := ext_trans hb hbr)
                                by_cases hjn : j < nt
                                · obtain ⟨tb, to_, rfl, htb, hcl⟩ := (hT.below hbr) (by omega)
                                  obtain ⟨⟨a1, a2, a3, a4⟩, hx⟩ : ∃ x, ts.getD j (0, 0, 0, 0) = x := ⟨_, rfl⟩
                                  have hc := hcl j hjn
                                  have t0 : wr.cell? ⟨tb, to_ + j * 4, none⟩ = some (.int .i64 a1) := hc 0 _ (by show (encT (ts.getD j (0, 0, 0, 0)))[0]? = _; rw [hx]; rfl)
                                  have t1 : wr.cell? ⟨tb, to_ + j * 4 + 1, none⟩ = some (.int .i64 a2) := hc 1 _ (by show (encT (ts.getD j (0, 0, 0, 0)))[1]? = _; rw [hx]; rfl)
                                  have t2 : wr.cell? ⟨tb, to_ + j * 4 + 2, none⟩ = some (.int .i64 a3) := hc 2 _ (by show (encT (ts.getD j (0, 0, 0, 0)))[2]? = _; rw [hx]; rfl)
                                  have t3 : wr.cell? ⟨tb, to_ + j * 4 + 3, none⟩ = some (.int .i64 a4) := hc 3 _ (by show (encT (ts.getD j (0, 0, 0, 0)))[3]? = _; rw [hx]; rfl)
                                  have htl : tb < wr.heap.size := Nat.lt_of_lt_of_le htb hbr.size
                                  obtain ⟨g0, g1, g2, g3⟩ := bG.later hbr
                                  have hgl := (bG.later hbr).lt
                                  obtain ⟨F, hF⟩ : ∃ F, fitsV d sl b m wk a1 a2 a3 a4 = F := ⟨_, rfl⟩
                                  have hpj : Hid ((fun j => fitsV d sl b m wk (ts.getD j (0, 0, 0, 0)).1 (ts.getD j (0, 0, 0, 0)).2.1 (ts.getD j (0, 0, 0, 0)).2.2.1 (ts.getD j (0, 0, 0, 0)).2.2.2 != 0) j = (F != 0)) := hide (by show (fitsV d sl b m wk (ts.getD j (0, 0, 0, 0)).1 (ts.getD j (0, 0, 0, 0)).2.1 (ts.getD j (0, 0, 0, 0)).2.2.1 (ts.getD j (0, 0, 0, 0)).2.2.2 != 0) = _; rw [hx, hF])
                                  have k0 : (0 : Int) ≤ (j : Int) := by omega
                                  have k1 : (j : Int) < (nt : Int) := by omega
                                  have hC : Cn9 gb 0 (.int .i64 d) gb 1 (.int .i64 sl) gb 2 (.int .i64 b) gb 3 (.int .i64 m) r 10 (.slice (some ⟨tb, to_, none⟩) nt tc) tb (to_ + j * 4) (.int .i64 a1) tb (to_ + j * 4 + 1) (.int .i64 a2) tb (to_ + j * 4 + 2) (.int .i64 a3) tb (to_ + j * 4 + 3) (.int .i64 a4) wr := ⟨g0, g1, g2, g3, c10, t0, t1, t2, t3⟩
                                  have hff := fun V => r6Fits_walk d sl b m wk a1 a2 a3 a4 V
                                  rw [hF] at hff
                                  have hfc := hide (fun (V : World) (hV : Below wr.heap.size wr V) => (hff V).mono fun e w' ⟨he, hb⟩ => (⟨he, ext_trans hV hb, hC.later (ext_trans hV hb)⟩ : e = Ending.returned (.int .i64 F) ∧ Below wr.heap.size wr w' ∧ Cn9 gb 0 (.int .i64 d) gb 1 (.int .i64 sl) gb 2 (.int .i64 b) gb 3 (.int .i64 m) r 10 (.slice (some ⟨tb, to_, none⟩) nt tc) tb (to_ + j * 4) (.int .i64 a1) tb (to_ + j * 4 + 1) (.int .i64 a2) tb (to_ + j * 4 + 2) (.int .i64 a3) tb (to_ + j * 4 + 3) (.int .i64 a4) w'))
                                  have hbq : Below wr.heap.size wr wr := Below.refl _ _
                                  clear hcl hc hx hF hff
                                  go_upto_region 23 with fail
                                  have hCd := hC.drew
                                  go_region_held3 (fun W' => W'.cell? ⟨gb, 0, none⟩ = some (.int .i64 d) ∧ W'.cell? ⟨gb, 1, none⟩ = some (.int .i64 sl) ∧ W'.cell? ⟨gb, 2, none⟩ = some (.int .i64 b) ∧ W'.cell? ⟨gb, 3, none⟩ = some (.int .i64 m) ∧ W'.cell? ⟨r, 10, none⟩ = some (.slice (some ⟨tb, to_, none⟩) nt tc) ∧ W'.cell? ⟨tb, to_ + j * 4, none⟩ = some (.int .i64 a1) ∧ W'.cell? ⟨tb, to_ + j * 4 + 1, none⟩ = some (.int .i64 a2) ∧ W'.cell? ⟨tb, to_ + j * 4 + 2, none⟩ = some (.int .i64 a3) ∧ W'.cell? ⟨tb, to_ + j * 4 + 3, none⟩ = some (.int .i64 a4)) (first | ((repeat (first | (with_reducible assumption) | (with_reducible refine Cn9.alloc ?_ _) | (with_reducible refine Cn9.drew ?_) | (with_reducible refine Cn9.set ?_ ?_ ?_ ?_ ?_ ?_ ?_ ?_ ?_ ?_ _) | omega)); done)) (first | (go_at_call 38; refine (hfc.out _ (by repeat (first | (with_reducible assumption) | (with_reducible refine ext_alloc ?_ _) | (with_reducible refine ext_drew ?_)))).mono ?_; rintro e w3 ⟨rfl, hb3, hx3⟩))
                                  clear hC hCd hfc hbq hx3 g0 g1 g2 g3 t0 t1 t2 t3 c2 c10 c11 c12 hrl hrow3
                                  by_cases hF0 : F = 0
                                  · subst hF0
                                    have hor2 : Hid (orTo (fun j => fitsV d sl b m wk (ts.getD j (0, 0, 0, 0)).1 (ts.getD j (0, 0, 0, 0)).2.1 (ts.getD j (0, 0, 0, 0)).2.2.1 (ts.getD j (0, 0, 0, 0)).2.2.2 != 0) (j + 1) = false) := hide (by show (orTo _ j || _) = false; exact (congr (congrArg or hor.out) hpj.out).trans rfl)
                                    clear hpj hor
                                    go_wp2
                                    go_roundw
                                    case rel => exact ⟨j + 1, by omega, by go_num, hor2, ext_trans hbr hb3⟩
                                    case measure => simp [intOf]; omega
                                  · have hF1 : (F != 0) = true := by rw [bne_iff_ne]; exact hF0
                                    have hun : unfitB d sl b m wk ts = true := by unfold unfitB; exact orTo_hit (hpj.out.trans hF1) _ (by rw [hnt.out]; exact hjn)
                                    have hL1 := hL.out
                                    rw [if_pos hun] at hL1
                                    have hend : Hid (E = 14) := hide (by rw [hE.out, hL1, if_pos (by decide)])
                                    have hbw := ext_trans hbw hb3
                                    replace hF0 := hide hF0
                                    clear hpj hor hun hL1 hE hL
                                    (
                                            go_wp2
                                            go_ret
                                            exact ⟨by rw [hend.out]; rfl, by first | exact hbw | (rw [← hr]; exact hbw) | (rw [hr]; exact hbw)⟩)
                                · obtain rfl : j = nt := by omega
                                  have hun : ¬ unfitB d sl b m wk ts = true := by unfold unfitB; rw [hnt.out, hor.out]; decide
                                  have hL1 := hL.out
                                  rw [if_neg hun] at hL1
                                  by_cases hnr0 : 0 < nr
                                  · rw [if_pos ⟨by decide, hnr0⟩] at hL1
                                    have hend : Hid (E = 1) := hide (by rw [hE.out, hL1, if_pos (by decide)])
                                    have hnri : (0 : Int) < (nr : Int) := by omega
                                    clear hor hun hL1 hE hL
                                    (
                                            go_wp2
                                            go_ret
                                            exact ⟨by rw [hend.out]; rfl, by first | exact hbw | (rw [← hr]; exact hbw) | (rw [hr]; exact hbw)⟩)
                                  · obtain rfl : nr = 0 := by omega
                                    rw [if_neg (fun h => hnr0 h.2), if_neg (fun h => by cases h.1), if_neg (by decide)] at hL1
                                    have hE := hE.out
                                    have hL0 : L = 0 := hL1
                                    rw [hL0, if_neg (by decide)] at hE
                                    clear hor hun hL1 hL hL0
                                    go_upto_region 41 with fail
                                    (
                                            clear c2
                                            by_cases hln : ln < 0
                                            · have hend : Hid (E = 3) := hide (by rw [hE, if_pos hln])
                                              clear hE
                                              go_wp2
                                              go_ret
                                              exact ⟨by rw [hend.out]; rfl, by first | exact hbw | (rw [← hr]; exact hbw) | (rw [hr]; exact hbw)⟩
                                            · have hend : Hid (E = 0) := hide (by rw [hE, if_neg hln])
                                              clear hE
                                              go_wp2
                                              go_ret
                                              exact ⟨by rw [hend.out]; rfl, by first | exact hbw | (rw [← hr]; exact hbw) | (rw [hr]; exact hbw)⟩)
                        · have k10' : (kd == 10) = false := by rw [beq_eq_false_iff_ne]; exact k10
                          by_cases n0 : 0 < nt
                          · rw [if_pos ⟨k10, n0⟩] at hL
                            have hend : Hid (E = 1) := hide (by rw [hE, hL, if_pos (by decide)])
                            have n0' : (0 : Int) < (nt : Int) := by omega
                            replace k10 := hide k10
                            clear hE hL
                            (
                                    go_wp2
                                    go_ret
                                    exact ⟨by rw [hend.out]; rfl, by first | exact hbw | (rw [← hr]; exact hbw) | (rw [hr]; exact hbw)⟩)
                          · obtain rfl : nt = 0 := by omega
                            have hun : ¬ unfitB d sl b m wk ts = true := by unfold unfitB; rw [hnt.out]; show ¬ (false = true); decide
                            rw [if_neg (fun h => n0 h.2), if_neg (fun h => k10 h.1), if_neg (by decide), if_neg hun] at hL
                            clear hun n0
                            by_cases k11 : kd = 11
                            · subst k11
                              rw [if_neg (fun h => h.1 rfl)] at hL
                              by_cases m0 : nr = 0
                              · rw [if_pos ⟨rfl, m0⟩] at hL
                                have hend : Hid (E = 16) := hide (by rw [hE, hL, if_pos (by decide)])
                                subst m0
                                replace k10 := hide k10
                                clear hE hL
                                (
                                        go_wp2
                                        go_ret
                                        exact ⟨by rw [hend.out]; rfl, by first | exact hbw | (rw [← hr]; exact hbw) | (rw [hr]; exact hbw)⟩)
                              · rw [if_neg (fun h => m0 h.2)] at hL
                                have m0' : ((nr : Int) == 0) = false := by rw [beq_eq_false_iff_ne]; omega
                                by_cases m16 : 16 < nr
                                · rw [if_pos m16] at hL
                                  have hend : Hid (E = 2) := hide (by rw [hE, hL, if_pos (by decide)])
                                  have m16' : (16 : Int) < (nr : Int) := by omega
                                  replace k10 := hide k10
                                  replace m0 := hide m0
                                  clear hE hL
                                  (
                                          go_wp2
                                          go_ret
                                          exact ⟨by rw [hend.out]; rfl, by first | exact hbw | (rw [← hr]; exact hbw) | (rw [hr]; exact hbw)⟩)
                                · rw [if_neg m16] at hL
                                  have m16' : ¬ (16 : Int) < (nr : Int) := by omega
                                  clear hrow2 c2 c10 c11 c12 hrl hbw hE1 hCV hNB hS6 p6 h3W
                                  replace hE := hide hE
                                  replace hL := hide hL
                                  replace k10 := hide k10
                                  replace m0 := hide m0
                                  replace m16 := hide m16
                                  have hbr := hb2
                                  (
                                          have hrow3 := hrow.later hbr
                                          have c2 := hrow3.get (j := 2) rfl
                                          have c10 := hrow3.get (j := 10) rfl
                                          have c11 := hrow3.get (j := 11) rfl
                                          have c12 := hrow3.get (j := 12) rfl
                                          have hrl := hrow3.lt
                                          have hbw := ext_trans hb hbr)
                                  go_wp2_with fail
                                  go_loopw [10] (fun i wr => ∃ j : Nat, j ≤ nr ∧ i = .int .i64 j ∧ Hid (roomsTo xs j = 0) ∧ Below W0.heap.size W0 wr) (fun i _ => nr - (intOf i).toNat)
                                  case atStart => exact ⟨0, Nat.zero_le _, rfl, hide rfl, hb2⟩
                                  case round =>
                                    clear hrow3 c2 c10 c11 c12 hrl hbw hbr
                                    obtain ⟨j, hj, rfl, hrt, hbr⟩ := hrel
                                    (
                                            have hrow3 := hrow.later hbr
                                            have c2 := hrow3.get (j := 2) rfl
                                            have c10 := hrow3.get (j := 10) rfl
                                            have c11 := hrow3.get (j := 11) rfl
                                            have c12 := hrow3.get (j := 12) rfl
                                            have hrl := hrow3.lt
                                            have hbw := ext_trans hb hbr)
                                    by_cases hjn : j < nr
                                    · obtain ⟨z, hz⟩ : ∃ z, xs[j]? = some z := ⟨_, List.getElem?_eq_getElem (by rw [hnr.out]; exact hjn)⟩
                                      have h4r := h4W.later hbr
                                      obtain ⟨rb, ro, vs, rfl, -, hpl, hvs, hcl⟩ := h4r.get hz
                                      obtain rfl := rep_str.1 hvs
                                      have hcz : wr.cell? ⟨rb, ro + j, none⟩ = some (.string z) := by
                                        have := hcl 0 _ rfl
                                        rwa [show ro + j * kStr.k + 0 = ro + j from by simp [kStr]] at this
                                      have k0 : (0 : Int) ≤ (j : Int) := by omega
                                      have k1 : (j : Int) < (nr : Int) := by omega
                                      have k2 : (j : Int) ≤ (rc : Int) := by omega
                                      have hst := roomsTo_step hrt.out hz
                                      have hjx : j < xs.length := by rw [hnr.out]; exact hjn
                                      have hcv := r3valid_walk z
                                      cases hcb : codeB z with
                                      | false =>
                                        rw [hcb] at hcv
                                        rw [if_pos hcb] at hst
                                        have h10 := roomsTo_hit hrt.out hst (by decide) hjx
                                        rw [hnr.out] at h10
                                        have hend : Hid (E = 10) := hide (by rw [hE.out, hL.out, h10, if_pos (by decide)])
                                        clear hst h10 hE hL hrt hz hcl hvs h4r
                                        go_wp2_with (go_at_call 36; refine (hcv _).mono ?_; rintro e w' ⟨rfl, rfl⟩)
                                        go_ret
                                        exact ⟨by rw [hend.out]; rfl, by first | exact hbw | (rw [← hr]; exact hbw) | (rw [hr]; exact hbw)⟩
                                      | true =>
                                        rw [hcb] at hcv
                                        rw [if_neg (by rw [hcb]; decide)] at hst
                                        have hl2 : (xs.take j).length = j := by rw [List.length_take, hnr.out]; omega
                                        have hhas := hide (fun n : Nat => r2has_walk (some ⟨rb, ro, none⟩) (xs.take j) rc z (wr.drewN n) (by rw [hl2]; omega) (at_take (h4r.later (ext_drewN (Below.refl _ _) n)) j))
                                        rw [hl2] at hhas
                                        obtain ⟨H, hH⟩ : ∃ H, decide (0 ≤ idxS z (xs.take j)) = H := ⟨_, rfl⟩
                                        rw [hH] at hhas
                                        clear hz hcl hvs h4r hcb
                                        go_upto_region 37 with (go_at_call 36; refine (hcv _).mono ?_; rintro e w' ⟨rfl, rfl⟩)
                                        go_quiet ((go_at_call 39; exact Calls.quiet_of_same ((hhas.out _).mono fun e w' hh => ⟨hh.1, hh.2.symm⟩)))
                                        have hbd : Below W0.heap.size W0 (wr.drewN nq) := ext_drewN hbr nq
                                        have hbw := ext_trans hb hbd
                                        clear hhas hcv c2 c10 c11 c12 hrl hrow3 hcz hpl
                                        generalize wr.drewN nq = wx at *
                                        cases H with
                                        | false =>
                                          have hrt2 : Hid (roomsTo xs (j + 1) = 0) := hide (by rw [hst, if_neg (of_decide_eq_false hH)])
                                          clear hst hH hrt
                                          go_wp2
                                          go_roundw
                                          case rel => exact ⟨j + 1, by omega, by go_num, hrt2, hbd⟩
                                          case measure => simp [intOf]; omega
                                        | true =>
                                          rw [if_pos (of_decide_eq_true hH)] at hst
                                          have h11 := roomsTo_hit hrt.out hst (by decide) hjx
                                          rw [hnr.out] at h11
                                          have hend : Hid (E = 11) := hide (by rw [hE.out, hL.out, h11, if_pos (by decide)])
                                          clear hst h11 hE hL hrt hH
                                          (
                                                  go_wp2
                                                  go_ret
                                                  exact ⟨by rw [hend.out]; rfl, by first | exact hbw | (rw [← hr]; exact hbw) | (rw [hr]; exact hbw)⟩)
                                    · obtain rfl : j = nr := by omega
                                      have hE := hE.out
                                      rw [hL.out, hrt.out, if_neg (by decide)] at hE
                                      clear hrt hL
                                      (
                                              clear c2
                                              by_cases hln : ln < 0
                                              · have hend : Hid (E = 3) := hide (by rw [hE, if_pos hln])
                                                clear hE
                                                go_wp2
                                                go_ret
                                                exact ⟨by rw [hend.out]; rfl, by first | exact hbw | (rw [← hr]; exact hbw) | (rw [hr]; exact hbw)⟩
                                              · have hend : Hid (E = 0) := hide (by rw [hE, if_neg hln])
                                                clear hE
                                                go_wp2
                                                go_ret
                                                exact ⟨by rw [hend.out]; rfl, by first | exact hbw | (rw [← hr]; exact hbw) | (rw [hr]; exact hbw)⟩)
                            · have k11' : (kd == 11) = false := by rw [beq_eq_false_iff_ne]; exact k11
                              by_cases m0 : 0 < nr
                              · rw [if_pos ⟨k11, m0⟩] at hL
                                have hend : Hid (E = 1) := hide (by rw [hE, hL, if_pos (by decide)])
                                have m0' : (0 : Int) < (nr : Int) := by omega
                                replace k10 := hide k10
                                replace k11 := hide k11
                                clear hE hL
                                (
                                        go_wp2
                                        go_ret
                                        exact ⟨by rw [hend.out]; rfl, by first | exact hbw | (rw [← hr]; exact hbw) | (rw [hr]; exact hbw)⟩)
                              · obtain rfl : nr = 0 := by omega
                                rw [if_neg (fun h => m0 h.2), if_neg (fun h => k11 h.1), if_neg (by decide)] at hL
                                have hL0 : L = 0 := hL
                                rw [hL0, if_neg (by decide)] at hE
                                have hbr := hb2
                                replace k10 := hide k10
                                replace k11 := hide k11
                                clear hL hL0 m0 hrow2
                                go_upto_region 41 with fail
                                (
                                        clear c2
                                        by_cases hln : ln < 0
                                        · have hend : Hid (E = 3) := hide (by rw [hE, if_pos hln])
                                          clear hE
                                          go_wp2
                                          go_ret
                                          exact ⟨by rw [hend.out]; rfl, by first | exact hbw | (rw [← hr]; exact hbw) | (rw [hr]; exact hbw)⟩
                                        · have hend : Hid (E = 0) := hide (by rw [hE, if_neg hln])
                                          clear hE
                                          go_wp2
                                          go_ret
                                          exact ⟨by rw [hend.out]; rfl, by first | exact hbw | (rw [← hr]; exact hbw) | (rw [hr]; exact hbw)⟩)
end Go.Proofs.YtdnnahdafhddlaaGreatDoor

namespace Go.Proofs.YtdnnahdafhddlaaGreatDoor
open Go.RowKit
set_option maxRecDepth 100000

theorem r6Parse_at {d sl b m n : Int} {z : ByteArray} {x1 x2 x3 x4 er : Int} (hT : pieceT d sl b m n z = (x1, x2, x3, x4, er)) (hs : z.size < 1073741824) (w : World) (hS : Std w) (hW : Wds w) (hD : Dys w) :
    Calls Tryz.prog 102 #[.agg #[.int .i64 d, .int .i64 sl, .int .i64 b, .int .i64 m], .int .i64 n, .string z] w fun e w' => e = .returned (.tuple #[.agg #[.int .i64 x1, .int .i64 x2, .int .i64 x3, .int .i64 x4], .int .i64 er]) ∧ Below w.heap.size w w' := by
  have := r6Parse_walk d sl b m n z hs w hS hW hD
  unfold pieceT at hT
  rw [hT] at this
  exact this
/-- What the region of Times loads, and what the program's variables hold. -/
structure TSt (gb bs j : Nat) (d sl b m : Int) (z : ByteArray) (W : World) : Prop where
  g0 : W.cell? ⟨gb, 0, none⟩ = some (.int .i64 d)
  g1 : W.cell? ⟨gb, 1, none⟩ = some (.int .i64 sl)
  g2 : W.cell? ⟨gb, 2, none⟩ = some (.int .i64 b)
  g3 : W.cell? ⟨gb, 3, none⟩ = some (.int .i64 m)
  s : W.cell? ⟨bs, j, none⟩ = some (.string z)
  std : Std W
  wds : Wds W
  dys : Dys W
abbrev TS (gb bs j : Nat) (d sl b m : Int) (z : ByteArray) (W : World) : Prop := W.cell? ⟨gb, 0, none⟩ = some (.int .i64 d) ∧ W.cell? ⟨gb, 1, none⟩ = some (.int .i64 sl) ∧ W.cell? ⟨gb, 2, none⟩ = some (.int .i64 b) ∧ W.cell? ⟨gb, 3, none⟩ = some (.int .i64 m) ∧ W.cell? ⟨bs, j, none⟩ = some (.string z)
section
variable {gb bs j : Nat} {d sl b m : Int} {z : ByteArray} {W W' : World}
theorem TSt.cells (h : TSt gb bs j d sl b m z W) : TS gb bs j d sl b m z W := ⟨h.g0, h.g1, h.g2, h.g3, h.s⟩
theorem TSt.later (h : TSt gb bs j d sl b m z W) (hb : Below W.heap.size W W') : TSt gb bs j d sl b m z W' :=
  ⟨cell_later hb h.g0, cell_later hb h.g1, cell_later hb h.g2, cell_later hb h.g3, cell_later hb h.s, h.std.after hb, h.wds.after hb h.std, h.dys.after hb h.std⟩
theorem TS.alloc (h : TS gb bs j d sl b m z W) (o : Obj) : TS gb bs j d sl b m z (W.alloc o) := ⟨cell_alloc_of h.1 o, cell_alloc_of h.2.1 o, cell_alloc_of h.2.2.1 o, cell_alloc_of h.2.2.2.1 o, cell_alloc_of h.2.2.2.2 o⟩
theorem TS.drew (h : TS gb bs j d sl b m z W) : TS gb bs j d sl b m z W.drew := h
theorem TS.set {c i : Nat} (h : TS gb bs j d sl b m z W) (h1 : gb ≠ c) (h2 : bs ≠ c) (u : Value) : TS gb bs j d sl b m z (W.setCell ⟨c, i, none⟩ u) := by
  have ho : ∀ (x y : Nat), x ≠ c → (W.setCell ⟨c, i, none⟩ u).cell? ⟨x, y, none⟩ = W.cell? ⟨x, y, none⟩ := fun x y hx => World.cell?_setCell_other _ _ _ _ (fun e => hx (by injection e with e1; exact e1.symm))
  exact ⟨(ho _ _ h1).trans h.1, (ho _ _ h1).trans h.2.1, (ho _ _ h1).trans h.2.2.1, (ho _ _ h1).trans h.2.2.2.1, (ho _ _ h2).trans h.2.2.2.2⟩
end
theorem piece_cut {gb bs j : Nat} {d sl b m n : Int} {z : ByteArray} {W : World} {x1 x2 x3 x4 er : Int} (hT : pieceT d sl b m n z = (x1, x2, x3, x4, er)) (hs : z.size < 1073741824) (h : TSt gb bs j d sl b m z W) :
    Calls Tryz.prog 102 #[.agg #[.int .i64 d, .int .i64 sl, .int .i64 b, .int .i64 m], .int .i64 n, .string z] W fun e w' => e = .returned (.tuple #[.agg #[.int .i64 x1, .int .i64 x2, .int .i64 x3, .int .i64 x4], .int .i64 er]) ∧ Below W.heap.size W w' ∧ TS gb bs j d sl b m z w' ∧ TSt gb bs j d sl b m z w' ∧ W.heap.size ≤ w'.heap.size :=
  (r6Parse_at hT hs W h.std h.wds h.dys).mono fun _ _ ⟨he, hb⟩ => ⟨he, hb, (h.later hb).cells, h.later hb, hb.size⟩
theorem firstE_take {f : ByteArray → Int} {zs : List ByteArray} {j : Nat} (h : firstE f (zs.take j) ≠ 0) : firstE f zs = firstE f (zs.take j) := by
  have e : ∀ (l r : List ByteArray), firstE f l ≠ 0 → firstE f (l ++ r) = firstE f l := by
    intro l
    induction l with
    | nil => intro r h; exact absurd rfl h
    | cons x l ih =>
      intro r h
      simp only [List.cons_append, firstE] at h ⊢
      by_cases hx : f x = 0
      · simp only [hx, if_true] at h ⊢; exact ih r h
      · simp only [hx, if_false]
  have := e (zs.take j) (zs.drop j) h
  rw [List.take_append_drop] at this
  exact this
end Go.Proofs.YtdnnahdafhddlaaGreatDoor
