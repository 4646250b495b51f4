/- Walk of the reference's reading of rules. Conditions: what the program's variables hold. The check at the head of law 14; agree; the statement RulesyntaxParses: their walks. Conditions: what the program's variables hold; the text's size is a number of the machine. -/
import Derived.Test.YtdnnahdafhddlaaGreatDoorYRrN
namespace Go.Proofs.YtdnnahdafhddlaaGreatDoor
open Go.RowKit
set_option maxRecDepth 100000

/-- What line says, in one form: a problem; nothing; a rule. -/
def LineC (d sl b m wk : Int) (s : ByteArray) (B : Nat) (w' : World) (x : List Value) (n : ByteArray) (c k : Int) : Prop :=
  (k ≠ 0 ∧ ∃ c' : Nat, c = (c' : Int) ∧ ∀ st, stepS d sl b m wk st s = (st.1, st.2.1 ++ [(st.2.2 + 1, c', k)], st.2.2 + 1)) ∨
  (k = 0 ∧ c = 0 ∧ n.size = 0 ∧ ∀ st, stepS d sl b m wk st s = (st.1, st.2.1, st.2.2 + 1)) ∨
  (k = 0 ∧ c = 0 ∧ n.size ≠ 0 ∧ ∃ r : RuleD, r.name = n ∧ kRule.rep (fun b => B ≤ b) w' r x ∧ ∀ st, stepS d sl b m wk st s = if hasN n st.1 = true then (st.1, st.2.1 ++ [(st.2.2 + 1, 0, 11)], st.2.2 + 1) else if 48 ≤ st.1.length then (st.1, st.2.1 ++ [(st.2.2 + 1, 0, 2)], st.2.2 + 1) else (st.1 ++ [putL r (st.2.2 + 1)], st.2.1, st.2.2 + 1))
theorem line_form {d sl b m wk : Int} {s : ByteArray} {w w' : World} {en : Ending} (h : LineG d sl b m wk s w en w') :
    Below w.heap.size w w' ∧ ∃ (n f1 s1 : ByteArray) (wt kd f0 s0 nn ln : Int) (fA sA tA rA : Option Addr) (fl fc sl' sc tl tc rl rc : Nat) (c k : Int), en = .returned (.tuple #[.agg #[.string n, .int .i64 wt, .int .i64 kd, .int .i64 f0, .string f1, .slice fA fl fc, .int .i64 s0, .string s1, .slice sA sl' sc, .int .i64 nn, .slice tA tl tc, .slice rA rl rc, .int .i64 ln], prV c k]) ∧
      LineC d sl b m wk s w.heap.size w' [.string n, .int .i64 wt, .int .i64 kd, .int .i64 f0, .string f1, .slice fA fl fc, .int .i64 s0, .string s1, .slice sA sl' sc, .int .i64 nn, .slice tA tl tc, .slice rA rl rc, .int .i64 ln] n c k := by
  obtain ⟨hb, hm⟩ := h
  refine ⟨hb, ?_⟩
  cases hl : lineP gramT s with
  | none =>
    rw [hl] at hm
    exact ⟨⟨#[]⟩, ⟨#[]⟩, ⟨#[]⟩, 0, 0, 0, 0, 0, 0, none, none, none, none, 0, 0, 0, 0, 0, 0, 0, 0, 0, 0, hm, .inr (.inl ⟨rfl, rfl, rfl, step_none hl⟩)⟩
  | some q =>
    cases q with
    | error y =>
      rw [hl] at hm
      obtain ⟨hy, v, ⟨n, f1, s1, wt, k, f0, s0, m', ln, fA, sA, tA, rA, fl, fc, sl', sc, tl, tc, rl, rc, rfl⟩, rfl⟩ := hm
      exact ⟨n, f1, s1, wt, k, f0, s0, m', ln, fA, sA, tA, rA, fl, fc, sl', sc, tl, tc, rl, rc, _, _, rfl, .inl ⟨hy, y.1 + 1, by omega, step_bad hl⟩⟩
    | ok u =>
      rw [hl] at hm
      dsimp only at hm
      cases hf : finR d sl b m wk 0 u with
      | error c =>
        rw [hf] at hm
        obtain ⟨hy, v, ⟨n, f1, s1, wt, k, f0, s0, m', ln, fA, sA, tA, rA, fl, fc, sl', sc, tl, tc, rl, rc, rfl⟩, rfl⟩ := hm
        exact ⟨n, f1, s1, wt, k, f0, s0, m', ln, fA, sA, tA, rA, fl, fc, sl', sc, tl, tc, rl, rc, _, _, rfl, .inl ⟨hy, 0, rfl, step_fin hl hf⟩⟩
      | ok r =>
        rw [hf] at hm
        obtain ⟨x0, x1, x2, x3, x4, x5, x6, x7, x8, x9, x10, x11, x12, rfl, hrep⟩ := hm
        obtain ⟨f0, f1, fA, fl, fc, s0, s1, sA, sl', sc, tA, tc, rA, rc, he, h1⟩ := id hrep
        simp only [List.cons.injEq, and_true] at he
        obtain ⟨rfl, rfl, rfl, rfl, rfl, rfl, rfl, rfl, rfl, rfl, rfl, rfl, rfl⟩ := he
        exact ⟨_, _, _, _, _, _, _, _, _, _, _, _, _, _, _, _, _, _, _, _, _, _, _, rfl, .inr (.inr ⟨rfl, rfl, (rule_sound (fin_ok hf).1).1, r, rfl, hrep, step_rule hl hf⟩)⟩
set_option maxHeartbeats 2000000 in
theorem rparse_noweek (d sl b m wk : Int) (s : ByteArray) (h : weekB d sl b m wk = false) (w : World) :
    Calls Tryz.prog 22 #[.string s, .agg #[.int .i64 d, .int .i64 sl, .int .i64 b, .int .i64 m], .int .i64 wk] w fun en w' => ParsG (rulesT d sl b m wk s) w en w' := by
  have hr : rulesT d sl b m wk s = ([], [(0, 0, 1)]) := by unfold rulesT; rw [if_pos h]
  rw [hr]
  have hwk := r6Usable_walk d sl b m wk (w.alloc (.cells #[.int .i64 d, .int .i64 sl, .int .i64 b, .int .i64 m] 23))
  rw [h] at hwk
  have hb0 : Below w.heap.size w (w.alloc (.cells #[.int .i64 d, .int .i64 sl, .int .i64 b, .int .i64 m] 23)) := (by repeat (first | exact Below.refl _ _ | refine ext_alloc ?_ _ | refine ext_drewN ?_ _ | refine ext_drew ?_ | refine ext_trans ?_ (by assumption)))
  go_enter Tryz.func22, Tryz.ntmps22
  go_wp2_with fail
  refine hwk.mono ?_
  rintro e w1 ⟨rfl, hb1⟩
  have hb := ext_trans hb0 hb1
  clear hwk hb0 hb1
  go_wp2
  go_ret2
  exact ⟨_, _, rfl, OwnX.nil, probs_laid (0, 0, 1) hb.size, ext_alloc hb _⟩
set_option maxHeartbeats 2000000 in
theorem rparse_long (d sl b m wk : Int) (s : ByteArray) (h : weekB d sl b m wk = true) (hs : 65536 < s.size) (hs2 : s.size ≤ 9223372036854775807) (w : World) :
    Calls Tryz.prog 22 #[.string s, .agg #[.int .i64 d, .int .i64 sl, .int .i64 b, .int .i64 m], .int .i64 wk] w fun en w' => ParsG (rulesT d sl b m wk s) w en w' := by
  have hr : rulesT d sl b m wk s = ([], [(0, 0, 2)]) := by unfold rulesT; rw [if_neg (by rw [h]; decide), if_pos hs]
  rw [hr]
  have hwk := r6Usable_walk d sl b m wk (w.alloc (.cells #[.int .i64 d, .int .i64 sl, .int .i64 b, .int .i64 m] 23))
  rw [h] at hwk
  have hb0 : Below w.heap.size w (w.alloc (.cells #[.int .i64 d, .int .i64 sl, .int .i64 b, .int .i64 m] 23)) := (by repeat (first | exact Below.refl _ _ | refine ext_alloc ?_ _ | refine ext_drewN ?_ _ | refine ext_drew ?_ | refine ext_trans ?_ (by assumption)))
  have hsi : (65536 : Int) < (s.size : Int) := by omega
  go_enter Tryz.func22, Tryz.ntmps22
  go_wp2_with fail
  refine hwk.mono ?_
  rintro e w1 ⟨rfl, hb1⟩
  have hb := ext_trans hb0 hb1
  clear hwk hb0 hb1
  go_wp2
  go_ret2
  exact ⟨_, _, rfl, OwnX.nil, probs_laid (0, 0, 2) hb.size, ext_alloc hb _⟩
def RPar (d sl b m wk : Int) (lines : List ByteArray) (S : Nat) (w : World) (v0 v8 v9 i : Value) (wr : World) : Prop :=
  ∃ (j : Nat) (r : ByteArray), v0 = .string r ∧ RestAt lines r j ∧ r.size ≤ S ∧ i = .int .i64 ((j : Int) + 1) ∧ GathR w.heap.size wr v8 v9 (rulesS d sl b m wk (lines.take j)).1 ((rulesS d sl b m wk (lines.take j)).2.1.map probT) ∧ Below w.heap.size w wr
set_option maxHeartbeats 16000000 in
theorem rparse_lines (d sl b m wk : Int) (s : ByteArray) (h : weekB d sl b m wk = true) (hs : s.size ≤ 65536) (w : World) (hStd : Std w) (hWd : Wds w) (hDy : Dys w) (hL : Lvs w) (hM : Nms w) :
    Calls Tryz.prog 22 #[.string s, .agg #[.int .i64 d, .int .i64 sl, .int .i64 b, .int .i64 m], .int .i64 wk] w fun en w' => ParsG (rulesT d sl b m wk s) w en w' := by
  obtain ⟨lines, hl⟩ : ∃ lines, Lib.splitB ⟨#[10]⟩ 0 (Lib.countB s ⟨#[10]⟩) s = lines := ⟨_, rfl⟩
  have hr : rulesT d sl b m wk s = ((rulesS d sl b m wk lines).1, (rulesS d sl b m wk lines).2.1.map probT) := by unfold rulesT; rw [if_neg (by rw [h]; decide), if_neg (by omega), hl]
  rw [hr]
  have hwk := r6Usable_walk d sl b m wk (w.alloc (.cells #[.int .i64 d, .int .i64 sl, .int .i64 b, .int .i64 m] 23))
  rw [h] at hwk
  have hb0 : Below w.heap.size w (w.alloc (.cells #[.int .i64 d, .int .i64 sl, .int .i64 b, .int .i64 m] 23)) := (by repeat (first | exact Below.refl _ _ | refine ext_alloc ?_ _ | refine ext_drewN ?_ _ | refine ext_drew ?_ | refine ext_trans ?_ (by assumption)))
  have bG0 := Box4.new w 23 (.int .i64 d) (.int .i64 sl) (.int .i64 b) (.int .i64 m)
  have hsi : ¬ (65536 : Int) < (s.size : Int) := by omega
  have hlm : ∀ z ∈ lines, z.size ≤ 65536 := fun z hz => Nat.le_trans (splitB_mem hl hz) hs
  have hrf := rest_first s
  rw [hl] at hrf
  have hll : lines.length ≤ 65537 := by
    have h1 : lines.length = (splitOn1 10 s.data.toList).length := by rw [← hl, ← splitB_one, List.length_map]
    have h2 := splitOn1_len 10 s.data.toList
    rw [ba_len] at h2
    omega
  obtain ⟨gb, hgb⟩ : ∃ gb, w.heap.size = gb := ⟨_, rfl⟩
  rw [hgb] at bG0
  replace hl := hide hl
  replace hlm := hide hlm
  clear hr
  go_enter Tryz.func22, Tryz.ntmps22
  go_wp2_with fail
  refine hwk.mono ?_
  rintro e w1 ⟨rfl, hb1⟩
  have hb := ext_trans hb0 hb1
  have bG := bG0.later hb1
  have hS1 := hStd.after hb
  have hWd1 := hWd.after hb hStd
  have hDy1 := hDy.after hb hStd
  have hL1 := hL.go hb
  have hM1 := hM.after hb
  have hgw : gb < w1.heap.size := by have := hb.size; have := bG.lt; omega
  obtain ⟨N, hN⟩ : ∃ N, lines.length = N := ⟨_, rfl⟩
  have hst0 : RPar d sl b m wk lines s.size w1 (.string s) (.slice none 0 0) (.slice none 0 0) (.int .i64 1) w1 := ⟨0, s, rfl, hrf, Nat.le_refl _, rfl, GathR.nil, Below.refl _ _⟩
  have hgb2 := hide hgb
  clear hwk hb0 hb1 bG0 hStd hWd hDy hL hM hgb
  replace hst0 := hide hst0
  replace hN := hide hN
  replace hrf := hide hrf
  go_wp2_with fail
  go_loopw [0, 8, 9, 10] (fun v0 v8 v9 i wr => RPar d sl b m wk lines s.size w1 v0 v8 v9 i wr) (fun _ _ _ i _ => N + 1 - (intOf i).toNat)
  case atStart => exact hst0.out
  case round =>
    obtain ⟨j, r, rfl, hrest, hrs, rfl, hG, hbr⟩ := hrel
    have hjN := rest_le hrest
    obtain ⟨hct, hc48, hcp⟩ := rules_count gramT (finR d sl b m wk 0) RuleD.name putL 48 lines j hjN
    rw [hN.out] at hjN
    obtain ⟨st, hst⟩ : ∃ st, rulesS d sl b m wk (lines.take j) = st := ⟨_, rfl⟩
    have hct : st.2.2 = j := by rw [← hst]; exact hct
    have hc48 : st.1.length ≤ 48 := by rw [← hst]; exact hc48
    have hcp : st.2.1.length ≤ j := by rw [← hst]; exact hcp
    have hE0 := str_empty r
    have hE : r.toList.isEmpty = decide (r.size = 0) := by rw [← hE0]; cases r.toList <;> rfl
    have hNl : N ≤ 65537 := by rw [← hN.out]; exact hll
    by_cases h0 : r.size = 0
    · obtain ⟨q1, q2⟩ := rest_end gramT (finR d sl b m wk 0) RuleD.name putL 48 hrest h0
      rw [decide_eq_true h0] at hE0 hE
      have hfin : Hid (ParsG ((rulesS d sl b m wk lines).1, (rulesS d sl b m wk lines).2.1.map probT) w (.returned (.tuple #[u8, u9])) wr) := hide ⟨u8, u9, rfl, by rw [show (rulesS d sl b m wk lines).1 = _ from q1]; exact hG.rs.lower hb.size, by rw [show (rulesS d sl b m wk lines).2.1 = _ from q2]; exact owns_lower hG.ps hb.size, ext_trans hb hbr⟩
      replace h0 := hide h0
      clear hG hbr hb bG hS1 hWd1 hDy1 hL1 hM1 hst0 hrest q1 q2 hst
      go_wp2
      go_ret2
      exact hfin.out
    · rw [decide_eq_false h0] at hE0 hE
      obtain ⟨z, hz, hcut0, hrest2⟩ := rest_cut hrest h0
      have hjn : j < N := by rw [← hN.out]; exact (List.getElem?_eq_some_iff.1 hz).1
      have hcut := r5Cut_walk r 10 10 rfl _ _ _ (by omega) hcut0 wr
      rw [show (⟨z.data.toList.toArray⟩ : ByteArray) = z from rfl] at hcut
      have hrz := rest_size (r := r) (passT (fun x => x != 10) r 0 + 1)
      obtain ⟨r2, hr2⟩ : ∃ r2 : ByteArray, (⟨(r.data.toList.drop (passT (fun x => x != 10) r 0 + 1)).toArray⟩ : ByteArray) = r2 := ⟨_, rfl⟩
      rw [hr2] at hcut hrest2 hrz
      obtain ⟨yf, hyf⟩ : ∃ yf, decide (passT (fun x => x != 10) r 0 < r.size) = yf := ⟨_, rfl⟩
      rw [hyf] at hcut
      have hzs := hlm.out z (List.mem_of_getElem? hz)
      have hstep : rulesS d sl b m wk (lines.take (j + 1)) = stepS d sl b m wk st z := by rw [← hst]; exact rules_step gramT (finR d sl b m wk 0) RuleD.name putL 48 hz
      rw [hst] at hG
      replace h0 := hide h0
      clear hcut0 hr2 hyf hrest hst hz
      go_wp2_with fail
      refine hcut.mono ?_
      rintro en w2 ⟨rfl, hb2⟩
      have hb12 := ext_trans hbr hb2
      obtain ⟨g0, g1, g2, g3⟩ := bG.later hb12
      have hgl : gb < w2.heap.size := by have := hb12.size; omega
      have hln := rline_walk d sl b m wk z hzs w2 (hS1.after hb12) (hWd1.after hb12 hS1) (hDy1.after hb12 hS1) (hL1.go hb12) (hM1.after hb12)
      have hG2 := hG.later hb2
      clear hcut
      go_wp2_with fail
      refine hln.mono ?_
      rintro en w3 hg
      obtain ⟨hb3, n, f1, s1, wt, kd, f0, s0, nn, ln, fA, sA, tA, rA, fl, fc, sl', sc, tl, tc, rl, rc, c, k, rfl, hC⟩ := line_form hg
      clear hln hg g0 g1 g2 g3
      have hG3 := hG2.later hb3
      obtain ⟨ub, hub⟩ : ∃ ub, w3.heap.size = ub := ⟨_, rfl⟩
      obtain ⟨U, hU⟩ : ∃ U, (w3.alloc (.cells #[.string n, .int .i64 wt, .int .i64 kd, .int .i64 f0, .string f1, .slice fA fl fc, .int .i64 s0, .string s1, .slice sA sl' sc, .int .i64 nn, .slice tA tl tc, .slice rA rl rc, .int .i64 ln] 43)).alloc (.cells #[.int .i64 0, .int .i64 0, .int .i64 c, .int .i64 k] 55) = U := ⟨_, rfl⟩
      have z3 : Below w3.heap.size w3 U := by rw [← hU]; exact (by repeat (first | exact Below.refl _ _ | refine ext_alloc ?_ _ | refine ext_drewN ?_ _ | refine ext_drew ?_ | refine ext_trans ?_ (by assumption)))
      have z1 : RowV 43 U ub [.string n, .int .i64 wt, .int .i64 kd, .int .i64 f0, .string f1, .slice fA fl fc, .int .i64 s0, .string s1, .slice sA sl' sc, .int .i64 nn, .slice tA tl tc, .slice rA rl rc, .int .i64 ln] := ⟨_, by rw [← hU, ← hub]; exact (Below.heap_alloc _ _ _ (by simp only [World.size_alloc]; omega)).trans (heap_alloc_new _ _), rfl⟩
      have z2 : RowV 55 U (ub + 1) [.int .i64 0, .int .i64 0, .int .i64 c, .int .i64 k] := ⟨_, by
        rw [← hU, ← hub]
        have := heap_alloc_new (w3.alloc (.cells #[.string n, .int .i64 wt, .int .i64 kd, .int .i64 f0, .string f1, .slice fA fl fc, .int .i64 s0, .string s1, .slice sA sl' sc, .int .i64 nn, .slice tA tl tc, .slice rA rl rc, .int .i64 ln] 43)) (.cells #[.int .i64 0, .int .i64 0, .int .i64 c, .int .i64 k] 55)
        rw [World.size_alloc] at this
        exact this, rfl⟩
      have hUs : U.heap.size = ub + 2 := by rw [← hU, ← hub]; simp only [World.size_alloc]
      have hbx := ext_trans (ext_trans hb2 hb3) z3
      have hGU := hide (hG3.later z3)
      have hbU := hide (ext_trans (ext_trans hb12 hb3) z3)
      have hBU : w1.heap.size ≤ U.heap.size := hbU.out.size
      have hwu : wr.heap.size ≤ ub := by have := (ext_trans hb2 hb3).size; omega
      have hlow8 := hide hG2.low8
      have hlow9 := hide hG2.low9
      have p0 := z2.get (j := 0) rfl
      have p1 := z2.get (j := 1) rfl
      have p2 := z2.get (j := 2) rfl
      have p3 := z2.get (j := 3) rfl
      have pf1 := z2.free 1
      have pf3 := z2.free 3
      have hn0 := z1.get (j := 0) rfl
      have hul := z1.lt
      have hpl := z2.lt
      have hpl2 : (st.2.1.map probT).length ≤ 2000000000 := by rw [List.length_map]; omega
      have hwz := hbr.size
      have e1 : IntKind.i64.wrap ((j : Int) + 1 + 1) = (((j + 1 : Nat)) : Int) + 1 := (IntWalk.i64_in _ (by omega)).trans (by omega)
      replace hU := hide hU
      replace hub := hide hub
      have hz2 := hide z2
      clear hG2 hG3
      go_upto_region 13 with fail
      rw [hub.out, hU.out]
      rcases hC with ⟨hk, c', rfl, hC⟩ | ⟨rfl, rfl, hn, hC⟩ | ⟨rfl, rfl, hn, rr, hrn, hrep, hC⟩
      · have hsb := hC st
        rw [← hstep, hct] at hsb
        have hk1 : (k != 0) = true := by rw [bne_iff_ne]; exact hk
        have hk2 : (k == 0) = false := by rw [beq_eq_false_iff_ne]; exact hk
        have hpt : probT (j + 1, c', k) = ((j : Int) + 1, (c' : Int), k) := by unfold probT; simp
        obtain ⟨U1, hU1⟩ : ∃ U1, U.setCell ⟨ub + 1, 1, none⟩ (.int .i64 ((j : Int) + 1)) = U1 := ⟨_, rfl⟩
        have hb1 : Below wr.heap.size wr U1 := by rw [← hU1]; exact ext_set hbx (Nat.le_succ_of_le hwu) _
        replace hpt := hide hpt
        replace hk := hide hk
        replace hU1 := hide hU1
        clear hC z1 z2
        have hGU1 := hide (hG.later hb1)
        have hbU1 := hide (ext_trans hbr hb1)
        go_upto_region 20 with fail
        rw [hU1.out]
        have hz2 := hz2.out.set 1 (.int .i64 ((j : Int) + 1))
        rw [hU1.out] at hz2
        have q0 := hz2.get (j := 0) rfl
        have q1 := hz2.get (j := 1) rfl
        have q2 := hz2.get (j := 2) rfl
        have q3 := hz2.get (j := 3) rfl
        have hql := hz2.lt
        clear hz2 p0 p1 p2 p3 pf1 pf3 hn0 hul hpl
        go_wp2_with (at_builtin; refine wpList_prob (B := w1.heap.size) rfl _ _ rfl rfl (hGU1.out.later (ext_alloc (Below.refl _ _) _)).ps hpl2 ⟨U1.heap.size, 0, none⟩ 1 rfl ((j : Int) + 1, (c' : Int), k) (new_prob _ _ _ _ _) ?c1 ?_)
        case c1 => rw [World.size_alloc]; exact Nat.le_succ_of_le hbU1.out.size
        intro g5 c5 w5 hown5 hgr5 hwh5
        have hG5 := hide (hGU1.out.prob1 hown5 hgr5 (by simpa using hwh5))
        have hb5 := hide (prob1_below hbU1.out hGU1.out hgr5)
        clear hown5 hgr5 hwh5
        go_wp2
        go_roundw
        case rel => exact ⟨j + 1, r2, rfl, hrest2, by omega, by go_num, by rw [hsb]; show GathR w1.heap.size _ _ _ st.1 (List.map probT (st.2.1 ++ [_])); rw [List.map_append, List.map_singleton, hpt.out]; exact hG5.out, hb5.out⟩
        case measure => simp [intOf]; omega
      · have hsb := hC st
        rw [← hstep, hct] at hsb
        have hE0 := str_empty n
        have hE : n.toList.isEmpty = decide (n.size = 0) := by rw [← hE0]; cases n.toList <;> rfl
        rw [decide_eq_true hn] at hE0 hE
        replace hn := hide hn
        clear hC z1 z2 hz2
        go_wp2
        go_roundw
        case rel => exact ⟨j + 1, r2, rfl, hrest2, by omega, by go_num, by rw [hsb]; exact hGU.out, hbU.out⟩
        case measure => simp [intOf]; omega
      · have hsb := hC st
        rw [← hstep, hct] at hsb
        have hE0 := str_empty n
        have hE : n.toList.isEmpty = decide (n.size = 0) := by rw [← hE0]; cases n.toList <;> rfl
        rw [decide_eq_false hn] at hE0 hE
        have hGU0 := hGU.out
        obtain ⟨A8, c8, hv8, hcap8, hat8⟩ := hGU0.rs.at
        have hcall := rIndex_walk A8 st.1 c8 n U (by omega) (hat8.more fun _ _ => trivial)
        subst hv8
        obtain ⟨H, hH⟩ : ∃ H, hasN n st.1 = H := ⟨_, rfl⟩
        rw [hH] at hcall hsb
        have hz1 := hide z1
        have hrph := hide hrep
        have hpt11 : Hid (probT (j + 1, 0, 11) = ((j : Int) + 1, 0, 11)) := hide (by unfold probT; simp)
        have hpt2 : Hid (probT (j + 1, 0, 2) = ((j : Int) + 1, 0, 2)) := hide (by unfold probT; simp)
        replace hn := hide hn
        replace hG := hide hG
        clear hC z1 z2 hat8 hH hGU0 hrep hrn
        go_wp2_with fail
        refine hcall.mono ?_
        rintro e w4 ⟨x, rfl, hx, hb4⟩
        have hbx4 := ext_trans hbx hb4
        have hr4 := hz2.out.later hb4
        clear p0 p1 p2 p3 pf1 pf3 hpl hn0 hul hcall
        have p3 := hr4.get (j := 3) rfl
        have pf3 := hr4.free 3
        have hpl := hr4.lt
        cases H with
        | true =>
          have hx0 : 0 ≤ x := of_decide_eq_true hx
          rw [if_pos rfl] at hsb
          clear hx
          obtain ⟨U1, hU1⟩ : ∃ U1, w4.setCell ⟨ub + 1, 3, none⟩ (.int .i64 11) = U1 := ⟨_, rfl⟩
          have hr3 : RowV 55 U1 (ub + 1) [.int .i64 0, .int .i64 0, .int .i64 0, .int .i64 11] := by rw [← hU1]; exact hr4.set 3 _
          have hb5 : Below wr.heap.size wr U1 := by rw [← hU1]; exact ext_set hbx4 (Nat.le_succ_of_le hwu) _
          obtain ⟨U2, hU2⟩ : ∃ U2, U1.setCell ⟨ub + 1, 1, none⟩ (.int .i64 ((j : Int) + 1)) = U2 := ⟨_, rfl⟩
          have hr5 : RowV 55 U2 (ub + 1) [.int .i64 0, .int .i64 ((j : Int) + 1), .int .i64 0, .int .i64 11] := by rw [← hU2]; exact hr3.set 1 _
          have hb6 : Below wr.heap.size wr U2 := by rw [← hU2]; exact ext_set hb5 (Nat.le_succ_of_le hwu) _
          have hGU2 := hide (hG.out.later hb6)
          have hbU2 := hide (ext_trans hbr hb6)
          have hr5h := hide hr5
          have hr3h := hide hr3
          replace hU1 := hide hU1
          replace hU2 := hide hU2
          clear hr3 hr5 hb5 hb6 hbx4
          go_upto_region 16 with fail
          rw [hU1.out]
          clear p3 pf3 hpl
          have p1 := hr3h.out.get (j := 1) rfl
          have p3 := hr3h.out.get (j := 3) rfl
          have pf1 := hr3h.out.free 1
          have hpl := hr3h.out.lt
          go_upto_region 20 with fail
          rw [hU2.out]
          clear p1 p3 pf1 hpl
          have q0 := hr5h.out.get (j := 0) rfl
          have q1 := hr5h.out.get (j := 1) rfl
          have q2 := hr5h.out.get (j := 2) rfl
          have q3 := hr5h.out.get (j := 3) rfl
          have hql := hr5h.out.lt
          go_wp2_with (at_builtin; refine wpList_prob (B := w1.heap.size) rfl _ _ rfl rfl (hGU2.out.later (ext_alloc (Below.refl _ _) _)).ps hpl2 ⟨U2.heap.size, 0, none⟩ 1 rfl ((j : Int) + 1, 0, 11) (new_prob _ _ _ _ _) ?c1 ?_)
          case c1 => rw [World.size_alloc]; exact Nat.le_succ_of_le hbU2.out.size
          intro g5 c5 w5 hown5 hgr5 hwh5
          have hG5 := hide (hGU2.out.prob1 hown5 hgr5 (by simpa using hwh5))
          have hb5 := hide (prob1_below hbU2.out hGU2.out hgr5)
          clear hown5 hgr5 hwh5
          go_wp2
          go_roundw
          case rel => exact ⟨j + 1, r2, rfl, hrest2, by omega, by go_num, by rw [hsb]; show GathR w1.heap.size _ _ _ st.1 (List.map probT (st.2.1 ++ [_])); rw [List.map_append, List.map_singleton, hpt11.out]; exact hG5.out, hb5.out⟩
          case measure => simp [intOf]; omega
        | false =>
          have hx0 : ¬ 0 ≤ x := of_decide_eq_false hx
          rw [if_neg (by decide)] at hsb
          clear hx
          by_cases h48 : 48 ≤ st.1.length
          · have h48i : (((st.1.length : Nat) : Int) == 48) = true := by rw [beq_iff_eq]; omega
            rw [if_pos h48] at hsb
            replace h48 := hide h48
            obtain ⟨U1, hU1⟩ : ∃ U1, w4.setCell ⟨ub + 1, 3, none⟩ (.int .i64 2) = U1 := ⟨_, rfl⟩
            have hr3 : RowV 55 U1 (ub + 1) [.int .i64 0, .int .i64 0, .int .i64 0, .int .i64 2] := by rw [← hU1]; exact hr4.set 3 _
            have hb5 : Below wr.heap.size wr U1 := by rw [← hU1]; exact ext_set hbx4 (Nat.le_succ_of_le hwu) _
            obtain ⟨U2, hU2⟩ : ∃ U2, U1.setCell ⟨ub + 1, 1, none⟩ (.int .i64 ((j : Int) + 1)) = U2 := ⟨_, rfl⟩
            have hr5 : RowV 55 U2 (ub + 1) [.int .i64 0, .int .i64 ((j : Int) + 1), .int .i64 0, .int .i64 2] := by rw [← hU2]; exact hr3.set 1 _
            have hb6 : Below wr.heap.size wr U2 := by rw [← hU2]; exact ext_set hb5 (Nat.le_succ_of_le hwu) _
            have hGU2 := hide (hG.out.later hb6)
            have hbU2 := hide (ext_trans hbr hb6)
            have hr5h := hide hr5
            have hr3h := hide hr3
            replace hU1 := hide hU1
            replace hU2 := hide hU2
            clear hr3 hr5 hb5 hb6 hbx4
            go_upto_region 18 with fail
            rw [hU1.out]
            clear p3 pf3 hpl
            have p1 := hr3h.out.get (j := 1) rfl
            have p3 := hr3h.out.get (j := 3) rfl
            have pf1 := hr3h.out.free 1
            have hpl := hr3h.out.lt
            go_upto_region 20 with fail
            rw [hU2.out]
            clear p1 p3 pf1 hpl
            have q0 := hr5h.out.get (j := 0) rfl
            have q1 := hr5h.out.get (j := 1) rfl
            have q2 := hr5h.out.get (j := 2) rfl
            have q3 := hr5h.out.get (j := 3) rfl
            have hql := hr5h.out.lt
            go_wp2_with (at_builtin; refine wpList_prob (B := w1.heap.size) rfl _ _ rfl rfl (hGU2.out.later (ext_alloc (Below.refl _ _) _)).ps hpl2 ⟨U2.heap.size, 0, none⟩ 1 rfl ((j : Int) + 1, 0, 2) (new_prob _ _ _ _ _) ?c1 ?_)
            case c1 => rw [World.size_alloc]; exact Nat.le_succ_of_le hbU2.out.size
            intro g5 c5 w5 hown5 hgr5 hwh5
            have hG5 := hide (hGU2.out.prob1 hown5 hgr5 (by simpa using hwh5))
            have hb5 := hide (prob1_below hbU2.out hGU2.out hgr5)
            clear hown5 hgr5 hwh5
            go_wp2
            go_roundw
            case rel => exact ⟨j + 1, r2, rfl, hrest2, by omega, by go_num, by rw [hsb]; show GathR w1.heap.size _ _ _ st.1 (List.map probT (st.2.1 ++ [_])); rw [List.map_append, List.map_singleton, hpt2.out]; exact hG5.out, hb5.out⟩
            case measure => simp [intOf]; omega
          · have h48i : (((st.1.length : Nat) : Int) == 48) = false := by rw [beq_eq_false_iff_ne]; omega
            rw [if_neg h48] at hsb
            have hz4 := hz1.out.later hb4
            obtain ⟨U1, hU1⟩ : ∃ U1, w4.setCell ⟨ub, 12, none⟩ (.int .i64 ((j : Int) + 1)) = U1 := ⟨_, rfl⟩
            have hr3 : RowV 43 U1 ub [.string n, .int .i64 wt, .int .i64 kd, .int .i64 f0, .string f1, .slice fA fl fc, .int .i64 s0, .string s1, .slice sA sl' sc, .int .i64 nn, .slice tA tl tc, .slice rA rl rc, .int .i64 ((j : Int) + 1)] := by rw [← hU1]; exact hz4.set 12 _
            have hb5 : Below wr.heap.size wr U1 := by rw [← hU1]; exact ext_set hbx4 hwu _
            have hb6 : Below w3.heap.size w3 U1 := by rw [← hU1]; exact ext_set (ext_trans z3 hb4) (Nat.le_of_eq hub.out) _
            have hGU1 := hide (hG.out.later hb5)
            have hbU1 := hide (ext_trans hbr hb5)
            have c12 := hz4.get (j := 12) rfl
            have f12 := hz4.free 12
            have hul := hz4.lt
            have hr3h := hide hr3
            have h23 := (ext_trans hb2 (Below.refl _ _)).size
            have hrp9 : kRule.rep (fun x => w1.heap.size ≤ x ∧ ¬ u9.ownBlock = some x ∧ some x ≠ (Value.slice A8 st.1.length c8).ownBlock) (U1.alloc (.cells #[.string n, .int .i64 wt, .int .i64 kd, .int .i64 f0, .string f1, .slice fA fl fc, .int .i64 s0, .string s1, .slice sA sl' sc, .int .i64 nn, .slice tA tl tc, .slice rA rl rc, .int .i64 ((j : Int) + 1)] 43)) (putL rr (j + 1)) [.string n, .int .i64 wt, .int .i64 kd, .int .i64 f0, .string f1, .slice fA fl fc, .int .i64 s0, .string s1, .slice sA sl' sc, .int .i64 nn, .slice tA tl tc, .slice rA rl rc, .int .i64 ((j : Int) + 1)] := by
              refine rep_put (n := j + 1) hrph.out fun x hx hlt => ?_
              refine ⟨⟨by omega, fun e => ?_, fun e => ?_⟩, by rw [World.size_alloc]; have := hb6.size; omega, (Below.heap_alloc _ _ _ (by have := hb6.size; omega)).trans (hb6.block x hlt)⟩
              · have := ((hG.out.low9) x e).2; omega
              · have := ((hG.out.low8) x e.symm).2; omega
            replace h48 := hide h48
            replace hU1 := hide hU1
            clear hr3 hb5 hb6 hz4
            go_upto_region 22 with fail
            rw [hU1.out]
            clear c12 f12 hul p3 pf3 hpl
            have a0 := hr3h.out.get (j := 0) rfl
            have a1 := hr3h.out.get (j := 1) rfl
            have a2 := hr3h.out.get (j := 2) rfl
            have a3 := hr3h.out.get (j := 3) rfl
            have a4 := hr3h.out.get (j := 4) rfl
            have a5 := hr3h.out.get (j := 5) rfl
            have a6 := hr3h.out.get (j := 6) rfl
            have a7 := hr3h.out.get (j := 7) rfl
            have a8 := hr3h.out.get (j := 8) rfl
            have a9 := hr3h.out.get (j := 9) rfl
            have a10 := hr3h.out.get (j := 10) rfl
            have a11 := hr3h.out.get (j := 11) rfl
            have a12 := hr3h.out.get (j := 12) rfl
            have hul := hr3h.out.lt
            go_wp2_with (at_builtin; refine wpList_ownX (K := kRule) (t := 43) (X := fun x => u9.ownBlock = some x) (B := w1.heap.size) rfl _ _ rfl apd_rules (by decide) rfl (hGU1.out.later (ext_alloc (Below.refl _ _) _)).rs ?c1 (by decide) ⟨U1.heap.size, 0, none⟩ 1 rfl (putL rr (j + 1)) [.string n, .int .i64 wt, .int .i64 kd, .int .i64 f0, .string f1, .slice fA fl fc, .int .i64 s0, .string s1, .slice sA sl' sc, .int .i64 nn, .slice tA tl tc, .slice rA rl rc, .int .i64 ((j : Int) + 1)] hrp9 (World.news_of_block (cs := #[.string n, .int .i64 wt, .int .i64 kd, .int .i64 f0, .string f1, .slice fA fl fc, .int .i64 s0, .string s1, .slice sA sl' sc, .int .i64 nn, .slice tA tl tc, .slice rA rl rc, .int .i64 ((j : Int) + 1)]) (t := 43) (fr := (0, 0)) (heap_alloc_new _ _)) ?c2 ?_)
            case c1 => omega
            case c2 => rw [World.size_alloc]; exact Nat.le_succ_of_le hbU1.out.size
            intro v5 w5 hX5 hgr5 g9 c9 hv9 hform5
            have hG5 := hide (hGU1.out.rule1 hX5 hgr5)
            have hb5 := hide (rule1_below hbU1.out hGU1.out hgr5)
            clear hform5
            subst hv9
            clear hX5 hgr5 hrp9
            go_wp2
            go_roundw
            case rel => exact ⟨j + 1, r2, rfl, hrest2, by omega, by go_num, by rw [hsb]; exact hG5.out, hb5.out⟩
            case measure => simp [intOf]; omega
end Go.Proofs.YtdnnahdafhddlaaGreatDoor

namespace Go.Proofs.YtdnnahdafhddlaaGreatDoor
open Go.RowKit
set_option maxRecDepth 1000000

def awT : ByteArray := ⟨#[108, 117, 110, 99, 104, 58, 32, 53, 32, 97, 118, 111, 105, 100, 32, 97, 108, 108, 44, 32, 91, 77, 111, 32, 53, 45, 54, 59, 32, 84, 117, 32, 53, 45, 54, 32, 111, 100, 100, 93, 10, 35, 32, 110, 111, 116, 104, 105, 110, 103, 10, 97, 58, 32, 104, 97, 114, 100, 32, 97, 112, 97, 114, 116, 32, 99, 111, 117, 114, 115, 101, 32, 88, 32, 111, 114]⟩
theorem aw_rules : (rulesT 5 10 480 45 4 awT).1.map (fun r => (r.weight, r.times.length, r.line)) = [(5, 2, 1)] := by kernel_rfl
theorem aw_probs : (rulesT 5 10 480 45 4 awT).2 = [(3, 26, 15)] := by kernel_rfl
theorem sel_ok_size {s : Sel} (h : selOk s = true) : selSize s ≤ 64 := by
  have h1 := (validN_says codeB s 8 0).1
  rw [show (validN codeB s 8 0).1 = true from h] at h1
  have h2 := h1.symm
  simp only [Bool.and_eq_true, decide_eq_true_iff] at h2
  omega
theorem none_size {s : Sel} (h : noneS s = true) : selSize s ≤ 64 := by
  obtain ⟨k, n, ks⟩ := s
  unfold noneS at h
  simp only [Bool.and_eq_true, decide_eq_true_iff] at h
  rw [selSize_mk, List.eq_nil_of_length_eq_zero h.2]
  decide
theorem selected_size {u : RuleD} (h : selectedB u = true) : selSize u.first ≤ 64 ∧ selSize u.second ≤ 64 := by
  unfold selectedB at h
  split at h
  · simp only [Bool.and_eq_true] at h; exact ⟨sel_ok_size h.1, sel_ok_size h.2⟩
  · simp only [Bool.and_eq_true] at h; exact ⟨sel_ok_size h.1, none_size h.2⟩
theorem rule_ok {d sl b m wk : Int} {r : RuleD} (h : ruleE d sl b m wk r = 0) : RuleOk r := by
  obtain ⟨-, h2, h3⟩ := rule_sound h
  have h4 : selectedB r = true := by
    unfold ruleE at h
    repeat' (split at h; (try (cases h; done)))
    all_goals first | (cases hs : selectedB r with | true => rfl | false => rename_i q; exact absurd hs q) | skip
    all_goals (cases hs : selectedB r <;> simp_all)
  obtain ⟨h5, h6⟩ := selected_size h4
  exact ⟨by omega, by omega, by omega, by omega⟩
theorem rules_ok (d sl b m wk : Int) : ∀ (lines : List ByteArray) (st : List RuleD × List PrbT × Nat), (∀ u ∈ st.1, RuleOk u) → ∀ u ∈ (lines.foldl (stepS d sl b m wk) st).1, RuleOk u
  | [], st, h => h
  | s :: r, st, h => by
    rw [List.foldl_cons]
    refine rules_ok d sl b m wk r _ fun u hu => ?_
    cases hl : lineP gramT s with
    | none => rw [step_none hl] at hu; exact h u hu
    | some q =>
      cases q with
      | error y => rw [step_bad hl] at hu; exact h u hu
      | ok x =>
        cases hf : finR d sl b m wk 0 x with
        | error c => rw [step_fin hl hf] at hu; exact h u hu
        | ok y =>
          rw [step_rule hl hf] at hu
          split at hu
          · exact h u hu
          · split at hu
            · exact h u hu
            · rcases List.mem_append.1 hu with hu | hu
              · exact h u hu
              · rw [List.mem_singleton.1 hu]
                have h9 := rule_ok (fin_ok hf).1
                exact h9
theorem rulesT_ok (d sl b m wk : Int) (s : ByteArray) : ∀ u ∈ (rulesT d sl b m wk s).1, RuleOk u := by
  unfold rulesT
  split
  · intro u hu; cases hu
  · split
    · intro u hu; cases hu
    · exact rules_ok d sl b m wk _ ([], [], 0) fun u hu => by cases hu
theorem rulesT_len (d sl b m wk : Int) (s : ByteArray) : (rulesT d sl b m wk s).1.length ≤ 48 := by
  unfold rulesT
  split
  · exact Nat.zero_le _
  · split
    · exact Nat.zero_le _
    · exact (rules_told gramT (finR d sl b m wk 0) RuleD.name putL 48 _ ([], [], 0) (Nat.zero_le _)).2.1
theorem parse14_walk (d sl b m wk : Int) (s : ByteArray) (hs : s.size ≤ 9223372036854775807) (w : World) (hStd : Std w) :
    Calls Tryz.prog 20 #[.string s, .agg #[.int .i64 d, .int .i64 sl, .int .i64 b, .int .i64 m], .int .i64 wk] w fun en w' => ParsG (rulesT d sl b m wk s) w en w' := by
  cases h : weekB d sl b m wk with
  | false => exact parse_noweek14 d sl b m wk s h w
  | true =>
    by_cases h2 : 65536 < s.size
    · exact parse_long14 d sl b m wk s h h2 hs w
    · exact parse_lines14 d sl b m wk s h (by omega) w hStd
theorem rparse14_walk (d sl b m wk : Int) (s : ByteArray) (hs : s.size ≤ 9223372036854775807) (w : World) (hStd : Std w) (hWd : Wds w) (hDy : Dys w) (hL : Lvs w) (hM : Nms w) :
    Calls Tryz.prog 22 #[.string s, .agg #[.int .i64 d, .int .i64 sl, .int .i64 b, .int .i64 m], .int .i64 wk] w fun en w' => ParsG (rulesT d sl b m wk s) w en w' := by
  cases h : weekB d sl b m wk with
  | false => exact rparse_noweek d sl b m wk s h w
  | true =>
    by_cases h2 : 65536 < s.size
    · exact rparse_long d sl b m wk s h h2 hs w
    · exact rparse_lines d sl b m wk s h (by omega) w hStd hWd hDy hL hM
theorem week14_walk (w : World) : Calls Tryz.prog 8 #[] w fun e w' => e = .returned (.agg #[.int .i64 5, .int .i64 10, .int .i64 480, .int .i64 45]) ∧ Below w.heap.size w w' := by
  go_enter Tryz.func8, Tryz.ntmps8
  go_wp2
  refine end_struct1 rfl (Or.inl rfl) w.heap.size (.int .i64 5) (.int .i64 10) (.int .i64 480) (.int .i64 45) rfl rfl (by simp) (by simp) (by simp) (by simp) ⟨rfl, (by repeat (first | exact Below.refl _ _ | refine ext_alloc ?_ _ | refine ext_drewN ?_ _ | refine ext_drew ?_ | refine ext_trans ?_ (by assumption)))⟩
set_option maxHeartbeats 4000000 in
theorem agree14_walk (d sl b m wk : Int) (s : ByteArray) (hs : s.size ≤ 9223372036854775807) (w : World) (hStd : Std w) (hWd : Wds w) (hDy : Dys w) (hL : Lvs w) (hM : Nms w) :
    Calls Tryz.prog 7 #[.string s, .agg #[.int .i64 d, .int .i64 sl, .int .i64 b, .int .i64 m], .int .i64 wk] w fun e w' => e = .returned (.bool true) ∧ Below w.heap.size w w' := by
  obtain ⟨W, hW⟩ : ∃ W, w.alloc (.cells #[.int .i64 d, .int .i64 sl, .int .i64 b, .int .i64 m] 23) = W := ⟨_, rfl⟩
  obtain ⟨gb, hgb⟩ : ∃ gb, w.heap.size = gb := ⟨_, rfl⟩
  have hb0 : Below w.heap.size w W := by rw [← hW]; exact (by repeat (first | exact Below.refl _ _ | refine ext_alloc ?_ _ | refine ext_drewN ?_ _ | refine ext_drew ?_ | refine ext_trans ?_ (by assumption)))
  have bG : Box4 W gb (.int .i64 d) (.int .i64 sl) (.int .i64 b) (.int .i64 m) := by rw [← hW, ← hgb]; exact Box4.new w 23 (.int .i64 d) (.int .i64 sl) (.int .i64 b) (.int .i64 m)
  have hS0 := hStd.after hb0
  have hW0 := hWd.after hb0 hStd
  have hD0 := hDy.after hb0 hStd
  have hL0 := hL.go hb0
  have hM0 := hM.after hb0
  have hp := parse14_walk d sl b m wk s hs W hS0
  have hok := rulesT_ok d sl b m wk s
  have hln := rulesT_len d sl b m wk s
  have hrp := hide (fun (U : World) h1 h2 h3 h4 h5 => rparse14_walk d sl b m wk s hs U h1 h2 h3 h4 h5)
  obtain ⟨R, hR⟩ : ∃ R, rulesT d sl b m wk s = R := ⟨_, rfl⟩
  rw [hR] at hp hok hln hrp
  obtain ⟨g0, g1, g2, g3⟩ := id bG
  have hgl := bG.lt
  have hokh := hide hok
  clear hok hR hStd hWd hDy hL hM
  go_enter Tryz.func7, Tryz.ntmps7
  go_wp2_with fail
  replace hW := hide hW
  replace hgb := hide hgb
  refine hp.mono ?_
  rintro e w1 ⟨v8, v9, rfl, hR8, hP9, hb1⟩
  clear hp g0 g1 g2 g3 hgl
  obtain ⟨g0, g1, g2, g3⟩ := bG.later hb1
  have hgl := (bG.later hb1).lt
  have hq := hrp.out w1 (hS0.after hb1) (hW0.after hb1 hS0) (hD0.after hb1 hS0) (hL0.go hb1) (hM0.after hb1)
  have hb01 := ext_trans hb0 hb1
  clear hrp hS0 hW0 hD0 hL0 hM0 hb0 bG
  go_wp2_with fail
  refine hq.mono ?_
  rintro e w2 ⟨m8, m9, rfl, hR8', hP9', hb2⟩
  clear hq g0 g1 g2 g3 hgl
  have hR82 := hR8.later hb2
  have hP92 := owns_later hP9 hb2
  obtain ⟨A1, c1, rfl, hc1, ha1⟩ := hR82.at
  obtain ⟨A2, c2, rfl, hc2, ha2⟩ := hR8'.at
  have hsm := r14Same_walk A1 A2 R.1 c1 c2 w2 (by omega) hokh.out (ha1.more fun _ _ => trivial) (ha2.more fun _ _ => trivial)
  have hb02 := ext_trans hb01 hb2
  clear hR8 hR8' hR82 ha1 ha2 hP9 hc1 hc2
  go_wp2_with fail
  refine hsm.mono ?_
  rintro e w3 ⟨rfl, hb3⟩
  have hsp := probs_same _ _ v9 m9 R.2 w3 (owns_later hP92 hb3) (owns_later hP9' hb3)
  have hb03 := ext_trans hb02 hb3
  clear hsm hP92 hP9'
  go_wp2_with fail
  refine hsp.mono ?_
  rintro e w4 ⟨rfl, hb4⟩
  have hb04 := ext_trans hb03 hb4
  clear hsp
  go_wp2
  go_ret
  exact ⟨rfl, hb04⟩
set_option maxHeartbeats 4000000 in
theorem awake14_walk (w : World) (hStd : Std w) :
    Calls Tryz.prog 6 #[] w fun e w' => e = .returned (.bool true) ∧ Below w.heap.size w w' := by
  have hwk := week14_walk w
  have hpar : Hid (∀ (t : ByteArray) (U : World), t = awT → Std U → Calls Tryz.prog 20 #[.string t, .agg #[.int .i64 5, .int .i64 10, .int .i64 480, .int .i64 45], .int .i64 4] U fun en w' => ParsG (rulesT 5 10 480 45 4 awT) U en w') := hide (fun t U ht hU => by rw [ht]; exact parse14_walk 5 10 480 45 4 awT (by decide) U hU)
  have h1 := aw_rules
  have h2 := aw_probs
  obtain ⟨⟨R1, R2⟩, hR⟩ : ∃ R, rulesT 5 10 480 45 4 awT = R := ⟨_, rfl⟩
  rw [hR] at h1 h2 hpar
  dsimp only at h1 h2
  subst h2
  obtain ⟨u, rfl⟩ : ∃ u, R1 = [u] := by
    cases R1 with
    | nil => cases h1
    | cons x r =>
      cases r with
      | nil => exact ⟨x, rfl⟩
      | cons y r => simp at h1
  simp only [List.map_cons, List.map_nil, List.cons.injEq, Prod.mk.injEq, and_true] at h1
  obtain ⟨u1, u2, u3⟩ := h1
  clear hR
  go_enter Tryz.func6, Tryz.ntmps6
  go_wp2_with fail
  refine hwk.mono ?_
  rintro e w1 ⟨rfl, hb1⟩
  have hS1 := hStd.after hb1
  clear hwk
  go_wp2_with fail
  refine (hpar.out _ _ (by rfl) hS1).mono ?_
  rintro e w2 ⟨v8, v9, rfl, hR8, hP9, hb2⟩
  have hb02 := ext_trans hb1 hb2
  obtain ⟨A1, c1, rfl, hc1, ha1⟩ := hR8.at
  obtain ⟨pb, po, f0, f1, fA, fl, fc, s0, s1, sA, sl, sc, tA, tc, rA, rc, rfl, -, hpl, ⟨q0, q1, q2, q3, q4, q5, q6, q7, q8, q9, q10, q11, q12⟩, -⟩ := rule_cells ha1 (j := 0) rfl
  rw [u1] at q1
  rw [u2] at q10
  rw [u3] at q12
  rw [Nat.zero_mul, Nat.add_zero] at q1 q10 q12
  clear hpar hR8 ha1 q0 q2 q3 q4 q5 q6 q7 q8 q9 q11 u1 u2 u3
  go_wp2_with fail
  have hsp := probs_same _ _ v9 (.slice (some ⟨w2.heap.size, 0, none⟩) 1 1) [(3, 26, 15)] (w2.alloc (.cells #[.int .i64 0, .int .i64 3, .int .i64 26, .int .i64 15] 55)) (owns_later hP9 (ext_alloc (Below.refl _ _) _)) (probs_laid (B := w2.heap.size) (3, 26, 15) (Nat.le_refl _))
  refine hsp.mono ?_
  rintro e w3 ⟨rfl, hb3⟩
  have hb03 := ext_trans (ext_alloc hb02 _) hb3
  clear hsp hP9 hb2 hb02 q1 q10 q12
  go_wp2
  go_ret
  exact ⟨rfl, hb03⟩
end Go.Proofs.YtdnnahdafhddlaaGreatDoor
