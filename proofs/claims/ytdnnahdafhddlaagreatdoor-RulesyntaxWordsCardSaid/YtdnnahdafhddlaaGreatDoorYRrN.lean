/- Walk of the reference's reading of a line. Conditions: what the program's variables hold. What is left of a text that is cut at its newlines, line by line (plain). No walk. -/
import Derived.Test.YtdnnahdafhddlaaGreatDoorYRrH
import Derived.Test.YtdnnahdafhddlaaGreatDoorYR9B
import Derived.Test.YtdnnahdafhddlaaGreatDoorYListR
import Derived.Test.YtdnnahdafhddlaaGreatDoorYRrL
namespace Go.Proofs.YtdnnahdafhddlaaGreatDoor
open Go.RowKit
set_option maxRecDepth 100000

/-- What is kept beside the cells while a line is finished. -/
structure KeptS (S : Nat → Prop) (s1 : Sel) (v1 : List Value) (s2 : Sel) (v2 : List Value) (A : Option Addr) (l : List ByteArray) (V : World) : Prop where
  fst : kSel.rep S V s1 v1
  snd : kSel.rep S V s2 v2
  parts : At kStr S V A l
theorem KeptS.kept {S S' : Nat → Prop} {s1 s2 : Sel} {v1 v2 : List Value} {A : Option Addr} {l : List ByteArray} {V V' : World} (h : KeptS S s1 v1 s2 v2 A l V) (hk : ∀ b, S b → b < V.heap.size → S' b ∧ b < V'.heap.size ∧ V'.heap[b]? = V.heap[b]?) : KeptS S' s1 v1 s2 v2 A l V' :=
  ⟨kSel.kept h.fst hk, kSel.kept h.snd hk, h.parts.kept hk⟩
theorem KeptS.only {g : Nat} {B : Nat} {s1 s2 : Sel} {v1 v2 : List Value} {A : Option Addr} {l : List ByteArray} {V V' : World} (h : KeptS (fun b => B ≤ b ∧ b < g) s1 v1 s2 v2 A l V) (ho : Only g V V') : KeptS (fun b => B ≤ b ∧ b < g) s1 v1 s2 v2 A l V' :=
  h.kept fun b hb hlt => ⟨hb, Nat.lt_of_lt_of_le hlt ho.size, ho.block b hlt (by intro e; injection e with e; omega)⟩
set_option maxHeartbeats 16000000 in
theorem rline_walk (d sl b m wk : Int) (s : ByteArray) (hs : s.size ≤ 65536) (w : World) (hS : Std w) (hWd : Wds w) (hDy : Dys w) (hL : Lvs w) (hM : Nms w) :
    Calls Tryz.prog 57 #[.string s, .agg #[.int .i64 d, .int .i64 sl, .int .i64 b, .int .i64 m], .int .i64 wk] w fun en w' => LineG d sl b m wk s w en w' := by
  obtain ⟨W, hW⟩ : ∃ W, ((w.alloc (.cells #[.int .i64 d, .int .i64 sl, .int .i64 b, .int .i64 m] 23)).alloc (.cells #[.string ⟨#[]⟩, .int .i64 0, .int .i64 0, .int .i64 0, .string ⟨#[]⟩, .slice none 0 0, .int .i64 0, .string ⟨#[]⟩, .slice none 0 0, .int .i64 0, .slice none 0 0, .slice none 0 0, .int .i64 0] 43)).alloc (.cells #[.int .i64 0, .int .i64 0, .int .i64 0, .int .i64 0] 55) = W := ⟨_, rfl⟩
  obtain ⟨gb, hgb⟩ : ∃ gb, w.heap.size = gb := ⟨_, rfl⟩
  have hb0 : Below w.heap.size w W := by rw [← hW]; exact (by repeat (first | exact Below.refl _ _ | refine ext_alloc ?_ _ | refine ext_drewN ?_ _ | refine ext_drew ?_ | refine ext_trans ?_ (by assumption)))
  have hWs : W.heap.size = gb + 3 := by rw [← hW, ← hgb]; simp only [World.size_alloc]
  have hln : LnR d sl b m gb (gb + 1) (gb + 2) W := by
    rw [← hW, ← hgb]
    refine ⟨((Box4.new w 23 _ _ _ _).alloc _).alloc _, ⟨_, ?_, rfl⟩, ⟨_, ?_, rfl⟩⟩
    · exact (Below.heap_alloc _ _ _ (by simp only [World.size_alloc]; omega)).trans (by have := heap_alloc_new (w.alloc (.cells #[.int .i64 d, .int .i64 sl, .int .i64 b, .int .i64 m] 23)) (.cells #[.string ⟨#[]⟩, .int .i64 0, .int .i64 0, .int .i64 0, .string ⟨#[]⟩, .slice none 0 0, .int .i64 0, .string ⟨#[]⟩, .slice none 0 0, .int .i64 0, .slice none 0 0, .slice none 0 0, .int .i64 0] 43); rw [World.size_alloc] at this; exact this)
    · exact heap_new3 w _ _ _
  have hpc := pass_cut 35 s _ 0 rfl (Nat.zero_le _)
  rw [List.drop_zero] at hpc
  have hcut := r5Cut_walk s 35 35 rfl _ _ _ (by omega) hpc W
  obtain ⟨t, ht⟩ : ∃ t, readT s = t := ⟨_, rfl⟩
  obtain ⟨yy, hyy⟩ : ∃ yy : ByteArray, (⟨(s.data.toList.drop (passT (fun x => x != 35) s 0 + 1)).toArray⟩ : ByteArray) = yy := ⟨_, rfl⟩
  rw [show (⟨(s.extract 0 (passT (fun x => x != 35) s 0)).data.toList.toArray⟩ : ByteArray) = readT s from rfl, ht, hyy] at hcut
  have hts : t.size ≤ s.size := by rw [← ht]; unfold readT; rw [ByteArray.size_extract]; omega
  obtain ⟨yf, hyf⟩ : ∃ yf, decide (passT (fun x => x != 35) s 0 < s.size) = yf := ⟨_, rfl⟩
  rw [hyf] at hcut
  have hlineN : Hid (¬ startT t 0 < t.size → lineP gramT s = none) := hide (fun h => line_none (by rw [ht]; exact h))
  have hlineS : Hid (startT t 0 < t.size → (∀ y, ruleP gramT t s.size (t.size + 1) 0 = .error y → lineP gramT s = some (.error y)) ∧ (∀ u b, ruleP gramT t s.size (t.size + 1) 0 = .ok (u, b) → lineP gramT s = some (.ok u))) := hide (fun h => by
    have hl := line_some (G := gramT) (s := s) (by rw [ht]; exact h)
    rw [ht] at hl
    exact ⟨fun y hy => by rw [hl, hy], fun u b hu => by rw [hl, hu]⟩)
  clear hpc hyy hyf
  replace ht := hide ht
  go_enter Tryz.func57, Tryz.ntmps57
  go_wp2_with fail
  refine hcut.mono ?_
  rintro en w1 ⟨rfl, hb1⟩
  have hS0 := hS.after hb0
  obtain ⟨g, hg0⟩ : ∃ g, w1.heap.size = g := ⟨_, rfl⟩
  obtain ⟨w2, hw2⟩ : ∃ w2, w1.alloc (.cells #[.string t, .int .i64 (s.size : Int), .int .i64 0, .string ⟨#[]⟩, .int .i64 0, .int .i64 0, .int .i64 0, .int .i64 0, .int .i64 0] 143) = w2 := ⟨_, rfl⟩
  have hb2 : Below w1.heap.size w1 w2 := by rw [← hw2]; exact ext_alloc (Below.refl _ _) _
  have hrr2 : Rr w2 g t s.size 0 ⟨#[]⟩ 0 0 0 := by rw [← hw2, ← hg0]; exact heap_alloc_new _ _
  have hbw2 := ext_trans hb0 (ext_trans hb1 hb2)
  have hln2 := hln.later (ext_trans hb1 hb2)
  have hgg : gb + 3 ≤ g := by rw [← hg0, ← hWs]; exact hb1.size
  have hnx := rnext_walk g t s.size 0 ⟨#[]⟩ 0 w2 hrr2 (Nat.zero_le _) (by omega)
  have hgN : 12 ≤ g := by have := hS.big; omega
  clear hcut hln hrr2 hS0 hb1
  go_wp2_with fail
  refine hnx.mono ?_
  rintro en w3 ⟨rfl, ho3, h3⟩
  have hln3 := hln2.only ho3 (by omega) (by omega) (by omega)
  have hbw3 := hbw2.trans (Only.below ho3 (by omega) hbw2.size)
  replace hw2 := hide hw2
  replace hW := hide hW
  replace hg0 := hide hg0
  clear hnx hln2
  have hL3 : Lvs w3 := (hL.go hbw2).only ho3 hgN
  have hM3 : Nms w3 := (hM.after hbw2).only ho3 hgN
  have hS3 := hS.after hbw3
  have hWd3 := hWd.after hbw3 hS
  have hDy3 := hDy.after hbw3 hS
  obtain ⟨NB, hNB⟩ : ∃ NB : Bool, (NB = true ∧ (∃ p, lookT t s.size 0 = .tok xNone p) ∧ ¬ startT t 0 < t.size) ∨ (NB = false ∧ startT t 0 < t.size ∧ ((∃ b', lookT t s.size 0 = .bad b') ∨ ∃ x p, x ≠ xNone ∧ lookT t s.size 0 = .tok x p)) := by
    by_cases hst : startT t 0 < t.size
    · refine ⟨false, .inr ⟨rfl, hst, ?_⟩⟩
      cases hl : lookT t s.size 0 with
      | bad b' => exact .inl ⟨b', rfl⟩
      | tok x p => exact .inr ⟨x, p, fun e => look_word (e ▸ hl) hst, rfl⟩
    · exact ⟨true, .inl ⟨rfl, ⟨_, look_none.2 hst⟩, hst⟩⟩
  clear hS hWd hDy hL hM ho3 hbw2 hb2 hb0
  go_upto_region 4 with fail
  go_cut [40] (fun s V => s = .bool NB ∧ V = w3)
  case first =>
    rcases hNB with ⟨rfl, ⟨p, hl⟩, -⟩ | ⟨rfl, -, ⟨b', hl⟩ | ⟨x, p, hx, hl⟩⟩
    · obtain ⟨hrr, -, -, -⟩ := rdy_is_tok hl h3
      have hg := rgood_walk g t s.size _ xNone p _ _ w3 hrr
      rw [show ((0 : Int) == 0) = true from rfl] at hg
      obtain ⟨c0, c1, c2, c3, c4, c8, hf9, hgl9⟩ := rr_cells hrr
      have hE0 := str_empty xNone
      have hE : xNone.toList.isEmpty = true := by
        have h : xNone.toList.isEmpty = decide (xNone.size = 0) := by rw [← hE0]; cases xNone.toList <;> rfl
        rw [h]
        rfl
      clear hE0
      clear hf9 c0 c1 c2 c4 c8 hrr h3 hl hln3 hbw3 hlineN hlineS
      go_wp2_with (go_at_call 100; refine hg.mono ?_; rintro en w' ⟨rfl, rfl⟩)
      go_meet
      exact ⟨by first | rfl | rw [hE], rfl⟩
    · obtain ⟨p, x, fr, hrr, h0, -⟩ := rdy_is_bad hl h3
      have hg := rgood_walk g t s.size p x fr _ _ w3 hrr
      rw [show ((((b', (5 : Int)) : Nat × Int).2) == 0) = false from rfl] at hg
      clear hrr h0 h3 hl hln3 hbw3 hlineN hlineS
      go_wp2_with (go_at_call 100; refine hg.mono ?_; rintro en w' ⟨rfl, rfl⟩)
      go_meet
      exact ⟨rfl, rfl⟩
    · obtain ⟨hrr, -, -, -⟩ := rdy_is_tok hl h3
      have hg := rgood_walk g t s.size _ x p _ _ w3 hrr
      rw [show ((0 : Int) == 0) = true from rfl] at hg
      obtain ⟨c0, c1, c2, c3, c4, c8, hf9, hgl9⟩ := rr_cells hrr
      have hE0 := str_empty x
      have hE : x.toList.isEmpty = decide (x.size = 0) := by rw [← hE0]; cases x.toList <;> rfl
      have hx0 : ¬ x.size = 0 := fun h => hx (by apply ByteArray.ext; apply Array.eq_empty_of_size_eq_zero; exact h)
      rw [decide_eq_false hx0] at hE hE0
      replace hx := hide hx
      replace hx0 := hide hx0
      clear hf9 c0 c1 c2 c4 c8 hrr h3 hl hln3 hbw3 hlineN hlineS
      go_wp2_with (go_at_call 100; refine hg.mono ?_; rintro en w' ⟨rfl, rfl⟩)
      go_meet
      exact ⟨rfl, rfl⟩
  case rest =>
    obtain ⟨rfl, rfl⟩ := hcut
    rename World => w3
    have hln := hln3
    rcases hNB with ⟨rfl, -, hst⟩ | ⟨rfl, hst, -⟩
    · have hlN := hlineN.out hst
      clear hst hlineN hlineS h3 hL3 hM3 hS3 hWd3 hDy3 hln3
      (
              have rc0 := hln.rule.get (j := 0) rfl
              have rc1 := hln.rule.get (j := 1) rfl
              have rc2 := hln.rule.get (j := 2) rfl
              have rc3 := hln.rule.get (j := 3) rfl
              have rc4 := hln.rule.get (j := 4) rfl
              have rc5 := hln.rule.get (j := 5) rfl
              have rc6 := hln.rule.get (j := 6) rfl
              have rc7 := hln.rule.get (j := 7) rfl
              have rc8 := hln.rule.get (j := 8) rfl
              have rc9 := hln.rule.get (j := 9) rfl
              have rc10 := hln.rule.get (j := 10) rfl
              have rc11 := hln.rule.get (j := 11) rfl
              have rc12 := hln.rule.get (j := 12) rfl
              have rf0 := hln.rule.free 0
              have rf1 := hln.rule.free 1
              have rf2 := hln.rule.free 2
              have rf3 := hln.rule.free 3
              have rf4 := hln.rule.free 4
              have rf5 := hln.rule.free 5
              have rf6 := hln.rule.free 6
              have rf7 := hln.rule.free 7
              have rf8 := hln.rule.free 8
              have rf9 := hln.rule.free 9
              have rf10 := hln.rule.free 10
              have rf11 := hln.rule.free 11
              have rf12 := hln.rule.free 12
              have pc0 := hln.prob.get (j := 0) rfl
              have pc1 := hln.prob.get (j := 1) rfl
              have pc2 := hln.prob.get (j := 2) rfl
              have pc3 := hln.prob.get (j := 3) rfl
              have pf0 := hln.prob.free 0
              have pf1 := hln.prob.free 1
              have pf2 := hln.prob.free 2
              have pf3 := hln.prob.free 3
              have rll := hln.rule.lt
              have pll := hln.prob.lt)
      obtain ⟨z1, z2, z3, -, -⟩ := set17_done hln.rule hln.prob (by omega) hbw3 (by omega) (by omega) (.string ⟨#[]⟩) (.int .i64 0) (.int .i64 0) (.int .i64 0) (.string ⟨#[]⟩) (.slice none 0 0) (.int .i64 0) (.string ⟨#[]⟩) (.slice none 0 0) (.int .i64 0) (.slice none 0 0) (.slice none 0 0) (.int .i64 0) (.int .i64 0) (.int .i64 0) (.int .i64 0) (.int .i64 0)
      have hdone := hide (And.intro z1 (And.intro z2 (show LineG d sl b m wk s w (.returned (.tuple #[ruZ, prV 0 0])) _ from ⟨z3, by rw [hlN]⟩)))
      clear z1 z2 z3 hln hlN
      go_wp2
      refine end_line rfl (gb + 1) (gb + 2) rfl rfl rfl (load13v hdone.out.1) (load4p hdone.out.2.1) ?_
      exact hdone.out.2.2
    · have h3g := h3.lt
      have hrl := rrule_walk (t.size + 1) g t s.size 0 w3 h3 (by omega) hgN hL3 hM3 (Nat.lt_succ_self _)
      obtain ⟨hlE, hlS⟩ := hlineS.out hst
      obtain ⟨R, hR⟩ : ∃ R, ruleP gramT t s.size (t.size + 1) 0 = R := ⟨_, rfl⟩
      rw [hR] at hrl hlE hlS
      clear hst hlineN hlineS h3 hL3 hM3 hln3
      go_wp2_with fail
      refine hrl.mono ?_
      rintro en w4 ⟨ho4, hm⟩
      have hln4 := hln.only ho4 (by omega) (by omega) (by omega)
      have hbo4 : Below w3.heap.size w3 w4 ∨ True := .inr trivial
      have hbw4 := hbw3.trans (Only.below ho4 (by omega) hbw3.size)
      clear hrl hln hbo4
      cases R with
      | error y =>
        obtain ⟨hbad, nm, wt, kd, f0, f1, fA, fl, fc, s0, s1, sA, sl', sc, mm, ps, rfl⟩ := hm
        have hlE := hlE y rfl
        obtain ⟨w5, hw5⟩ : ∃ w5, w4.alloc (.cells #[.string nm, .int .i64 wt, .int .i64 kd, .int .i64 f0, .string f1, .slice fA fl fc, .int .i64 s0, .string s1, .slice sA sl' sc, .int .i64 mm, .slice none 0 0, .slice none 0 0, .int .i64 0] 43) = w5 := ⟨_, rfl⟩
        obtain ⟨r12, hr12⟩ : ∃ r12, w4.heap.size = r12 := ⟨_, rfl⟩
        have hb5 : Below w4.heap.size w4 w5 := by rw [← hw5]; exact ext_alloc (Below.refl _ _) _
        have hrow12 : RowV 43 w5 r12 [.string nm, .int .i64 wt, .int .i64 kd, .int .i64 f0, .string f1, .slice fA fl fc, .int .i64 s0, .string s1, .slice sA sl' sc, .int .i64 mm, .slice none 0 0, .slice none 0 0, .int .i64 0] := ⟨_, by rw [← hw5, ← hr12]; exact heap_alloc_new _ _, rfl⟩
        have hln := hln4.later hb5
        have hbw5 := ext_trans hbw4 (hb5)
        obtain ⟨p, x, fr, hrr, h0, -⟩ := hbad.later hb5
        have hg := rgood_walk g t s.size p x fr _ _ w5 hrr
        rw [show (y.2 == 0) = false from by rw [beq_eq_false_iff_ne]; exact h0] at hg
        obtain ⟨-, -, -, -, -, rc8', -, hgl⟩ := rr_cells hrr
        obtain ⟨rc5', rc6', rc7'⟩ := rr_more hrr
        obtain ⟨y1, y2⟩ := y
        replace hlE := hide hlE
        clear hR hlS hb5 hbad hrr hln4 hS3 hWd3 hDy3
        unfold ruleV
        replace hw5 := hide hw5
        go_upto_region 7 with fail
        rw [hw5.out]
        go_upto_region 8 with (go_at_call 100; refine hg.mono ?_; rintro en w' ⟨rfl, rfl⟩)
        (
                have rc0 := hln.rule.get (j := 0) rfl
                have rc1 := hln.rule.get (j := 1) rfl
                have rc2 := hln.rule.get (j := 2) rfl
                have rc3 := hln.rule.get (j := 3) rfl
                have rc4 := hln.rule.get (j := 4) rfl
                have rc5 := hln.rule.get (j := 5) rfl
                have rc6 := hln.rule.get (j := 6) rfl
                have rc7 := hln.rule.get (j := 7) rfl
                have rc8 := hln.rule.get (j := 8) rfl
                have rc9 := hln.rule.get (j := 9) rfl
                have rc10 := hln.rule.get (j := 10) rfl
                have rc11 := hln.rule.get (j := 11) rfl
                have rc12 := hln.rule.get (j := 12) rfl
                have rf0 := hln.rule.free 0
                have rf1 := hln.rule.free 1
                have rf2 := hln.rule.free 2
                have rf3 := hln.rule.free 3
                have rf4 := hln.rule.free 4
                have rf5 := hln.rule.free 5
                have rf6 := hln.rule.free 6
                have rf7 := hln.rule.free 7
                have rf8 := hln.rule.free 8
                have rf9 := hln.rule.free 9
                have rf10 := hln.rule.free 10
                have rf11 := hln.rule.free 11
                have rf12 := hln.rule.free 12
                have pc0 := hln.prob.get (j := 0) rfl
                have pc1 := hln.prob.get (j := 1) rfl
                have pc2 := hln.prob.get (j := 2) rfl
                have pc3 := hln.prob.get (j := 3) rfl
                have pf0 := hln.prob.free 0
                have pf1 := hln.prob.free 1
                have pf2 := hln.prob.free 2
                have pf3 := hln.prob.free 3
                have rll := hln.rule.lt
                have pll := hln.prob.lt)
        (
                have ua := hrow12.get (j := 0) rfl
                have ub := hrow12.get (j := 1) rfl
                have uc := hrow12.get (j := 2) rfl
                have ud := hrow12.get (j := 3) rfl
                have ue := hrow12.get (j := 4) rfl
                have uf := hrow12.get (j := 5) rfl
                have ug := hrow12.get (j := 6) rfl
                have uh := hrow12.get (j := 7) rfl
                have ui := hrow12.get (j := 8) rfl
                have uj := hrow12.get (j := 9) rfl
                have uk := hrow12.get (j := 10) rfl
                have ul := hrow12.get (j := 11) rfl
                have um := hrow12.get (j := 12) rfl
                have urow := hrow12.lt)
        obtain ⟨z1, z2, z3, -, -⟩ := set17_done hln.rule hln.prob (by omega) hbw5 (by omega) (by omega) (.string nm) (.int .i64 wt) (.int .i64 kd) (.int .i64 f0) (.string f1) (.slice fA fl fc) (.int .i64 s0) (.string s1) (.slice sA sl' sc) (.int .i64 mm) (.slice none 0 0) (.slice none 0 0) (.int .i64 0) (.int .i64 0) (.int .i64 0) (.int .i64 ((y1 : Int) + 1)) (.int .i64 y2)
        have hd0 : ∀ V : World, Below V.heap.size V V.drew := fun V => ext_drew (Below.refl _ _)
        have hdone := hide (And.intro (z1.later (hd0 _)) (And.intro (z2.later (hd0 _)) (show LineG d sl b m wk s w (.returned (.tuple #[.agg #[.string nm, .int .i64 wt, .int .i64 kd, .int .i64 f0, .string f1, .slice fA fl fc, .int .i64 s0, .string s1, .slice sA sl' sc, .int .i64 mm, .slice none 0 0, .slice none 0 0, .int .i64 0], prV ((y1 : Int) + 1) y2])) _ from ⟨ext_drew z3, by rw [hlE.out]; exact ⟨h0, _, ⟨nm, f1, s1, wt, kd, f0, s0, mm, 0, fA, sA, none, none, fl, fc, sl', sc, 0, 0, 0, 0, rfl⟩, rfl⟩⟩)))
        clear z1 z2 z3 hln hlE hrow12 hd0 h0 hg
        go_region
        go_wp2
        refine end_line rfl (gb + 1) (gb + 2) rfl rfl rfl (load13v hdone.out.1) (load4p hdone.out.2.1) ?_
        exact hdone.out.2.2
      | ok z =>
        obtain ⟨u, bz⟩ := z
        obtain ⟨⟨p, x, fr, hrr⟩, v, ⟨f0, f1, fA, fl, fc, s0, s1, sA, sl', sc, A, c, rfl, hrep1, hrep2, hpc, hparts⟩, rfl⟩ := hm
        have hlO : lineP gramT s = some (.ok u) := hlS u bz rfl
        obtain ⟨⟨hz1, hz2⟩, hpl, hpz, hpj⟩ := rule_fits (Nat.le_trans hts hs) hR
        obtain ⟨nm, wt, kd, nn, s1', s2', parts⟩ := u
        dsimp only at hrep1 hrep2 hpc hparts hz1 hz2 hpl hpz hpj ⊢
        obtain ⟨F, hF⟩ : ∃ F, finR d sl b m wk 0 ⟨nm, wt, kd, nn, s1', s2', parts⟩ = F := ⟨_, rfl⟩
        obtain ⟨N, hN⟩ : ∃ N, parts.length = N := ⟨_, rfl⟩
        rw [hN] at hpc hpl ⊢
        obtain ⟨w5, hw5⟩ : ∃ w5, w4.alloc (.cells #[.string nm, .int .i64 wt, .int .i64 kd, .int .i64 f0, .string f1, .slice fA fl fc, .int .i64 s0, .string s1, .slice sA sl' sc, .int .i64 nn, .slice none 0 0, .slice none 0 0, .int .i64 0] 43) = w5 := ⟨_, rfl⟩
        obtain ⟨r12, hr12⟩ : ∃ r12, w4.heap.size = r12 := ⟨_, rfl⟩
        have hb5 : Below w4.heap.size w4 w5 := by rw [← hw5]; exact ext_alloc (Below.refl _ _) _
        have hrow12 : RowV 43 w5 r12 [.string nm, .int .i64 wt, .int .i64 kd, .int .i64 f0, .string f1, .slice fA fl fc, .int .i64 s0, .string s1, .slice sA sl' sc, .int .i64 nn, .slice none 0 0, .slice none 0 0, .int .i64 0] := ⟨_, by rw [← hw5, ← hr12]; exact heap_alloc_new _ _, rfl⟩
        have hln := hln4.later hb5
        have hbw5 := ext_trans hbw4 (hb5)
        have h34 : w3.heap.size ≤ r12 := by have := ho4.size; omega
        have h53 : w5.heap.size = r12 + 1 := by rw [← hw5, World.size_alloc, hr12]
        have hK : KeptS (fun b => w3.heap.size ≤ b ∧ b < r12) s1' [.int .i64 f0, .string f1, .slice fA fl fc] s2' [.int .i64 s0, .string s1, .slice sA sl' sc] A parts w5 :=
          ⟨kSel.kept hrep1 fun b hb hlt => ⟨⟨hb, by omega⟩, by omega, hb5.block b hlt⟩, kSel.kept hrep2 fun b hb hlt => ⟨⟨hb, by omega⟩, by omega, hb5.block b hlt⟩, hparts.kept fun b hb hlt => ⟨⟨hb, by omega⟩, by omega, hb5.block b hlt⟩⟩
        have hS5 := (hS3.after (by exact Below.refl _ _) : Std w3).go (Nat.le_trans ho4.size hb5.size) (fun k hk => (hb5.block k (by have := hS3.big; have := ho4.size; omega)).trans (ho4.block k (by have := hS3.big; omega) (by intro e; injection e with e; omega)))
        have hWd5 : Wds w5 := by obtain ⟨tt, rr, h9⟩ := hWd3; exact ⟨tt, rr, (hb5.block _ (Nat.lt_of_lt_of_le (blk_lt h9) ho4.size)).trans ((ho4.block _ (blk_lt h9) (by intro e; injection e with e; omega)).trans h9)⟩
        have hDy5 : Dys w5 := by obtain ⟨tt, rr, h9⟩ := hDy3; exact ⟨tt, rr, (hb5.block _ (Nat.lt_of_lt_of_le (blk_lt h9) ho4.size)).trans ((ho4.block _ (blk_lt h9) (by intro e; injection e with e; omega)).trans h9)⟩
        have hg := rgood_walk g t s.size p x fr _ _ w5 (hrr.later hb5)
        rw [show ((0 : Int) == 0) = true from rfl] at hg
        replace hlO := hide hlO
        replace hF := hide hF
        replace hpz := hide hpz
        replace hpj := hide hpj
        replace hN := hide hN
        clear hR hlS hlE hb5 hrr hln4 hS3 hWd3 hDy3 hrep1 hrep2 hparts ho4
        unfold ruleV
        replace hw5 := hide hw5
        go_upto_region 7 with fail
        rw [hw5.out]
        obtain ⟨K10, e10⟩ : ∃ K, ((kd : Int) == 10) = K := ⟨_, rfl⟩
        obtain ⟨K11, e11⟩ : ∃ K, ((kd : Int) == 11) = K := ⟨_, rfl⟩
        have p10 : kd = 10 ↔ K10 = true := by rw [← e10, beq_iff_eq]; omega
        have p11 : kd = 11 ↔ K11 = true := by rw [← e11, beq_iff_eq]; omega
        have c2 := hrow12.get (j := 2) rfl
        have hrll := hrow12.lt
        replace p10 := hide p10
        replace p11 := hide p11
        go_upto_if 58 with (go_at_call 100; refine hg.mono ?_; rintro en w' ⟨rfl, rfl⟩)
        clear hg c2 hrll
        go_cut [14] (fun s14 V => ∃ (e0 : Int) (ts : List T4) (tA : Option Addr) (tc : Nat), s14 = .int .i64 e0 ∧ Only r12 w5 V ∧ RowV 43 V r12 [.string nm, .int .i64 wt, .int .i64 kd, .int .i64 f0, .string f1, .slice fA fl fc, .int .i64 s0, .string s1, .slice sA sl' sc, .int .i64 nn, .slice tA ts.length tc, .slice none 0 0, .int .i64 0] ∧ At kTime (fun b => w5.heap.size ≤ b) V tA ts ∧ ts.length ≤ tc ∧ ts.length ≤ 1000000 ∧ Hid (e0 ≠ 0 → F = .error e0) ∧ Hid (e0 = 0 → K10 = true → F = checkR d sl b m wk (ruleOf ⟨nm, wt, kd, nn, s1', s2', parts⟩ 0 ts [])) ∧ Hid (K10 = false → ts = [] ∧ e0 = 0))
        case first =>
          cases K10 with
          | false =>
            go_wp2_with fail
            go_meet
            exact ⟨0, [], none, 0, rfl, Only.refl _ _, hrow12, fun h => absurd h (Nat.lt_irrefl 0), Nat.le_refl _, Nat.zero_le _, hide fun h => absurd rfl h, hide fun _ h => absurd h (by decide), hide fun _ => ⟨rfl, rfl⟩⟩
          | true =>
            have hk10 : kd = 10 := p10.out.2 rfl
            have hFr : Hid (F = if firstE (pieceE d sl b m wk) parts = 0 then checkR d sl b m wk (ruleOf ⟨nm, wt, kd, nn, s1', s2', parts⟩ 0 (parts.map (pieceV d sl b m wk)) []) else .error (firstE (pieceE d sl b m wk) parts)) := hide (by
              rw [← hF.out]
              unfold finR
              rw [if_pos hk10])
            have hNp : parts.length = N := hN.out
            replace hNp := hide hNp
            replace hk10 := hide hk10
            clear hlO hF
            go_wp2_with fail
            go_loopw [14, 15] (fun ev i wr => ∃ (j : Nat) (e0 : Int) (tA : Option Addr) (n tc : Nat), j ≤ N ∧ i = .int .i64 j ∧ ev = .int .i64 e0 ∧ Hid (firstE (pieceE d sl b m wk) (parts.take j) = e0) ∧ Only r12 w5 wr ∧ RowV 43 wr r12 [.string nm, .int .i64 wt, .int .i64 kd, .int .i64 f0, .string f1, .slice fA fl fc, .int .i64 s0, .string s1, .slice sA sl' sc, .int .i64 nn, .slice tA n tc, .slice none 0 0, .int .i64 0] ∧ TimesOwn w5.heap.size wr (.slice tA n tc) ((parts.take j).map (pieceV d sl b m wk)) ∧ n = j) (fun _ i _ => N - (intOf i).toNat)
            case atStart => exact ⟨0, 0, none, 0, 0, Nat.zero_le _, rfl, rfl, hide rfl, Only.refl _ _, hrow12, World.ownsRow_nil _ _ _ _, rfl⟩
            case round =>
              obtain ⟨j, e0, tA, n, tc, hj, rfl, rfl, hfe, hor, hrw, hown, rfl⟩ := hrel
              have hjl : ((parts.take n).map (pieceV d sl b m wk)).length = n := by rw [List.length_map, List.length_take, hNp.out]; omega
              have hjq : n ≤ 1000000 := by omega
              by_cases hjn : n < N
              · by_cases he0 : e0 = 0
                · subst he0
                  obtain ⟨z, hz⟩ : ∃ z, parts[n]? = some z := ⟨_, List.getElem?_eq_getElem (by rw [hNp.out]; exact hjn)⟩
                  have hzz := hpz.out z (List.mem_of_getElem? hz)
                  obtain ⟨pb, po, vs, rfl, -, hpl9, hvs, hcl⟩ := (hK.only hor).parts.get hz
                  obtain rfl := rep_str.1 hvs
                  have hcz : wr.cell? ⟨pb, po + n, none⟩ = some (.string z) := by
                    have := hcl 0 _ rfl
                    rwa [show po + n * kStr.k + 0 = po + n from by simp [kStr]] at this
                  obtain ⟨x1, x2, x3, x4, er, hT⟩ : ∃ x1 x2 x3 x4 er, pieceT d sl b m wk z = (x1, x2, x3, x4, er) := ⟨_, _, _, _, _, rfl⟩
                  have hts : Hid ((parts.take (n + 1)).map (pieceV d sl b m wk) = (parts.take n).map (pieceV d sl b m wk) ++ [(x1, x2, x3, x4)]) := by
                    refine hide ((take_map _ parts n z hz).trans ?_); unfold pieceV; rw [hT]
                  have hes : Hid (firstE (pieceE d sl b m wk) (parts.take (n + 1)) = er) := by
                    refine hide ((take_first _ parts n z hz).trans ?_); rw [if_pos hfe.out]; unfold pieceE; rw [hT]
                  have hlnr := hln.only hor (by omega) (by omega) (by omega)
                  have hSr := hS5.go hor.size (fun k hk => hor.block k (by have := hS5.big; omega) (by intro e; injection e with e; have := hS5.big; omega))
                  have hWr : Wds wr := by obtain ⟨tt, rr, h9⟩ := hWd5; exact ⟨tt, rr, (hor.block _ (blk_lt h9) (by intro e; injection e with e; omega)).trans h9⟩
                  have hDr : Dys wr := by obtain ⟨tt, rr, h9⟩ := hDy5; exact ⟨tt, rr, (hor.block _ (blk_lt h9) (by intro e; injection e with e; omega)).trans h9⟩
                  have hst : TSt gb pb (po + n) d sl b m z wr := ⟨hlnr.grid.c0, hlnr.grid.c1, hlnr.grid.c2, hlnr.grid.c3, hcz, hSr, hWr, hDr⟩
                  obtain ⟨W1, hW1⟩ : ∃ W1, wr.alloc (.cells #[.int .i64 0, .int .i64 0, .int .i64 0, .int .i64 0] 67) = W1 := ⟨_, rfl⟩
                  obtain ⟨tb, htb⟩ : ∃ tb, wr.heap.size = tb := ⟨_, rfl⟩
                  have hb1 : Below wr.heap.size wr W1 := by rw [← hW1]; exact ext_alloc (Below.refl _ _) _
                  have hst1 := hst.later hb1
                  have hbt : Box4 W1 tb (.int .i64 0) (.int .i64 0) (.int .i64 0) (.int .i64 0) := by rw [← hW1, ← htb]; exact Box4.new _ _ _ _ _ _
                  have hfz : ∀ j, W1.frozen? ⟨tb, j, none⟩ = false := fun j => by
                    have h := heap_alloc_new wr (.cells #[.int .i64 0, .int .i64 0, .int .i64 0, .int .i64 0] 67)
                    rw [hW1, htb] at h
                    simp [World.frozen?, h]
                  have htl := hbt.lt
                  have hC := hst1.cells
                  have hgt : gb ≠ tb := by have := hor.size; omega
                  have hpt : pb ≠ tb := by omega
                  have hpc := hide (fun (V : World) (hV : Below W1.heap.size W1 V) => (piece_cut hT hzz (hst1.later hV)).mono fun e (w' : World) ⟨he, hb, hs, _, _⟩ => (⟨he, ext_trans hV hb, hs, cell_later (ext_trans hV hb) hbt.c0, cell_later (ext_trans hV hb) hbt.c1, cell_later (ext_trans hV hb) hbt.c2, cell_later (ext_trans hV hb) hbt.c3, fun j => ((ext_trans hV hb).frozen (p := ⟨tb, j, none⟩) htl).trans (hfz j)⟩ : e = Ending.returned (.tuple #[.agg #[.int .i64 x1, .int .i64 x2, .int .i64 x3, .int .i64 x4], .int .i64 er]) ∧ Below W1.heap.size W1 w' ∧ TS gb pb (po + n) d sl b m z w' ∧ World.cell? w' ⟨tb, 0, none⟩ = some (Value.int IntKind.i64 0) ∧ World.cell? w' ⟨tb, 1, none⟩ = some (Value.int IntKind.i64 0) ∧ World.cell? w' ⟨tb, 2, none⟩ = some (Value.int IntKind.i64 0) ∧ World.cell? w' ⟨tb, 3, none⟩ = some (Value.int IntKind.i64 0) ∧ ∀ j, World.frozen? w' ⟨tb, j, none⟩ = false))
                  have hbq : Below W1.heap.size W1 W1 := Below.refl _ _
                  have k0 : (0 : Int) ≤ (n : Int) := by omega
                  have k1 : (n : Int) < (N : Int) := by omega
                  replace hjl := hide hjl
                  replace hT := hide hT
                  clear hz hcl hvs hst hlnr hcz hSr hWr hDr hbt hst1 hfe
                  go_upto_region 15 with fail
                  have hCd := TS.drew hC
                  go_cut [14] (fun s14 wx => s14 = .int .i64 er ∧ Box4 wx tb (.int .i64 x1) (.int .i64 x2) (.int .i64 x3) (.int .i64 x4) ∧ Below wr.heap.size wr wx)
                  case first =>
                    go_region_held3 (fun W' => W'.cell? ⟨gb, 0, none⟩ = some (.int .i64 d) ∧ W'.cell? ⟨gb, 1, none⟩ = some (.int .i64 sl) ∧ W'.cell? ⟨gb, 2, none⟩ = some (.int .i64 b) ∧ W'.cell? ⟨gb, 3, none⟩ = some (.int .i64 m) ∧ W'.cell? ⟨pb, po + n, none⟩ = some (.string z)) (first | ((repeat (first | (with_reducible assumption) | (with_reducible refine TS.alloc ?_ _) | (with_reducible refine TS.drew ?_) | (with_reducible refine TS.set ?_ hgt hpt _))); done)) (first | (go_at_call 102; (with_reducible refine (hpc.out _ ?_).mono ?_); (repeat (first | (with_reducible assumption) | (with_reducible refine ext_alloc ?_ _) | (with_reducible refine ext_drew ?_))); rintro e w3 ⟨rfl, hb3, hx3, t0, t1, t2, t3, hq3⟩; have qq0 := hq3 0; have qq1 := hq3 1; have qq2 := hq3 2; have qq3 := hq3 3))
                    have hbw3' : Below wr.heap.size wr w3 := ext_trans hb1 hb3
                    have hb4s := box_same (fun i hi => by match i, hi with | 0, _ => exact ⟨_, t0⟩ | 1, _ => exact ⟨_, t1⟩ | 2, _ => exact ⟨_, t2⟩ | 3, _ => exact ⟨_, t3⟩) (.int .i64 x1) (.int .i64 x2) (.int .i64 x3) (.int .i64 x4)
                    have hbs := ext_set4 hbw3' (Nat.le_of_eq htb) (.int .i64 x1) (.int .i64 x2) (.int .i64 x3) (.int .i64 x4)
                    go_wp2_with fail
                    go_meet
                    first
                      | exact ⟨rfl, hb4s, hbs⟩
                      | exact ⟨rfl, hb4s.drew, ext_drew hbs⟩
                  case rest =>
                    obtain ⟨rfl, bT, hbx⟩ := hcut
                    rename World => wx
                    obtain ⟨t0, t1, t2, t3⟩ := id bT
                    have htlx := bT.lt
                    have hrwx := hrw.later hbx
                    have hownx := owns_later hown hbx
                    have hox := Only.later hor hbx
                    have c10 := hrwx.get (j := 10) rfl
                    have hrlx := hrwx.lt
                    obtain ⟨ts, hts0⟩ : ∃ ts, (parts.take n).map (pieceV d sl b m wk) = ts := ⟨_, rfl⟩
                    rw [hts0] at hownx hts
                    have hlts : ts.length = n := by rw [← hts0]; exact hjl.out
                    have hxs := hox.size
                    have hfar : some r12 ≠ (Value.slice tA n tc).ownBlock := own_far hownx (by omega)
                    have hhigh := own_high hownx (Nat.le_refl _)
                    obtain ⟨i0, hi, hz0, hz1, hz2⟩ := info_parts infoTime
                    clear hown hrw hor hC hCd hpc hts0 hb1 hbx bT hfz
                    go_wp2_with (at_builtin; refine wpList_append_own _ rfl _ _ 41 rfl w5.heap.size 67 i0 (.agg #[.int .i64 0, .int .i64 0, .int .i64 0, .int .i64 0]) 4 32 Tryz.underlying41 hi hz0 hz1 hz2 rfl (by decide) _ _ _ rfl (hownx.alloc _) ⟨wx.heap.size, 0, none⟩ 1 1 (encT (x1, x2, x3, x4)) rfl rfl (new_four _ _ _ _ _ _) (one_times _) ?c3 ?c4 ?c5 ?_)
                    case c3 => unfold maxLen; omega
                    case c4 => omega
                    case c5 => rw [World.size_alloc]; omega
                    intro v' w4 hown4 hgrow _
                    obtain ⟨A', c', rfl⟩ := owns_form hown4
                    have hrw4 := (hrwx.later (ext_alloc (Below.refl _ _) _)).grown hgrow hfar
                    have ho4 := (Only.later hox (ext_alloc (Below.refl _ _) _)).trans_own hgrow hhigh
                    have c10' := hrw4.get (j := 10) rfl
                    have f10' := hrw4.free 10
                    have hrl4 := hrw4.lt
                    have hr10 := hrw4.set 10 (.slice A' (ts.length + 1) c')
                    have ho6 : Only r12 w5 (w4.setCell ⟨r12, 10, none⟩ (.slice A' (ts.length + 1) c')) := only_setCell ho4 (.inl rfl) _
                    have hown6 := owns_only hown4 (only_setCell (p := ⟨r12, 10, none⟩) (Only.refl r12 _) (.inl rfl) (.slice A' (ts.length + 1) c')) (by omega)
                    have hT6 : TimesOwn w5.heap.size (w4.setCell ⟨r12, 10, none⟩ (.slice A' (ts.length + 1) c')) (.slice A' (ts.length + 1) c') (ts ++ [(x1, x2, x3, x4)]) := by rw [hlts] at hown6; unfold TimesOwn; rw [List.length_append, flatT_snoc, h53, hlts]; exact hown6
                    rw [hlts] at hr10 ho6 hT6
                    clear hown4 hown6 hownx hgrow hfar hhigh c10 t0 t1 t2 t3 hrwx hox hrw4 ho4
                    go_wp2
                    go_roundw
                    case rel => exact ⟨n + 1, er, A', n + 1, c', by omega, by go_num, rfl, hes, ho6, hr10, by rw [hts.out]; exact hT6, rfl⟩
                    case measure => simp [intOf]; omega
                · obtain ⟨hat, hcc⟩ := times_at hown hjl
                  have hend : Hid (firstE (pieceE d sl b m wk) parts = e0) := hide ((firstE_take (by rw [hfe.out]; exact he0)).trans hfe.out)
                  have hF1 : Hid (e0 ≠ 0 → F = .error e0) := hide fun h => by rw [hFr.out, hend.out, if_neg h]
                  have he1 : (e0 == 0) = false := by rw [beq_eq_false_iff_ne]; exact he0
                  have hji : (n : Int) < (N : Int) := by omega
                  obtain ⟨ts, hts⟩ : ∃ ts, (parts.take n).map (pieceV d sl b m wk) = ts := ⟨_, rfl⟩
                  rw [hts] at hat hjl
                  have hF2 : Hid (e0 = 0 → true = true → F = checkR d sl b m wk (ruleOf ⟨nm, wt, kd, nn, s1', s2', parts⟩ 0 ts [])) := hide fun h => absurd h he0
                  rw [← hjl] at hrw
                  have htl1 : ts.length ≤ tc := by omega
                  have htl2 : ts.length ≤ 1000000 := by omega
                  replace he0 := hide he0
                  replace hjl := hide hjl
                  clear hown hFr hts hfe
                  go_wp2_with fail
                  go_meet
                  exact ⟨e0, ts, tA, tc, rfl, hor, hrw, hat, htl1, htl2, hF1, hF2, hide fun h => absurd h (by decide)⟩
              · obtain rfl : n = N := by omega
                have hall : parts.take n = parts := by rw [← hNp.out]; exact List.take_length
                rw [hall] at hfe hown hjl
                obtain ⟨hat, hcc⟩ := times_at hown hjl
                obtain ⟨ts, hts⟩ : ∃ ts, parts.map (pieceV d sl b m wk) = ts := ⟨_, rfl⟩
                rw [hts] at hat hjl
                have hF1 : Hid (e0 ≠ 0 → F = .error e0) := hide fun h => by rw [hFr.out, hfe.out, if_neg h]
                have hF2 : Hid (e0 = 0 → true = true → F = checkR d sl b m wk (ruleOf ⟨nm, wt, kd, nn, s1', s2', parts⟩ 0 ts [])) := hide fun h _ => by rw [hFr.out, hfe.out, if_pos h, hts]
                rw [← hjl] at hrw
                have htl1 : ts.length ≤ tc := by omega
                have htl2 : ts.length ≤ 1000000 := by omega
                replace hjl := hide hjl
                clear hown hFr hts hfe hall
                go_wp2_with fail
                go_meet
                exact ⟨e0, ts, tA, tc, rfl, hor, hrw, hat, htl1, htl2, hF1, hF2, hide fun h => absurd h (by decide)⟩
        case rest =>
          obtain ⟨e0, ts, tA, tc, rfl, hoV, hrV, hT, htc, htl, hF1, hF2, hF3⟩ := hcut
          rename World => w6
          have c2 := hrV.get (j := 2) rfl
          have hrll := hrV.lt
          go_upto_if 87 with fail
          clear c2 hrll
          go_cut [14] (fun s14 V => ∃ (e0 : Int) (ts : List T4) (tA : Option Addr) (tc : Nat) (xs : List ByteArray) (rA : Option Addr) (rc : Nat), s14 = .int .i64 e0 ∧ Only r12 w5 V ∧ RowV 43 V r12 [.string nm, .int .i64 wt, .int .i64 kd, .int .i64 f0, .string f1, .slice fA fl fc, .int .i64 s0, .string s1, .slice sA sl' sc, .int .i64 nn, .slice tA ts.length tc, .slice rA xs.length rc, .int .i64 0] ∧ At kTime (fun b => w5.heap.size ≤ b) V tA ts ∧ ts.length ≤ tc ∧ ts.length ≤ 1000000 ∧ At kStr (fun b => w5.heap.size ≤ b) V rA xs ∧ xs.length ≤ rc ∧ xs.length ≤ 1000000000000 ∧ Hid (e0 ≠ 0 → F = .error e0) ∧ Hid (e0 = 0 → F = checkR d sl b m wk (ruleOf ⟨nm, wt, kd, nn, s1', s2', parts⟩ 0 ts xs)))
          case first =>
            cases K11 with
            | false =>
              have hF4 : Hid (e0 = 0 → F = checkR d sl b m wk (ruleOf ⟨nm, wt, kd, nn, s1', s2', parts⟩ 0 ts [])) := hide fun h0 => by
                cases hk : K10 with
                | true => exact hF2.out h0 hk
                | false =>
                  obtain ⟨rfl, -⟩ := hF3.out hk
                  have h10 : ¬ kd = 10 := fun h => by have := p10.out.1 h; rw [hk] at this; cases this
                  have h11 : ¬ kd = 11 := fun h => by have := p11.out.1 h; cases this
                  rw [← hF.out]
                  unfold finR
                  rw [if_neg h10, if_neg h11]
              clear hF2 hF3
              go_wp2_with fail
              go_meet
              exact ⟨e0, ts, tA, tc, [], none, 0, rfl, hoV, hrV, hT, htc, htl, fun h => absurd h (Nat.lt_irrefl 0), Nat.le_refl _, Nat.zero_le _, hF1, hF4⟩
            | true =>
              have hk11 : kd = 11 := p11.out.2 rfl
              have hk10 : K10 = false := by
                cases hq : K10 with
                | false => rfl
                | true => have := p10.out.2 hq; omega
              obtain ⟨rfl, rfl⟩ := hF3.out hk10
              obtain ⟨n9, l9, hV9⟩ : ∃ n9 l9, listV (joinP parts) = (n9, l9) := ⟨_, _, rfl⟩
              have hl64 : l9.length ≤ 64 := by have := listV_len64 (joinP parts); rw [hV9] at this; exact this
              have hFr : Hid (F = if n9 = 0 then checkR d sl b m wk (ruleOf ⟨nm, wt, kd, nn, s1', s2', parts⟩ 0 [] l9) else .error (n9 : Int)) := hide (by
                rw [← hF.out]
                unfold finR
                rw [if_neg (show ¬ kd = 10 by omega), if_pos hk11]
                show (if (listV (joinP parts)).1 = 0 then _ else _) = _
                rw [hV9])
              have hS6 := hS5.go hoV.size (fun k hk => hoV.block k (by have := hS5.big; omega) (by intro e; injection e with e; have := hS5.big; omega))
              have hpa := (hK.only hoV).parts
              have hNp : parts.length = N := hN.out
              replace hV9 := hide hV9
              replace hNp := hide hNp
              replace hk11 := hide hk11
              have hrVh := hide hrV
              have hTh := hide hT
              have hoVh := hide hoV
              clear hF1 hF2 hF3 hrV hT hoV hK hrow12
              go_wp2_with fail
              go_loopw [17, 18] (fun sv i wr => ∃ j : Nat, j ≤ N ∧ i = .int .i64 j ∧ sv = .string (joinP (parts.take j)) ∧ Below w6.heap.size w6 wr) (fun _ i _ => N - (intOf i).toNat)
              case atStart => exact ⟨0, Nat.zero_le _, rfl, rfl, Below.refl _ _⟩
              case round =>
                obtain ⟨j, hj, rfl, rfl, hbr⟩ := hrel
                by_cases hjn : j < N
                · obtain ⟨z, hz⟩ : ∃ z, parts[j]? = some z := ⟨_, List.getElem?_eq_getElem (by rw [hNp.out]; exact hjn)⟩
                  obtain ⟨pb, po, vs, rfl, -, hpl9, hvs, hcl⟩ := (hpa.later hbr).get hz
                  obtain rfl := rep_str.1 hvs
                  have hcz : wr.cell? ⟨pb, po + j, none⟩ = some (.string z) := by
                    have := hcl 0 _ rfl
                    rwa [show po + j * kStr.k + 0 = po + j from by simp [kStr]] at this
                  have hst := joinP_step hz
                  have hle := joinP_le parts (j := j + 1) (by rw [hNp.out]; exact hjn)
                  have hpj' := hpj.out
                  obtain ⟨J, hJ⟩ : ∃ J, joinP (parts.take j) = J := ⟨_, rfl⟩
                  obtain ⟨J1, hJ1⟩ : ∃ J1, joinP (parts.take (j + 1)) = J1 := ⟨_, rfl⟩
                  rw [hJ, hJ1] at hst
                  rw [hJ1] at hle
                  rw [hJ]
                  have k0 : (0 : Int) ≤ (j : Int) := by omega
                  have k1 : (j : Int) < (N : Int) := by omega
                  replace hJ1 := hide hJ1
                  by_cases h0 : j = 0
                  · rw [if_pos h0] at hst
                    have hJe : J = ⟨#[]⟩ := by rw [← hJ, h0]; rfl
                    have hJz : Hid (J ++ z = J1) := hide (by rw [hJe, hst]; apply ByteArray.ext; simp [ByteArray.data_append])
                    have hJs : J.size = 0 := by rw [hJe]; rfl
                    have hA1 : (9223372036854775807 < J.size + z.size) = False := eq_false (by rw [hst] at hle; omega)
                    have k2 : ¬ (0 : Int) < (j : Int) := by omega
                    replace h0 := hide h0
                    clear hz hcl hvs hJ hst hJe hJs hle
                    go_wp2
                    refine ⟨⟨j + 1, by omega, by go_num, by rw [hJ1.out, ← hJz.out], hbr⟩, by simp [intOf]; omega⟩
                  · rw [if_neg h0] at hst
                    have hsz : J1.size = J.size + 1 + z.size := by rw [hst, ByteArray.size_append, ByteArray.size_append]; rfl
                    have k2 : (0 : Int) < (j : Int) := by omega
                    have hA1 : (9223372036854775807 < J.size + 1) = False := eq_false (by omega)
                    have hA2 : (9223372036854775807 < (J ++ (⟨#[59]⟩ : ByteArray)).size + z.size) = False := eq_false (by rw [ByteArray.size_append]; show ¬ 9223372036854775807 < J.size + 1 + z.size; omega)
                    have hB1 : J.size + 1 ≤ 9223372036854775807 := by omega
                    have hB2 : (J ++ (⟨#[59]⟩ : ByteArray)).size + z.size ≤ 9223372036854775807 := by rw [ByteArray.size_append]; show J.size + 1 + z.size ≤ _; omega
                    have hB3 : J.size + 1 + z.size ≤ 9223372036854775807 := by omega
                    replace hst := hide hst
                    clear hz hcl hvs hJ hsz
                    go_wp2
                    all_goals try (exfalso; omega)
                    refine ⟨⟨j + 1, by omega, by go_num, by rw [hJ1.out, hst.out], hbr⟩, by simp [intOf]; omega⟩
                · obtain rfl : j = N := by omega
                  have hall : parts.take j = parts := by rw [← hNp.out]; exact List.take_length
                  rw [hall]
                  have hl := r3list_walk (joinP parts) wr (hS6.after hbr) hpj.out
                  rw [hV9.out] at hl
                  clear hall
                  go_wp2_with fail
                  refine hl.mono ?_
                  rintro e w8 ⟨v, rfl, hown, hb8⟩
                  have hb68 := ext_trans hbr hb8
                  obtain ⟨A', c', rfl, hc', hat⟩ := hown.at
                  have hrV8 := hrVh.out.later hb68
                  have c11 := hrV8.get (j := 11) rfl
                  have f11 := hrV8.free 11
                  have hrl8 := hrV8.lt
                  have hrV9 := hrV8.set 11 (.slice A' l9.length c')
                  have ho9 : Only r12 w5 (w8.setCell ⟨r12, 11, none⟩ (.slice A' l9.length c')) := only_setCell (Only.later hoVh.out hb68) (.inl rfl) _
                  have hT9 : At kTime (fun b => w5.heap.size ≤ b) (w8.setCell ⟨r12, 11, none⟩ (.slice A' l9.length c')) tA ([] : List T4) := fun h => absurd h (Nat.lt_irrefl 0)
                  have hsz5 := hoVh.out.size
                  have hszr := hbr.size
                  have hat9 : At kStr (fun b => w5.heap.size ≤ b) (w8.setCell ⟨r12, 11, none⟩ (.slice A' l9.length c')) A' l9 := hat.kept fun x hx hlt => by
                    have hx2 : wr.heap.size ≤ x := by
                      rcases hx with h | ⟨h, -⟩
                      · omega
                      · exact h
                    exact ⟨by omega, by simpa [World.setCell] using hlt, Below.heap_setCell _ _ _ x (by show x ≠ r12; omega)⟩
                  have hFr1 : Hid (((n9 : Nat) : Int) ≠ 0 → F = .error (n9 : Int)) := hide fun h => by rw [hFr.out, if_neg (by omega)]
                  have hFr2 : Hid (((n9 : Nat) : Int) = 0 → F = checkR d sl b m wk (ruleOf ⟨nm, wt, kd, nn, s1', s2', parts⟩ 0 [] l9)) := hide fun h => by rw [hFr.out, if_pos (by omega)]
                  clear hl hown hat hrV8 hFr
                  go_wp2_with fail
                  go_meet
                  exact ⟨_, [], tA, tc, l9, A', c', rfl, ho9, hrV9, hT9, htc, Nat.zero_le _, hat9, hc', by omega, hFr1, hFr2⟩
          case rest =>
            clear hoV hrV hT hF1 hF2 hF3 htc htl hrow12
            obtain ⟨e0, ts, tA, tc, xs, rA, rc, rfl, hoV, hrV, hT, htc, htl, hX, hxc, hxl, hF1, hF2⟩ := hcut
            rename World => wV
            have hlnV := hln.only hoV (by omega) (by omega) (by omega)
            have hKV := hK.only hoV
            have hbwV := hbw5.trans (Only.below hoV (by omega) hbw5.size)
            clear hln hK hbw5
            by_cases he : e0 = 0
            · subst he
              have hFF := hF2.out rfl
              have hV := r14valid_walk (ruleOf ⟨nm, wt, kd, nn, s1', s2', parts⟩ 0 ts xs) ⟨hz1, hz2, by show ts.length ≤ _; omega, by show xs.length ≤ _; omega⟩ d sl b m wk f1 s1 f0 s0 fA sA tA rA fl fc sl' sc tc rc wV hxc (kSel.more hKV.fst fun _ _ => trivial) (kSel.more hKV.snd fun _ _ => trivial) (hT.more fun _ _ => trivial) (hX.more fun _ _ => trivial)
              replace hV : Calls Tryz.prog 17 #[.agg #[.string nm, .int .i64 wt, .int .i64 kd, .int .i64 f0, .string f1, .slice fA fl fc, .int .i64 s0, .string s1, .slice sA sl' sc, .int .i64 nn, .slice tA ts.length tc, .slice rA xs.length rc, .int .i64 0], .agg #[.int .i64 d, .int .i64 sl, .int .i64 b, .int .i64 m], .int .i64 wk] wV fun e w' => e = .returned (.int .i64 (ruleE d sl b m wk (ruleOf ⟨nm, wt, kd, nn, s1', s2', parts⟩ 0 ts xs))) ∧ Below wV.heap.size wV w' := hV
              obtain ⟨E, hE⟩ : ∃ E, ruleE d sl b m wk (ruleOf ⟨nm, wt, kd, nn, s1', s2', parts⟩ 0 ts xs) = E := ⟨_, rfl⟩
              rw [hE] at hV
              unfold checkR at hFF
              rw [hE] at hFF
              replace hFF := hide hFF
              replace hE := hide hE
              have hrow12 := hrV
              (
                      have ua := hrow12.get (j := 0) rfl
                      have ub := hrow12.get (j := 1) rfl
                      have uc := hrow12.get (j := 2) rfl
                      have ud := hrow12.get (j := 3) rfl
                      have ue := hrow12.get (j := 4) rfl
                      have uf := hrow12.get (j := 5) rfl
                      have ug := hrow12.get (j := 6) rfl
                      have uh := hrow12.get (j := 7) rfl
                      have ui := hrow12.get (j := 8) rfl
                      have uj := hrow12.get (j := 9) rfl
                      have uk := hrow12.get (j := 10) rfl
                      have ul := hrow12.get (j := 11) rfl
                      have um := hrow12.get (j := 12) rfl
                      have urow := hrow12.lt)
              obtain ⟨g0, g1, g2, g3⟩ := hlnV.grid
              have hgl := hlnV.grid.lt
              clear hF1 hF2
              have hrVh := hide hrV
              have hKVh := hide hKV
              have hlnVh := hide hlnV
              have hTh := hide hT
              have hXh := hide hX
              clear hrow12 hrV hKV hlnV hT hX
              have hbwVh := hide hbwV
              obtain ⟨nt, hnt⟩ : ∃ nt, ts.length = nt := ⟨_, rfl⟩
              obtain ⟨nr, hnr⟩ : ∃ nr, xs.length = nr := ⟨_, rfl⟩
              rw [hnt] at uk hV
              rw [hnr] at ul hV
              replace hnt := hide hnt
              replace hnr := hide hnr
              replace htc := hide htc
              replace hxc := hide hxc
              replace htl := hide htl
              replace hxl := hide hxl
              go_wp2_with fail
              refine hV.mono ?_
              rintro e wW ⟨rfl, hbW⟩
              clear hV ua ub uc ud ue uf ug uh ui uj uk ul um g0 g1 g2 g3 urow hgl
              have hrV := hrVh.out
              have hKV := hKVh.out
              have hlnV := hlnVh.out
              have hT := hTh.out
              have hX := hXh.out
              have htc := htc.out
              have hxc := hxc.out
              have htl := htl.out
              have hxl := hxl.out
              have hrow12 := hrV.later hbW
              have hln := hlnV.later hbW
              have hTW := hT.later hbW
              have hXW := hX.later hbW
              have hKW := hKV.kept (S' := fun b => w3.heap.size ≤ b ∧ b < r12) (V' := wW) fun b hb hlt => ⟨hb, Nat.lt_of_lt_of_le hlt hbW.size, hbW.block b hlt⟩
              have hbwW := ext_trans hbwV hbW
              have hs5 := hoV.size
              (
                      have rc0 := hln.rule.get (j := 0) rfl
                      have rc1 := hln.rule.get (j := 1) rfl
                      have rc2 := hln.rule.get (j := 2) rfl
                      have rc3 := hln.rule.get (j := 3) rfl
                      have rc4 := hln.rule.get (j := 4) rfl
                      have rc5 := hln.rule.get (j := 5) rfl
                      have rc6 := hln.rule.get (j := 6) rfl
                      have rc7 := hln.rule.get (j := 7) rfl
                      have rc8 := hln.rule.get (j := 8) rfl
                      have rc9 := hln.rule.get (j := 9) rfl
                      have rc10 := hln.rule.get (j := 10) rfl
                      have rc11 := hln.rule.get (j := 11) rfl
                      have rc12 := hln.rule.get (j := 12) rfl
                      have rf0 := hln.rule.free 0
                      have rf1 := hln.rule.free 1
                      have rf2 := hln.rule.free 2
                      have rf3 := hln.rule.free 3
                      have rf4 := hln.rule.free 4
                      have rf5 := hln.rule.free 5
                      have rf6 := hln.rule.free 6
                      have rf7 := hln.rule.free 7
                      have rf8 := hln.rule.free 8
                      have rf9 := hln.rule.free 9
                      have rf10 := hln.rule.free 10
                      have rf11 := hln.rule.free 11
                      have rf12 := hln.rule.free 12
                      have pc0 := hln.prob.get (j := 0) rfl
                      have pc1 := hln.prob.get (j := 1) rfl
                      have pc2 := hln.prob.get (j := 2) rfl
                      have pc3 := hln.prob.get (j := 3) rfl
                      have pf0 := hln.prob.free 0
                      have pf1 := hln.prob.free 1
                      have pf2 := hln.prob.free 2
                      have pf3 := hln.prob.free 3
                      have rll := hln.rule.lt
                      have pll := hln.prob.lt)
              (
                      have ua := hrow12.get (j := 0) rfl
                      have ub := hrow12.get (j := 1) rfl
                      have uc := hrow12.get (j := 2) rfl
                      have ud := hrow12.get (j := 3) rfl
                      have ue := hrow12.get (j := 4) rfl
                      have uf := hrow12.get (j := 5) rfl
                      have ug := hrow12.get (j := 6) rfl
                      have uh := hrow12.get (j := 7) rfl
                      have ui := hrow12.get (j := 8) rfl
                      have uj := hrow12.get (j := 9) rfl
                      have uk := hrow12.get (j := 10) rfl
                      have ul := hrow12.get (j := 11) rfl
                      have um := hrow12.get (j := 12) rfl
                      have urow := hrow12.lt)
              have hLG : ∀ WF : World, Below w.heap.size w WF → WF.heap.size = wW.heap.size → (∀ c, c ≠ gb + 1 → c ≠ gb + 2 → WF.heap[c]? = wW.heap[c]?) → LineG d sl b m wk s w (.returned (.tuple #[.agg #[.string nm, .int .i64 wt, .int .i64 kd, .int .i64 f0, .string f1, .slice fA fl fc, .int .i64 s0, .string s1, .slice sA sl' sc, .int .i64 nn, .slice tA ts.length tc, .slice rA xs.length rc, .int .i64 0], prV 0 E])) WF := fun WF z3 z4 z5 => ⟨z3, by
                rw [hlO.out]
                show match finR d sl b m wk 0 ⟨nm, wt, kd, nn, s1', s2', parts⟩ with | .error c => _ | .ok r => _
                rw [hF.out, hFF.out]
                by_cases hE0 : E = 0
                · rw [if_pos hE0, hE0]
                  refine ⟨_, _, _, _, _, _, _, _, _, _, _, _, _, rfl, ?_⟩
                  refine ⟨f0, f1, fA, fl, fc, s0, s1, sA, sl', sc, tA, tc, rA, rc, rfl, ?_, ?_, htc, ?_, hxc, ?_⟩
                  · exact kSel.kept hKW.fst fun b hb hlt => ⟨by omega, by omega, z5 b (by omega) (by omega)⟩
                  · exact kSel.kept hKW.snd fun b hb hlt => ⟨by omega, by omega, z5 b (by omega) (by omega)⟩
                  · exact hTW.kept fun b hb hlt => ⟨by omega, by omega, z5 b (by omega) (by omega)⟩
                  · exact hXW.kept fun b hb hlt => ⟨by omega, by omega, z5 b (by omega) (by omega)⟩
                · rw [if_neg hE0]
                  exact ⟨hE0, _, ⟨nm, f1, s1, wt, kd, f0, s0, nn, 0, fA, sA, tA, rA, fl, fc, sl', sc, ts.length, tc, xs.length, rc, rfl⟩, rfl⟩⟩
              obtain ⟨z1, z2, z3, z4, z5⟩ := set17_done hln.rule hln.prob (by omega) hbwW (by omega) (by omega) (.string nm) (.int .i64 wt) (.int .i64 kd) (.int .i64 f0) (.string f1) (.slice fA fl fc) (.int .i64 s0) (.string s1) (.slice sA sl' sc) (.int .i64 nn) (.slice tA ts.length tc) (.slice rA xs.length rc) (.int .i64 0) (.int .i64 0) (.int .i64 0) (.int .i64 0) (.int .i64 E)
              have hdone := hide (And.intro z1 (And.intro z2 (hLG _ z3 z4 z5)))
              clear hLG
              clear z1 z2 z3 z4 z5 hln hrow12 hTW hXW hKW hT hX hKV hlnV hrV
              go_wp2
              refine end_line rfl (gb + 1) (gb + 2) rfl rfl rfl (load13v hdone.out.1) (load4p hdone.out.2.1) ?_
              exact hdone.out.2.2
            · have hFF := hF1.out he
              have hln := hlnV
              have hrow12 := hrV
              have he0 : (e0 == 0) = false := by rw [beq_eq_false_iff_ne]; exact he
              (
                      have rc0 := hln.rule.get (j := 0) rfl
                      have rc1 := hln.rule.get (j := 1) rfl
                      have rc2 := hln.rule.get (j := 2) rfl
                      have rc3 := hln.rule.get (j := 3) rfl
                      have rc4 := hln.rule.get (j := 4) rfl
                      have rc5 := hln.rule.get (j := 5) rfl
                      have rc6 := hln.rule.get (j := 6) rfl
                      have rc7 := hln.rule.get (j := 7) rfl
                      have rc8 := hln.rule.get (j := 8) rfl
                      have rc9 := hln.rule.get (j := 9) rfl
                      have rc10 := hln.rule.get (j := 10) rfl
                      have rc11 := hln.rule.get (j := 11) rfl
                      have rc12 := hln.rule.get (j := 12) rfl
                      have rf0 := hln.rule.free 0
                      have rf1 := hln.rule.free 1
                      have rf2 := hln.rule.free 2
                      have rf3 := hln.rule.free 3
                      have rf4 := hln.rule.free 4
                      have rf5 := hln.rule.free 5
                      have rf6 := hln.rule.free 6
                      have rf7 := hln.rule.free 7
                      have rf8 := hln.rule.free 8
                      have rf9 := hln.rule.free 9
                      have rf10 := hln.rule.free 10
                      have rf11 := hln.rule.free 11
                      have rf12 := hln.rule.free 12
                      have pc0 := hln.prob.get (j := 0) rfl
                      have pc1 := hln.prob.get (j := 1) rfl
                      have pc2 := hln.prob.get (j := 2) rfl
                      have pc3 := hln.prob.get (j := 3) rfl
                      have pf0 := hln.prob.free 0
                      have pf1 := hln.prob.free 1
                      have pf2 := hln.prob.free 2
                      have pf3 := hln.prob.free 3
                      have rll := hln.rule.lt
                      have pll := hln.prob.lt)
              (
                      have ua := hrow12.get (j := 0) rfl
                      have ub := hrow12.get (j := 1) rfl
                      have uc := hrow12.get (j := 2) rfl
                      have ud := hrow12.get (j := 3) rfl
                      have ue := hrow12.get (j := 4) rfl
                      have uf := hrow12.get (j := 5) rfl
                      have ug := hrow12.get (j := 6) rfl
                      have uh := hrow12.get (j := 7) rfl
                      have ui := hrow12.get (j := 8) rfl
                      have uj := hrow12.get (j := 9) rfl
                      have uk := hrow12.get (j := 10) rfl
                      have ul := hrow12.get (j := 11) rfl
                      have um := hrow12.get (j := 12) rfl
                      have urow := hrow12.lt)
              obtain ⟨z1, z2, z3, z4, z5⟩ := set17_done hln.rule hln.prob (by omega) hbwV (by omega) (by omega) (.string nm) (.int .i64 wt) (.int .i64 kd) (.int .i64 f0) (.string f1) (.slice fA fl fc) (.int .i64 s0) (.string s1) (.slice sA sl' sc) (.int .i64 nn) (.slice tA ts.length tc) (.slice rA xs.length rc) (.int .i64 0) (.int .i64 0) (.int .i64 0) (.int .i64 0) (.int .i64 e0)
              have hdone := hide (And.intro z1 (And.intro z2 (show LineG d sl b m wk s w (.returned (.tuple #[.agg #[.string nm, .int .i64 wt, .int .i64 kd, .int .i64 f0, .string f1, .slice fA fl fc, .int .i64 s0, .string s1, .slice sA sl' sc, .int .i64 nn, .slice tA ts.length tc, .slice rA xs.length rc, .int .i64 0], prV 0 e0])) _ from ⟨z3, by
                rw [hlO.out]
                show match finR d sl b m wk 0 ⟨nm, wt, kd, nn, s1', s2', parts⟩ with | .error c => _ | .ok r => _
                rw [hF.out, hFF]
                exact ⟨he, _, ⟨nm, f1, s1, wt, kd, f0, s0, nn, 0, fA, sA, tA, rA, fl, fc, sl', sc, ts.length, tc, xs.length, rc, rfl⟩, rfl⟩⟩)))
              replace he := hide he
              clear z1 z2 z3 z4 z5 hln hrow12 hT hX hKV hlnV hrV hFF hF1 hF2
              go_wp2
              refine end_line rfl (gb + 1) (gb + 2) rfl rfl rfl (load13v hdone.out.1) (load4p hdone.out.2.1) ?_
              exact hdone.out.2.2
end Go.Proofs.YtdnnahdafhddlaaGreatDoor

namespace Go.Proofs.YtdnnahdafhddlaaGreatDoor
open Go.RowKit
set_option maxRecDepth 100000

/-- So many lines are done; r is left. -/
def RestAt (lines : List ByteArray) (r : ByteArray) (k : Nat) : Prop :=
  splitOn1 10 r.data.toList = (lines.drop k).map (fun z => z.data.toList) ∨ (r.size = 0 ∧ k = lines.length)
theorem rest_first (s : ByteArray) : RestAt (Lib.splitB ⟨#[10]⟩ 0 (Lib.countB s ⟨#[10]⟩) s) s 0 := .inl (by rw [List.drop_zero, splitB_one])
theorem drop_cons {α : Type} {l : List α} {k : Nat} {x : α} {r : List α} (h : l.drop k = x :: r) : l[k]? = some x ∧ l.drop (k + 1) = r := by
  constructor
  · have h2 := List.getElem?_drop (xs := l) (i := k) (j := 0)
    rw [h] at h2
    simpa using h2.symm
  · have h2 := List.drop_drop (l := l) (i := 1) (j := k)
    rw [h] at h2
    simpa using h2.symm
theorem ba_ext {a b : ByteArray} (h : a.data.toList = b.data.toList) : a = b := ByteArray.ext (Array.toList_inj.1 h)
theorem rest_cut {lines : List ByteArray} {r : ByteArray} {k : Nat} (h : RestAt lines r k) (hr : r.size ≠ 0) :
    ∃ s, lines[k]? = some s ∧ cut1 10 r.data.toList = (s.data.toList, r.data.toList.drop (passT (fun x => x != 10) r 0 + 1), decide (passT (fun x => x != 10) r 0 < r.size)) ∧ RestAt lines ⟨(r.data.toList.drop (passT (fun x => x != 10) r 0 + 1)).toArray⟩ (k + 1) := by
  rcases h with h | ⟨h, -⟩
  · have hc := pass_cut 10 r _ 0 rfl (Nat.zero_le _)
    rw [List.drop_zero] at hc
    rw [splitOn1_cut, hc] at h
    dsimp only at h
    have hle := passT_in (fun x => x != 10) r (Nat.zero_le r.size)
    cases hd : lines.drop k with
    | nil =>
      rw [hd] at h
      split at h <;> cases h
    | cons s q =>
      rw [hd] at h
      obtain ⟨h1, h2⟩ := drop_cons hd
      by_cases hp : passT (fun x => x != 10) r 0 < r.size
      · rw [if_pos (decide_eq_true hp)] at h
        injection h with h3 h4
        refine ⟨s, h1, ?_, .inl ?_⟩
        · rw [hc, show s.data.toList = _ from h3.symm]
        · rw [h2]
          show splitOn1 10 (r.data.toList.drop _).toArray.toList = _
          rw [List.toList_toArray]
          exact h4
      · rw [if_neg (by rw [decide_eq_false hp]; decide)] at h
        injection h with h3 h4
        have hq : q = [] := by cases q with | nil => rfl | cons _ _ => cases h4
        have hps : passT (fun x => x != 10) r 0 = r.size := by omega
        have hl : r.data.toList.length = r.size := ba_len r
        refine ⟨s, h1, ?_, .inr ⟨?_, ?_⟩⟩
        · rw [hc, hps]
          have h5 : (r.extract 0 r.size).data.toList = r.data.toList := by rw [extract_list, List.drop_zero, Nat.sub_zero, ← hl, List.take_length]
          rw [h5, show s.data.toList = _ from h3.symm]
        · rw [← ba_len]
          show (r.data.toList.drop _).toArray.toList.length = 0
          rw [List.toList_toArray, List.length_drop]
          omega
        · have h6 := congrArg List.length hd
          rw [List.length_drop, hq] at h6
          simp at h6
          omega
  · exact absurd h hr
theorem rest_end {ρ : Type} (G : Gram) (fin : RuleT → Except Int ρ) (name : ρ → ByteArray) (put : ρ → Nat → ρ) (most : Nat) {lines : List ByteArray} {r : ByteArray} {k : Nat} (h : RestAt lines r k) (hr : r.size = 0) :
    (rulesOf G fin name put most lines).1 = (rulesOf G fin name put most (lines.take k)).1 ∧ (rulesOf G fin name put most lines).2.1 = (rulesOf G fin name put most (lines.take k)).2.1 := by
  have hl : r.data.toList.length = r.size := ba_len r
  rcases h with h | ⟨-, h⟩
  · rw [List.eq_nil_of_length_eq_zero (hl.trans hr)] at h
    have h0 : splitOn1 10 [] = [[]] := rfl
    rw [h0] at h
    cases hd : lines.drop k with
    | nil => rw [hd] at h; cases h
    | cons s q =>
      rw [hd] at h
      injection h with h3 h4
      have hq : q = [] := by cases q with | nil => rfl | cons _ _ => cases h4
      subst hq
      have hs : s = ⟨#[]⟩ := ba_ext h3.symm
      have h5 := List.take_append_drop k lines
      rw [hd, hs] at h5
      rw [← h5]
      have h6 := parse_last G fin name put most (lines.take k)
      have h7 : ((lines.take k) ++ [(⟨#[]⟩ : ByteArray)]).take k = lines.take k := by rw [h5]
      rw [h7]
      exact h6
  · subst h
    rw [List.take_length]
    exact ⟨rfl, rfl⟩
theorem rest_le {lines : List ByteArray} {r : ByteArray} {k : Nat} (h : RestAt lines r k) : k ≤ lines.length := by
  rcases h with h | ⟨-, h⟩
  · have h2 := splitOn1_ne 10 r.data.toList
    rw [h] at h2
    rcases Nat.lt_or_ge lines.length k with h3 | h3
    · rw [List.drop_eq_nil_of_le (Nat.le_of_lt h3)] at h2
      exact absurd rfl h2
    · exact h3
  · omega
theorem rest_size {r : ByteArray} (n : Nat) : (⟨(r.data.toList.drop n).toArray⟩ : ByteArray).size ≤ r.size := by
  have hl : r.data.toList.length = r.size := ba_len r
  rw [← ba_len]
  show (r.data.toList.drop n).toArray.toList.length ≤ _
  rw [List.toList_toArray, List.length_drop]
  omega
end Go.Proofs.YtdnnahdafhddlaaGreatDoor
