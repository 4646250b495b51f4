/- Walk of the reference's reader of a rule. Conditions: the reader's cells are as RdyAt says; the words are as Lvs and Nms say. -/
import Derived.Test.YtdnnahdafhddlaaGreatDoorYRrV
namespace Go.Proofs.YtdnnahdafhddlaaGreatDoor
open Go.RowKit
set_option maxRecDepth 100000

section
variable (t : ByteArray) (e f : Nat) (nm : ByteArray) (wt n : Nat) (s : Sel)
theorem tail6 : tailP gramT t e f nm wt 6 n s = thenP (needP t e xComma) fun _ => thenP (selP gramT t e f) fun s2 => thenP (needP t e xNone) fun _ => pureP ⟨nm, wt, 6, n, s, s2, []⟩ := by
  unfold tailP
  rw [last6]
  simp only [then_assoc, then_pure]
theorem tail10 {k : Nat} (h6 : k ≠ 6) (h : k = 10 ∨ k = 11) : tailP gramT t e f nm wt k n s = thenP (needP t e xComma) fun _ => thenP (brackP gramT t e) fun l => thenP (needP t e xNone) fun _ => pureP ⟨nm, wt, k, n, s, zSel, l⟩ := by
  unfold tailP
  rw [last10 t e f h6 h]
  simp only [then_assoc, then_pure]
theorem tail0 {k : Nat} (h6 : k ≠ 6) (h : ¬ (k = 10 ∨ k = 11)) : tailP gramT t e f nm wt k n s = thenP (needP t e xNone) fun _ => pureP ⟨nm, wt, k, n, s, zSel, []⟩ := by
  unfold tailP
  rw [last0 t e f h6 h]
  simp only [then_pure]
end
def kkAt (x : ByteArray) (j : Nat) : Nat := if leafK kindWs x < j then leafK kindWs x + 1 else 0
set_option maxHeartbeats 16000000 in
theorem rrule_walk (f g : Nat) (t : ByteArray) (e a : Nat) (w : World) (h : RdyAt w g t e a) (hs : t.size + e < 1073741824) (hgN : 12 ≤ g) (hL : Lvs w) (hM : Nms w) (hf : t.size < f) :
    Calls Tryz.prog 101 #[.pointer (some ⟨g, 0, none⟩)] w fun en w' => RuleG g t e (ruleP gramT t e f a) w en w' := by
  obtain ⟨R, hR⟩ : ∃ R, ruleP gramT t e f a = R := ⟨_, rfl⟩
  rw [hR]
  have hR0 : R = thenP (identP codeB t e) (fun nm => thenP (needP t e xColon) fun _ => thenP (weightP gramT t e) fun wt => thenP (kindP gramT t e) fun k => thenP (numbP gramT t e k) fun n => thenP (selP gramT t e f) fun s => tailP gramT t e f nm wt k n s) a := hR.symm
  have hgb := h.lt
  obtain ⟨W, hW⟩ : ∃ W, w.alloc (.cells #[.string ⟨#[]⟩, .int .i64 0, .int .i64 0, .int .i64 0, .string ⟨#[]⟩, .slice none 0 0, .int .i64 0, .string ⟨#[]⟩, .slice none 0 0, .int .i64 0, .slice none 0 0, .slice none 0 0, .int .i64 0] 43) = W := ⟨_, rfl⟩
  obtain ⟨rb, hrb⟩ : ∃ rb, w.heap.size = rb := ⟨_, rfl⟩
  have hb1 : Below w.heap.size w W := by rw [← hW]; exact ext_alloc (Below.refl _ _) _
  have hrowB : RowV 43 W rb (ru0 ⟨#[]⟩ 0 0) := ⟨_, by rw [← hW, ← hrb]; exact heap_alloc_new _ _, rfl⟩
  have hWs : W.heap.size = rb + 1 := by rw [← hW, World.size_alloc, hrb]
  have hnm := rname_walk g t e a W (h.later hb1) hs
  have ho0 : Only g w W := only_of_below hb1 _
  rw [hrb] at hgb
  clear hR h hb1
  go_enter Tryz.func101, Tryz.ntmps101
  go_wp2_with fail
  refine hnm.mono ?_
  intro en w1 hm
  obtain ⟨ho1, nm, v, s1, rfl, hv, hs1, hT1⟩ := hm.then hR0
  subst hv
  clear hnm hm hR0
  obtain ⟨w2, hw2⟩ : ∃ w2, w1.alloc (.cells #[.string nm, .int .i64 0, .int .i64 0, .int .i64 0, .string ⟨#[]⟩, .slice none 0 0, .int .i64 0, .string ⟨#[]⟩, .slice none 0 0, .int .i64 0, .slice none 0 0, .slice none 0 0, .int .i64 0] 43) = w2 := ⟨_, rfl⟩
  obtain ⟨r, hr⟩ : ∃ r, w1.heap.size = r := ⟨_, rfl⟩
  have hb2 : Below w1.heap.size w1 w2 := by rw [← hw2]; exact ext_alloc (Below.refl _ _) _
  have hbr : rb < r := by rw [← hr]; have := ho1.size; omega
  have hwr : w.heap.size ≤ r := by omega
  have S2 : RuR w g rb r t e s1 (ru0 nm 0 0) w2 := ⟨hs1.later hb2, ⟨_, by rw [← hw2, ← hr]; exact heap_alloc_new _ _, rfl⟩, (hrowB.only ho1 (by omega)).later hb2, Only.later (ho0.trans ho1) hb2⟩
  have htk := rtake_st g t e xColon w2 S2.st hT1 hs
  have htk : Calls Tryz.prog 150 #[.pointer (some ⟨g, 0, none⟩), .string ⟨#[58]⟩] w2 fun en w' => en = .returned (.tuple #[]) ∧ Only g w2 w' ∧ ∃ s', RSt w' g t e s' ∧ Tie R s' (thenP (weightP gramT t e) fun wt => thenP (kindP gramT t e) fun k => thenP (numbP gramT t e k) fun n => thenP (selP gramT t e f) fun s => tailP gramT t e f nm wt k n s) := htk
  clear hs1 hT1 hrowB ho0 ho1 hb2 hWs
  replace hw2 := hide hw2
  go_wp2_with fail
  rw [hw2.out]
  refine htk.mono ?_
  rintro en w3 ⟨rfl, ho3, s3, h3, hT3⟩
  have S3 := S2.next hgb hbr ho3 h3
  replace hW := hide hW
  replace hr := hide hr
  replace hrb := hide hrb
  clear htk S2 h3 ho3
  have hlook := S3.st.look hT3 (fun a b hl => then_bad (by unfold weightP; rw [nextP_bad hl]))
  obtain ⟨H, hH⟩ : ∃ H : Bool, (H = true ∧ ∃ a x p, x = xHard ∧ lookT t e a = .tok x p ∧ a ≤ t.size ∧ RdyAt w3 g t e a ∧ R = thenP (weightP gramT t e) (fun wt => thenP (kindP gramT t e) fun k => thenP (numbP gramT t e k) fun n => thenP (selP gramT t e f) fun s => tailP gramT t e f nm wt k n s) a) ∨ (H = false ∧ ((∃ y, RBad w3 g t e y ∧ R = .error y) ∨ ∃ a x p, x ≠ xHard ∧ lookT t e a = .tok x p ∧ a ≤ t.size ∧ RdyAt w3 g t e a ∧ R = thenP (weightP gramT t e) (fun wt => thenP (kindP gramT t e) fun k => thenP (numbP gramT t e k) fun n => thenP (selP gramT t e f) fun s => tailP gramT t e f nm wt k n s) a)) := by
    rcases hlook with hb | ⟨a, x, p, hl, ha, hrd, hRa⟩
    · exact ⟨false, .inr ⟨rfl, .inl hb⟩⟩
    · by_cases hx : x = xHard
      · exact ⟨true, .inl ⟨rfl, a, x, p, hx, hl, ha, hrd, hRa⟩⟩
      · exact ⟨false, .inr ⟨rfl, .inr ⟨a, x, p, hx, hl, ha, hrd, hRa⟩⟩⟩
  clear hlook hT3
  go_upto_region 3 with fail
  go_cut [20] (fun s V => s = .bool H ∧ V = w3)
  case first =>
    rcases hH with ⟨rfl, a, x, p, hx, hl, ha, hrd, -⟩ | ⟨rfl, ⟨y, hb, -⟩ | ⟨a, x, p, hx, hl, ha, hrd, -⟩⟩
    · obtain ⟨hrr, q1, q2, q3⟩ := rdy_is_tok hl hrd
      have hg := rgood_walk g t e _ x p _ _ w3 hrr
      rw [show ((0 : Int) == 0) = true from rfl] at hg
      obtain ⟨c0, c1, c2, c3, c4, c8, hf9, hgl9⟩ := rr_cells hrr
      have k1 : (x.toList == [104, 97, 114, 100]) = true := by rw [word_is]; exact decide_eq_true hx
      replace hx := hide hx
      clear hf9 c0 c1 c2 c4 c8 hrr hrd hl S3 q1 q2 q3
      go_wp2_with (go_at_call 100; refine hg.mono ?_; rintro en w' ⟨rfl, rfl⟩)
      go_meet
      exact ⟨rfl, rfl⟩
    · obtain ⟨p, x, fr, hrr, h0, -⟩ := hb
      have hg := rgood_walk g t e p x fr _ _ w3 hrr
      rw [show (y.2 == 0) = false from by rw [beq_eq_false_iff_ne]; exact h0] at hg
      clear hrr h0 S3
      go_wp2_with (go_at_call 100; refine hg.mono ?_; rintro en w' ⟨rfl, rfl⟩)
      go_meet
      exact ⟨rfl, rfl⟩
    · obtain ⟨hrr, q1, q2, q3⟩ := rdy_is_tok hl hrd
      have hg := rgood_walk g t e _ x p _ _ w3 hrr
      rw [show ((0 : Int) == 0) = true from rfl] at hg
      obtain ⟨c0, c1, c2, c3, c4, c8, hf9, hgl9⟩ := rr_cells hrr
      have k1 : (x.toList == [104, 97, 114, 100]) = false := by rw [word_is]; exact decide_eq_false hx
      replace hx := hide hx
      clear hf9 c0 c1 c2 c4 c8 hrr hrd hl S3 q1 q2 q3
      go_wp2_with (go_at_call 100; refine hg.mono ?_; rintro en w' ⟨rfl, rfl⟩)
      go_meet
      exact ⟨rfl, rfl⟩
  case rest =>
    obtain ⟨rfl, rfl⟩ := hcut
    rename World => w3
    go_upto_if 20 with fail
    go_cut [] (fun V => ∃ (wt : Nat) (s : Except (Nat × Int) Nat), RuR w g rb r t e s (ru0 nm wt 0) V ∧ Tie R s (thenP (kindP gramT t e) fun k => thenP (numbP gramT t e k) fun n => thenP (selP gramT t e f) fun s => tailP gramT t e f nm wt k n s))
    case first =>
      rcases hH with ⟨rfl, a, x, p, hx, hl, ha, hrd, hRa⟩ | ⟨rfl, ⟨y, hb, hRa⟩ | ⟨a, x, p, hx, hl, ha, hrd, hRa⟩⟩
      · obtain ⟨hrr, q1, q2, q3⟩ := rdy_is_tok hl hrd
        have hnx := rnext_walk g t e _ x p w3 hrr q1 hs
        subst hx
        have hfin : Hid (Tie R (.ok (startT t a + xHard.size)) (thenP (kindP gramT t e) fun k => thenP (numbP gramT t e k) fun n => thenP (selP gramT t e f) fun s => tailP gramT t e f nm 0 k n s)) := hide (hRa.trans (then_of (weight_hard t e hl)))
        clear hrr hrd hl hRa q2 q3
        go_wp2_with fail
        refine hnx.mono ?_
        rintro en w4 ⟨rfl, ho4, h4⟩
        have S4 := S3.next hgb hbr ho4 (s' := .ok (startT t a + xHard.size)) ⟨h4, q1⟩
        clear hnx h4
        go_wp2_with fail
        go_meet
        exact ⟨0, _, S4, hfin.out⟩
      · have S4 := S3.with (s' := .error y) hb
        obtain ⟨p, x, fr, hrr, h0, -⟩ := hb
        have hg := rgood_walk g t e p x fr _ _ w3 hrr
        rw [show (y.2 == 0) = false from by rw [beq_eq_false_iff_ne]; exact h0] at hg
        replace hRa := hide hRa
        clear hrr h0 S3
        go_wp2_with (go_at_call 100; refine hg.mono ?_; rintro en w' ⟨rfl, rfl⟩)
        go_meet
        exact ⟨0, .error y, S4, hRa.out⟩
      · obtain ⟨hrr, q1, q2, q3⟩ := rdy_is_tok hl hrd
        have hg := rgood_walk g t e _ x p _ _ w3 hrr
        rw [show ((0 : Int) == 0) = true from rfl] at hg
        have hnu := rnumber_walk g t e a false w3 hrd hs
        rw [← weight_numb t e hl hx] at hnu
        replace hRa := hide hRa
        replace hx := hide hx
        clear hrr hrd hl q1 q2 q3
        go_wp2_with (go_at_call 100; refine hg.mono ?_; rintro en w' ⟨rfl, rfl⟩)
        refine hnu.mono ?_
        intro en w4 hm
        obtain ⟨ho4, wt, v, s4, rfl, hv, h4, hT4⟩ := hm.then hRa.out
        subst hv
        have S4 := S3.next hgb hbr ho4 h4
        have c1 := S4.row.get (j := 1) rfl
        have f1 := S4.row.free 1
        have hrl := S4.row.lt
        have S5 := S4.set hgb hbr hwr 1 (.int .i64 (wt : Int))
        clear hnu hm h4 hg
        go_wp2_with fail
        go_meet
        exact ⟨wt, s4, S5, hT4⟩
    case rest =>
      clear S3 hH
      obtain ⟨wt, s5, S5, hT5⟩ := hcut
      have hlook := S5.st.look hT5 (fun a b hl => then_bad (by unfold kindP; rw [nextP_bad hl]))
      rename World => w5
      clear hT5 htk
      rcases hlook with ⟨y, hb, hRe⟩ | ⟨a, x, p, hl, ha, hrd, hRa⟩
      · replace hRe := hide hRe
        go_wp2_with fail
        go_loopw [5] (fun i wr => ∃ j : Nat, j ≤ 12 ∧ i = .int .i64 j ∧ RuR w g rb r t e (.error y) (ru0 nm wt 0) wr) (fun i _ => 12 - (intOf i).toNat)
        case atStart => exact ⟨0, Nat.zero_le _, rfl, S5.with hb⟩
        case round =>
          clear S5 hb
          obtain ⟨j, hj, rfl, SF⟩ := hrel
          have hbad : RBad wr g t e y := SF.st
          by_cases hlt : j < 12
          · have hji : (j : Int) < 12 := by omega
            have hgd := hide (fun n : Nat => (show Calls Tryz.prog 100 #[.pointer (some ⟨g, 0, none⟩)] (wr.drewN n) fun e w' => e = .returned (.bool false) ∧ w' = wr.drewN n from by
              obtain ⟨p, x, fr, hrr, h0, -⟩ := hbad.later (ext_drewN (Below.refl _ _) n)
              have hg := rgood_walk g t e p x fr _ _ _ hrr
              rw [show (y.2 == 0) = false from by rw [beq_eq_false_iff_ne]; exact h0] at hg
              exact hg.mono fun e w' hh => ⟨hh.1, hh.2.symm⟩))
            have S6 := hide (fun n : Nat => SF.later (ext_drewN (Below.refl _ _) n))
            clear SF hbad
            go_upto_region 10 with fail
            go_quiet ((go_at_call 100; exact Calls.quiet_of_same (hgd.out _)))
            have S7 := S6.out nq
            clear hgd S6
            generalize wr.drewN nq = wx at *
            go_wp2
            go_roundw
            case rel => exact ⟨j + 1, by omega, by go_num, S7⟩
            case measure => simp [intOf]; omega
          · obtain rfl : j = 12 := by omega
            have hRe := hRe.out
            obtain ⟨p, x, fr, hrr, h0, -⟩ := id hbad
            have hg := rgood_walk g t e p x fr _ _ wr hrr
            rw [show (y.2 == 0) = false from by rw [beq_eq_false_iff_ne]; exact h0] at hg
            replace hRe := hide hRe
            clear hrr h0
            rename World => wF
            obtain ⟨kd, hkd⟩ : ∃ kd : Nat, kd = 0 := ⟨_, rfl⟩
            have SF : RuR w g rb r t e (.error y) (ru0 nm wt kd) wF := by rw [hkd]; exact SF
            clear hkd
            go_upto_region 15 with (go_at_call 100; refine hg.mono ?_; rintro en w' ⟨rfl, rfl⟩)
            have hRe := hRe.out
            (
                    have hres : Hid (∀ W' : World, Only g w W' → W'.heap[g]? = wF.heap[g]? → RuleG g t e R w (.returned (.tuple #[ruleV nm wt kd 0 ⟨#[]⟩ (.slice none 0 0) 0 ⟨#[]⟩ (.slice none 0 0) 0, .slice none 0 0])) W') := hide fun W' zo zg => ⟨zo, by rw [hRe]; exact ⟨hbad.same zg, nm, wt, kd, 0, _, none, 0, 0, 0, _, none, 0, 0, 0, _, rfl⟩⟩
                    (
                            have c0 := SF.row.get (j := 0) rfl
                            have c1 := SF.row.get (j := 1) rfl
                            have c2 := SF.row.get (j := 2) rfl
                            have c3 := SF.row.get (j := 3) rfl
                            have c4 := SF.row.get (j := 4) rfl
                            have c5 := SF.row.get (j := 5) rfl
                            have c6 := SF.row.get (j := 6) rfl
                            have c7 := SF.row.get (j := 7) rfl
                            have c8 := SF.row.get (j := 8) rfl
                            have c9 := SF.row.get (j := 9) rfl
                            have c10 := SF.row.get (j := 10) rfl
                            have c11 := SF.row.get (j := 11) rfl
                            have c12 := SF.row.get (j := 12) rfl
                            have d0 := SF.res.get (j := 0) rfl
                            have d1 := SF.res.get (j := 1) rfl
                            have d2 := SF.res.get (j := 2) rfl
                            have d3 := SF.res.get (j := 3) rfl
                            have d4 := SF.res.get (j := 4) rfl
                            have d5 := SF.res.get (j := 5) rfl
                            have d6 := SF.res.get (j := 6) rfl
                            have d7 := SF.res.get (j := 7) rfl
                            have d8 := SF.res.get (j := 8) rfl
                            have d9 := SF.res.get (j := 9) rfl
                            have d10 := SF.res.get (j := 10) rfl
                            have d11 := SF.res.get (j := 11) rfl
                            have d12 := SF.res.get (j := 12) rfl
                            have hfz := SF.res.free
                            have fz0 := hfz 0
                            have fz1 := hfz 1
                            have fz2 := hfz 2
                            have fz3 := hfz 3
                            have fz4 := hfz 4
                            have fz5 := hfz 5
                            have fz6 := hfz 6
                            have fz7 := hfz 7
                            have fz8 := hfz 8
                            have fz9 := hfz 9
                            have fz10 := hfz 10
                            have fz11 := hfz 11
                            have fz12 := hfz 12
                            have hrl := SF.row.lt
                            have hbl := SF.res.lt)
                    obtain ⟨z0, zo, -, zc⟩ := set13_done SF.res SF.only (Nat.le_of_eq hrb.out) nm wt kd 0 ⟨#[]⟩ (.slice none 0 0) 0 ⟨#[]⟩ (.slice none 0 0) 0
                    have hdone := hide (And.intro z0 (hres.out _ zo (zc g (by omega))))
                    clear z0 zo zc hres SF hfz hRe hbad
                    go_wp2
                    refine end_rule rfl rb _ rfl rfl rfl (load13 hdone.out.1) ?_
                    exact hdone.out.2)
      · obtain ⟨-, q1, q2, q3⟩ := rdy_is_tok hl hrd
        obtain ⟨b, hb⟩ : ∃ b, startT t a + x.size = b := ⟨_, rfl⟩
        rw [hb] at q1
        have hkn : Hid (nextP t e a = .ok ((x, p), b)) := hide (by rw [nextP_tok hl, hb])
        replace hb := hide hb
        replace hRa := hide hRa
        replace hl := hide hl
        go_wp2_with fail
        go_loopw [5] (fun i wr => ∃ j : Nat, j ≤ 12 ∧ i = .int .i64 j ∧ RuR w g rb r t e (.ok a) (ru0 nm wt (kkAt x j)) wr) (fun i _ => 12 - (intOf i).toNat)
        case atStart => exact ⟨0, Nat.zero_le _, rfl, by rw [show kkAt x 0 = 0 from if_neg (Nat.not_lt_zero _)]; exact S5.with ⟨hrd, ha⟩⟩
        case round =>
          clear S5 hrd ha
          obtain ⟨j, hj, rfl, SF⟩ := hrel
          have hl := hl.out
          obtain ⟨hrr, -, -, -⟩ := rdy_is_tok hl SF.st.1
          by_cases hlt : j < 12
          · have hji : (j : Int) < 12 := by omega
            have hj0 : (0 : Int) ≤ (j : Int) := by omega
            have hgd := hide (fun n : Nat => (show Calls Tryz.prog 100 #[.pointer (some ⟨g, 0, none⟩)] (wr.drewN n) fun e w' => e = .returned (.bool true) ∧ w' = wr.drewN n from by
              have hrr := (rdy_is_tok hl (RdyAt.later SF.st.1 (ext_drewN (Below.refl _ _) n))).1
              have hg := rgood_walk g t e _ x p _ _ _ hrr
              rw [show ((0 : Int) == 0) = true from rfl] at hg
              exact hg.mono fun e w' hh => ⟨hh.1, hh.2.symm⟩))
            obtain ⟨c0, c1, c2, c3, c4, c8, hf9, hgl9⟩ := rr_cells hrr
            obtain ⟨z, hz⟩ : ∃ z, kindWs[j]? = some z := ⟨_, List.getElem?_eq_getElem (by show j < 12; exact hlt)⟩
            have hMr := hM.only SF.only hgN
            have hcz := hMr.cell hz
            have hGl := hMr.lt
            have S6 := hide (fun n : Nat => SF.later (ext_drewN (Below.refl _ _) n))
            clear SF hf9 c0 c1 c2 c4 c8 hrr hMr
            by_cases hxz : x = z
            · have hkk : kkAt x (j + 1) = j + 1 := by
                have hzx : kindWs[j]? = some x := by rw [hz, hxz]
                have := kind_leaf hlt hzx
                unfold kkAt
                rw [this, if_pos (Nat.lt_succ_self j)]
              have hxk : (x.toList == z.toList) = true := by rw [toList_inj]; exact decide_eq_true hxz
              have hjb : ((j : Int) + 1) ≤ 9223372036854775807 := by omega
              replace hxz := hide hxz
              replace hkk := hide hkk
              replace hl := hide hl
              clear hz
              go_upto_region 10 with fail
              go_quiet ((go_at_call 100; exact Calls.quiet_of_same (hgd.out _)))
              have S7 := S6.out nq
              clear hgd S6 c3 hcz hgl9 hGl
              generalize wr.drewN nq = wx at *
              have c2 := S7.row.get (j := 2) rfl
              have f2 := S7.row.free 2
              have hrl := S7.row.lt
              have S8 := S7.set hgb hbr hwr 2 (.int .i64 ((j : Int) + 1))
              clear S7
              go_wp2
              go_roundw
              case rel => exact ⟨j + 1, by omega, by go_num, by rw [hkk.out]; exact S8⟩
              case measure => simp [intOf]; omega
            · have hkk : kkAt x (j + 1) = kkAt x j := by
                have hne : leafK kindWs x ≠ j := fun e => by
                  have := leaf_get (ws := kindWs) (x := x) (by rw [e]; exact hlt)
                  rw [e, hz] at this
                  injection this with this
                  exact hxz this.symm
                unfold kkAt
                by_cases q : leafK kindWs x < j
                · rw [if_pos q, if_pos (by omega)]
                · rw [if_neg q, if_neg (by omega)]
              have hxk : (x.toList == z.toList) = false := by rw [toList_inj]; exact decide_eq_false hxz
              replace hxz := hide hxz
              replace hkk := hide hkk
              replace hl := hide hl
              clear hz
              go_upto_region 10 with fail
              go_quiet ((go_at_call 100; exact Calls.quiet_of_same (hgd.out _)))
              have S7 := S6.out nq
              clear hgd S6 c3 hcz hgl9 hGl
              generalize wr.drewN nq = wx at *
              go_wp2
              go_roundw
              case rel => exact ⟨j + 1, by omega, by go_num, by rw [hkk.out]; exact S7⟩
              case measure => simp [intOf]; omega
          · obtain rfl : j = 12 := by omega
            rw [hb.out] at hrr
            have hg := rgood_walk g t e _ x p _ _ wr hrr
            rw [show ((0 : Int) == 0) = true from rfl] at hg
            have hkP : kindP gramT t e a = if leafK kindWs x < 12 then .ok (leafK kindWs x + 1, b) else .error (p, 15) := by
              unfold kindP
              rw [hkn.out]
              rfl
            obtain ⟨kd, hkd⟩ : ∃ kd, kkAt x 12 = kd := ⟨_, rfl⟩
            rw [hkd] at SF
            unfold kkAt at hkd
            have c2 := SF.row.get (j := 2) rfl
            have hrl := SF.row.lt
            by_cases hk12 : leafK kindWs x < 12
            · rw [if_pos hk12] at hkP hkd
              rw [hkd] at hkP
              have hkd0 : ((kd : Int) == 0) = false := by rw [beq_eq_false_iff_ne]; omega
              have hR6 : Hid (Tie R (.ok b) (thenP (numbP gramT t e kd) fun n => thenP (selP gramT t e f) fun s => tailP gramT t e f nm wt kd n s)) := hide (hRa.out.trans (then_of hkP))
              have hnx := rnext_walk g t e b x p wr hrr q1 hs
              replace hl := hide hl
              replace hkd := hide hkd
              replace hk12 := hide hk12
              clear hrr hkP hRa hkn
              go_wp2_with (go_at_call 100; refine hg.mono ?_; rintro en w' ⟨rfl, rfl⟩)
              refine hnx.mono ?_
              rintro en w6 ⟨rfl, ho6, h6⟩
              have S6 := SF.next hgb hbr ho6 (s' := .ok b) ⟨h6, q1⟩
              have hT6 := hR6.out
              clear hnx hg c2 hrl SF ho6 h6 hR6 hkd0
              obtain ⟨Q, hQ⟩ : ∃ Q, numbK kd = Q := ⟨_, rfl⟩
              go_upto_region 17 with fail
              go_cut [74] (fun s V => s = .bool Q ∧ V = w6)
              case first =>
                have c2 := S6.row.get (j := 2) rfl
                have hrl := S6.row.lt
                clear S6 hT6
                by_cases k7 : kd = 7
                · have e7 : ((kd : Int) == 7) = true := by rw [k7]; rfl
                  obtain rfl : true = Q := by rw [← hQ, k7]; rfl
                  replace k7 := hide k7
                  clear hQ
                  go_wp2_with fail
                  go_meet
                  exact ⟨rfl, rfl⟩
                · have e7 : ((kd : Int) == 7) = false := by rw [beq_eq_false_iff_ne]; omega
                  by_cases k8 : kd = 8
                  · have e8 : ((kd : Int) == 8) = true := by rw [k8]; rfl
                    obtain rfl : true = Q := by rw [← hQ, k8]; rfl
                    replace k7 := hide k7
                    replace k8 := hide k8
                    clear hQ
                    go_wp2_with fail
                    go_meet
                    exact ⟨rfl, rfl⟩
                  · have e8 : ((kd : Int) == 8) = false := by rw [beq_eq_false_iff_ne]; omega
                    by_cases k9 : kd = 9
                    · have e9 : ((kd : Int) == 9) = true := by rw [k9]; rfl
                      obtain rfl : true = Q := by rw [← hQ, k9]; rfl
                      replace k7 := hide k7
                      replace k8 := hide k8
                      replace k9 := hide k9
                      clear hQ
                      go_wp2_with fail
                      go_meet
                      exact ⟨rfl, rfl⟩
                    · have e9 : ((kd : Int) == 9) = false := by rw [beq_eq_false_iff_ne]; omega
                      obtain rfl : false = Q := by rw [← hQ]; unfold numbK; simp [k7, k8, k9]
                      replace k7 := hide k7
                      replace k8 := hide k8
                      replace k9 := hide k9
                      clear hQ
                      go_wp2_with fail
                      go_meet
                      exact ⟨rfl, rfl⟩
              case rest =>
                obtain ⟨rfl, rfl⟩ := hcut
                rename World => w6
                go_upto_if 74 with fail
                go_cut [] (fun V => ∃ (n : Nat) (s : Except (Nat × Int) Nat), RuR w g rb r t e s (ruleL nm wt kd 0 ⟨#[]⟩ (.slice none 0 0) 0 ⟨#[]⟩ (.slice none 0 0) n) V ∧ Tie R s (thenP (selP gramT t e f) fun s => tailP gramT t e f nm wt kd n s))
                case first =>
                  cases Q with
                  | false =>
                    have hT := hT6.to (show (thenP (numbP gramT t e kd) fun n => thenP (selP gramT t e f) fun s => tailP gramT t e f nm wt kd n s) = (thenP (selP gramT t e f) fun s => tailP gramT t e f nm wt kd 0 s) from by unfold numbP; rw [hQ]; rfl)
                    clear hQ hT6
                    go_wp2_with fail
                    go_meet
                    exact ⟨0, _, S6, hT⟩
                  | true =>
                    have hT := hT6.to (show (thenP (numbP gramT t e kd) fun n => thenP (selP gramT t e f) fun s => tailP gramT t e f nm wt kd n s) = (thenP (digP gramT t e) fun n => thenP (selP gramT t e f) fun s => tailP gramT t e f nm wt kd n s) from by unfold numbP; rw [hQ]; rfl)
                    have hnu := rnum_st g t e w6 S6.st hT hs
                    clear hQ hT6 hT
                    go_wp2_with fail
                    refine hnu.mono ?_
                    rintro en w7 ⟨ho7, n, s7, rfl, h7, hT7⟩
                    have S7 := S6.next hgb hbr ho7 h7
                    have c9 := S7.row.get (j := 9) rfl
                    have f9 := S7.row.free 9
                    have hrl := S7.row.lt
                    have S8 := S7.set hgb hbr hwr 9 (.int .i64 (n : Int))
                    clear hnu h7 S7 ho7
                    go_wp2_with fail
                    go_meet
                    exact ⟨n, s7, S8, hT7⟩
                case rest =>
                  clear S6 hT6 hQ
                  obtain ⟨n, s7, S7, hT7⟩ := hcut
                  rename World => w7
                  have hsl := rsel_st f g t e w7 S7.st hT7 hs hgN (hL.only S7.only hgN) hf
                  clear hT7
                  go_wp2_with fail
                  refine hsl.mono ?_
                  rintro en w8 ⟨ho8, s1', v, s8, rfl, ⟨fk, fn, fA, fl, fc, rfl, hrep⟩, h8, hT8⟩
                  have S8 := S7.next hgb hbr ho8 h8
                  have c3 := S8.row.get (j := 3) rfl
                  have c4 := S8.row.get (j := 4) rfl
                  have c5 := S8.row.get (j := 5) rfl
                  have f3 := S8.row.free 3
                  have f4 := S8.row.free 4
                  have f5 := S8.row.free 5
                  have hrl := S8.row.lt
                  have S9 := ((S8.set hgb hbr hwr 3 (.int .i64 fk)).set hgb hbr hwr 4 (.string fn)).set hgb hbr hwr 5 (.slice fA fl fc)
                  have S9 : RuR w g rb r t e s8 (ruleL nm wt kd fk fn (.slice fA fl fc) 0 ⟨#[]⟩ (.slice none 0 0) n) _ := S9
                  have hrep1 : kSel.rep (fun b => r + 1 ≤ b) w8 s1' [.int .i64 fk, .string fn, .slice fA fl fc] := kSel.more hrep fun b hb => Nat.le_trans S7.row.lt hb
                  have hrep2 := rep_set (j := 5) (u := .slice fA fl fc) (rep_set (j := 4) (u := .string fn) (rep_set (j := 3) (u := .int .i64 fk) hrep1))
                  clear hsl h8 hrep hrep1 S7 ho8 S8
                  go_upto_region 20 with fail
                  clear c3 c4 c5 f3 f4 f5 hrl
                  generalize ((w8.setCell ⟨r, 3, none⟩ (Value.int .i64 fk)).setCell ⟨r, 4, none⟩ (Value.string fn)).setCell ⟨r, 5, none⟩ (Value.slice fA fl fc) = w9 at *
                  have ck := S9.row.get (j := 2) rfl
                  have hrl := S9.row.lt
                  by_cases hk6 : kd = 6
                  · have e6 : ((kd : Int) == 6) = true := by rw [hk6]; rfl
                    have hT9 : Tie R s8 (thenP (needP t e xComma) fun _ => thenP (selP gramT t e f) fun s2 => thenP (needP t e xNone) fun _ => pureP ⟨nm, wt, kd, n, s1', s2, []⟩) := hT8.to (by rw [hk6]; exact tail6 t e f nm wt n s1')
                    have htk := rtake_st g t e xComma w9 S9.st hT9 hs
                    have htk : Calls Tryz.prog 150 #[.pointer (some ⟨g, 0, none⟩), .string ⟨#[44]⟩] w9 fun en w' => en = .returned (.tuple #[]) ∧ Only g w9 w' ∧ ∃ s', RSt w' g t e s' ∧ Tie R s' (thenP (selP gramT t e f) fun s2 => thenP (needP t e xNone) fun _ => pureP ⟨nm, wt, kd, n, s1', s2, []⟩) := htk
                    replace hk6 := hide hk6
                    clear hT8 hT9
                    go_wp2_with fail
                    refine htk.mono ?_
                    rintro en w10 ⟨rfl, ho10, s10, h10, hT10⟩
                    have S10 := S9.next hgb hbr ho10 h10
                    have hrep3 := rep_only hrep2 ho10 (by omega)
                    have hsl := rsel_st f g t e w10 S10.st hT10 hs hgN (hL.only S10.only hgN) hf
                    clear htk h10 hT10 S9 hrep2 ho10 ck hrl
                    go_wp2_with fail
                    refine hsl.mono ?_
                    rintro en w11 ⟨ho11, s2', v, sF, rfl, ⟨sk, sn, sA, sl, sc, rfl, hrepS⟩, h11, hTF⟩
                    have S11 := S10.next hgb hbr ho11 h11
                    have hrep4 := rep_only hrep3 ho11 (by omega)
                    have hrepS2 : kSel.rep (fun b => r + 1 ≤ b) w11 s2' [.int .i64 sk, .string sn, .slice sA sl sc] := kSel.more hrepS fun b hb => Nat.le_trans S10.row.lt hb
                    have c6 := S11.row.get (j := 6) rfl
                    have c7 := S11.row.get (j := 7) rfl
                    have c8 := S11.row.get (j := 8) rfl
                    have f6 := S11.row.free 6
                    have f7 := S11.row.free 7
                    have f8 := S11.row.free 8
                    have hrl := S11.row.lt
                    have SF := ((S11.set hgb hbr hwr 6 (.int .i64 sk)).set hgb hbr hwr 7 (.string sn)).set hgb hbr hwr 8 (.slice sA sl sc)
                    have SF : RuR w g rb r t e sF (ruleL nm wt kd fk fn (.slice fA fl fc) sk sn (.slice sA sl sc) n) _ := SF
                    have hK0 : Kept r s1' [.int .i64 fk, .string fn, .slice fA fl fc] s2' [.int .i64 sk, .string sn, .slice sA sl sc] none [] w11 := ⟨hrep4, hrepS2, fun h => absurd h (Nat.lt_irrefl 0)⟩
                    have hK := ((hK0.set (j := 6) (u := .int .i64 sk)).set (j := 7) (u := .string sn)).set (j := 8) (u := .slice sA sl sc)
                    have hcF : ([] : List ByteArray).length ≤ 0 := Nat.le_refl _
                    clear hsl h11 hrep3 hrep4 hrepS hrepS2 hK0 S10 ho11 S11
                    go_upto_region 29 with fail
                    clear c6 c7 c8 f6 f7 f8 hrl
                    generalize ((w11.setCell ⟨r, 6, none⟩ (Value.int .i64 sk)).setCell ⟨r, 7, none⟩ (Value.string sn)).setCell ⟨r, 8, none⟩ (Value.slice sA sl sc) = wF at *
                    (
                            have hlookF := SF.st.look hTF (fun a b hl => then_bad (by unfold needP; rw [nextP_bad hl]))
                            clear hTF
                            rcases hlookF with ⟨y, hbad, hRe⟩ | ⟨aF, xF, pF, hlF, haF, hrdF, hRF⟩
                            · obtain ⟨p1, x1, fr, hrr, h0, -⟩ := id hbad
                              have hg := rgood_walk g t e p1 x1 fr _ _ wF hrr
                              rw [show (y.2 == 0) = false from by rw [beq_eq_false_iff_ne]; exact h0] at hg
                              replace hRe := hide hRe
                              clear hrr h0 hK
                              go_upto_region 31 with (go_at_call 100; refine hg.mono ?_; rintro en w' ⟨rfl, rfl⟩)
                              have hRe := hRe.out
                              (
                                      have hres : Hid (∀ W' : World, Only g w W' → W'.heap[g]? = wF.heap[g]? → RuleG g t e R w (.returned (.tuple #[ruleV nm wt kd fk fn (.slice fA fl fc) sk sn (.slice sA sl sc) n, .slice none 0 0])) W') := hide fun W' zo zg => ⟨zo, by rw [hRe]; exact ⟨hbad.same zg, nm, wt, kd, fk, fn, fA, fl, fc, sk, sn, sA, sl, sc, n, _, rfl⟩⟩
                                      (
                                              have c0 := SF.row.get (j := 0) rfl
                                              have c1 := SF.row.get (j := 1) rfl
                                              have c2 := SF.row.get (j := 2) rfl
                                              have c3 := SF.row.get (j := 3) rfl
                                              have c4 := SF.row.get (j := 4) rfl
                                              have c5 := SF.row.get (j := 5) rfl
                                              have c6 := SF.row.get (j := 6) rfl
                                              have c7 := SF.row.get (j := 7) rfl
                                              have c8 := SF.row.get (j := 8) rfl
                                              have c9 := SF.row.get (j := 9) rfl
                                              have c10 := SF.row.get (j := 10) rfl
                                              have c11 := SF.row.get (j := 11) rfl
                                              have c12 := SF.row.get (j := 12) rfl
                                              have d0 := SF.res.get (j := 0) rfl
                                              have d1 := SF.res.get (j := 1) rfl
                                              have d2 := SF.res.get (j := 2) rfl
                                              have d3 := SF.res.get (j := 3) rfl
                                              have d4 := SF.res.get (j := 4) rfl
                                              have d5 := SF.res.get (j := 5) rfl
                                              have d6 := SF.res.get (j := 6) rfl
                                              have d7 := SF.res.get (j := 7) rfl
                                              have d8 := SF.res.get (j := 8) rfl
                                              have d9 := SF.res.get (j := 9) rfl
                                              have d10 := SF.res.get (j := 10) rfl
                                              have d11 := SF.res.get (j := 11) rfl
                                              have d12 := SF.res.get (j := 12) rfl
                                              have hfz := SF.res.free
                                              have fz0 := hfz 0
                                              have fz1 := hfz 1
                                              have fz2 := hfz 2
                                              have fz3 := hfz 3
                                              have fz4 := hfz 4
                                              have fz5 := hfz 5
                                              have fz6 := hfz 6
                                              have fz7 := hfz 7
                                              have fz8 := hfz 8
                                              have fz9 := hfz 9
                                              have fz10 := hfz 10
                                              have fz11 := hfz 11
                                              have fz12 := hfz 12
                                              have hrl := SF.row.lt
                                              have hbl := SF.res.lt)
                                      obtain ⟨z0, zo, -, zc⟩ := set13_done SF.res SF.only (Nat.le_of_eq hrb.out) nm wt kd fk fn (.slice fA fl fc) sk sn (.slice sA sl sc) n
                                      have hdone := hide (And.intro z0 (hres.out _ zo (zc g (by omega))))
                                      clear z0 zo zc hres SF hfz hRe hbad
                                      go_wp2
                                      refine end_rule rfl rb _ rfl rfl rfl (load13 hdone.out.1) ?_
                                      exact hdone.out.2)
                            · obtain ⟨hrrF, q1F, q2F, q3F⟩ := rdy_is_tok hlF hrdF
                              have hg := rgood_walk g t e _ xF pF _ _ wF hrrF
                              rw [show ((0 : Int) == 0) = true from rfl] at hg
                              obtain ⟨c0, c1, c2, c3, c4, c8, hf9, hgl9⟩ := rr_cells hrrF
                              have hE0 := str_empty xF
                              have hE : xF.toList.isEmpty = decide (xF.size = 0) := by rw [← hE0]; cases xF.toList <;> rfl
                              clear hf9 c0 c1 c2 c4 c8
                              by_cases hxF : xF = xNone
                              · have hx0 : xF.size = 0 := by rw [hxF]; rfl
                                rw [decide_eq_true hx0] at hE hE0
                                have hRok : R = .ok (⟨nm, wt, kd, n, s1', s2', []⟩, startT t aF + xF.size) := hRF.trans ((then_of (x := ()) (b := startT t aF + xF.size) (by unfold needP; rw [nextP_tok hlF]; exact if_pos hxF)).trans rfl)
                                replace hRok := hide hRok
                                replace hxF := hide hxF
                                replace hrrF := hide hrrF
                                clear hlF hRF hx0 hrdF
                                go_upto_region 31 with (go_at_call 100; refine hg.mono ?_; rintro en w' ⟨rfl, rfl⟩)
                                have hrrF := hrrF.out
                                have hres : Hid (∀ W' : World, Only g w W' → W'.heap[g]? = wF.heap[g]? → W'.heap.size = wF.heap.size → (∀ c, c ≠ rb → W'.heap[c]? = wF.heap[c]?) → RuleG g t e R w (.returned (.tuple #[ruleV nm wt kd fk fn (.slice fA fl fc) sk sn (.slice sA sl sc) n, .slice none 0 0])) W') := hide fun W' zo zg zs zc => ⟨zo, by
                                  rw [hRok.out]
                                  refine ⟨⟨_, _, _, zg.trans hrrF⟩, _, ⟨fk, fn, fA, fl, fc, sk, sn, sA, sl, sc, none, 0, rfl, kSel.kept hK.fst fun b hb hlt => ⟨by omega, by omega, zc b (by omega)⟩, kSel.kept hK.snd fun b hb hlt => ⟨by omega, by omega, zc b (by omega)⟩, hcF, hK.parts.kept fun b hb hlt => ⟨by omega, by omega, zc b (by omega)⟩⟩, rfl⟩⟩
                                clear hE hE0 c3 hgl9 hg hrrF
                                (
                                        have c0 := SF.row.get (j := 0) rfl
                                        have c1 := SF.row.get (j := 1) rfl
                                        have c2 := SF.row.get (j := 2) rfl
                                        have c3 := SF.row.get (j := 3) rfl
                                        have c4 := SF.row.get (j := 4) rfl
                                        have c5 := SF.row.get (j := 5) rfl
                                        have c6 := SF.row.get (j := 6) rfl
                                        have c7 := SF.row.get (j := 7) rfl
                                        have c8 := SF.row.get (j := 8) rfl
                                        have c9 := SF.row.get (j := 9) rfl
                                        have c10 := SF.row.get (j := 10) rfl
                                        have c11 := SF.row.get (j := 11) rfl
                                        have c12 := SF.row.get (j := 12) rfl
                                        have d0 := SF.res.get (j := 0) rfl
                                        have d1 := SF.res.get (j := 1) rfl
                                        have d2 := SF.res.get (j := 2) rfl
                                        have d3 := SF.res.get (j := 3) rfl
                                        have d4 := SF.res.get (j := 4) rfl
                                        have d5 := SF.res.get (j := 5) rfl
                                        have d6 := SF.res.get (j := 6) rfl
                                        have d7 := SF.res.get (j := 7) rfl
                                        have d8 := SF.res.get (j := 8) rfl
                                        have d9 := SF.res.get (j := 9) rfl
                                        have d10 := SF.res.get (j := 10) rfl
                                        have d11 := SF.res.get (j := 11) rfl
                                        have d12 := SF.res.get (j := 12) rfl
                                        have hfz := SF.res.free
                                        have fz0 := hfz 0
                                        have fz1 := hfz 1
                                        have fz2 := hfz 2
                                        have fz3 := hfz 3
                                        have fz4 := hfz 4
                                        have fz5 := hfz 5
                                        have fz6 := hfz 6
                                        have fz7 := hfz 7
                                        have fz8 := hfz 8
                                        have fz9 := hfz 9
                                        have fz10 := hfz 10
                                        have fz11 := hfz 11
                                        have fz12 := hfz 12
                                        have hrl := SF.row.lt
                                        have hbl := SF.res.lt)
                                obtain ⟨z0, zo, zs, zc⟩ := set13_done SF.res SF.only (Nat.le_of_eq hrb.out) nm wt kd fk fn (.slice fA fl fc) sk sn (.slice sA sl sc) n
                                have hdone := hide (And.intro z0 (hres.out _ zo (zc g (by omega)) zs zc))
                                clear z0 zo zs zc hres SF hfz hRok hK
                                go_wp2
                                refine end_rule rfl rb _ rfl rfl rfl (load13 hdone.out.1) ?_
                                exact hdone.out.2
                              · have hx0 : ¬ xF.size = 0 := fun h => hxF (by apply ByteArray.ext; apply Array.eq_empty_of_size_eq_zero; exact h)
                                rw [decide_eq_false hx0] at hE hE0
                                have hRe : R = .error (pF, 15) := hRF.trans (then_bad (by unfold needP; rw [nextP_tok hlF]; exact if_neg hxF))
                                have hsy := rsyntax_walk g t e _ xF pF wF hrrF q3F (by omega) q1F q2F
                                replace hRe := hide hRe
                                replace hxF := hide hxF
                                replace hx0 := hide hx0
                                clear hlF hRF hrdF hrrF hK
                                rename World => wE
                                go_wp2_with (go_at_call 100; refine hg.mono ?_; rintro en w' ⟨rfl, rfl⟩)
                                refine hsy.mono ?_
                                rintro en wF ⟨rfl, ho6, hbad⟩
                                have SF := SF.next hgb hbr ho6 (s' := .error (pF, 15)) hbad
                                have hRe := hRe.out
                                clear hsy hg c3 hgl9 ho6 hE hE0
                                go_upto_region 31 with fail
                                (
                                        have hres : Hid (∀ W' : World, Only g w W' → W'.heap[g]? = wF.heap[g]? → RuleG g t e R w (.returned (.tuple #[ruleV nm wt kd fk fn (.slice fA fl fc) sk sn (.slice sA sl sc) n, .slice none 0 0])) W') := hide fun W' zo zg => ⟨zo, by rw [hRe]; exact ⟨hbad.same zg, nm, wt, kd, fk, fn, fA, fl, fc, sk, sn, sA, sl, sc, n, _, rfl⟩⟩
                                        (
                                                have c0 := SF.row.get (j := 0) rfl
                                                have c1 := SF.row.get (j := 1) rfl
                                                have c2 := SF.row.get (j := 2) rfl
                                                have c3 := SF.row.get (j := 3) rfl
                                                have c4 := SF.row.get (j := 4) rfl
                                                have c5 := SF.row.get (j := 5) rfl
                                                have c6 := SF.row.get (j := 6) rfl
                                                have c7 := SF.row.get (j := 7) rfl
                                                have c8 := SF.row.get (j := 8) rfl
                                                have c9 := SF.row.get (j := 9) rfl
                                                have c10 := SF.row.get (j := 10) rfl
                                                have c11 := SF.row.get (j := 11) rfl
                                                have c12 := SF.row.get (j := 12) rfl
                                                have d0 := SF.res.get (j := 0) rfl
                                                have d1 := SF.res.get (j := 1) rfl
                                                have d2 := SF.res.get (j := 2) rfl
                                                have d3 := SF.res.get (j := 3) rfl
                                                have d4 := SF.res.get (j := 4) rfl
                                                have d5 := SF.res.get (j := 5) rfl
                                                have d6 := SF.res.get (j := 6) rfl
                                                have d7 := SF.res.get (j := 7) rfl
                                                have d8 := SF.res.get (j := 8) rfl
                                                have d9 := SF.res.get (j := 9) rfl
                                                have d10 := SF.res.get (j := 10) rfl
                                                have d11 := SF.res.get (j := 11) rfl
                                                have d12 := SF.res.get (j := 12) rfl
                                                have hfz := SF.res.free
                                                have fz0 := hfz 0
                                                have fz1 := hfz 1
                                                have fz2 := hfz 2
                                                have fz3 := hfz 3
                                                have fz4 := hfz 4
                                                have fz5 := hfz 5
                                                have fz6 := hfz 6
                                                have fz7 := hfz 7
                                                have fz8 := hfz 8
                                                have fz9 := hfz 9
                                                have fz10 := hfz 10
                                                have fz11 := hfz 11
                                                have fz12 := hfz 12
                                                have hrl := SF.row.lt
                                                have hbl := SF.res.lt)
                                        obtain ⟨z0, zo, -, zc⟩ := set13_done SF.res SF.only (Nat.le_of_eq hrb.out) nm wt kd fk fn (.slice fA fl fc) sk sn (.slice sA sl sc) n
                                        have hdone := hide (And.intro z0 (hres.out _ zo (zc g (by omega))))
                                        clear z0 zo zc hres SF hfz hRe hbad
                                        go_wp2
                                        refine end_rule rfl rb _ rfl rfl rfl (load13 hdone.out.1) ?_
                                        exact hdone.out.2))
                  · have e6 : ((kd : Int) == 6) = false := by rw [beq_eq_false_iff_ne]; omega
                    by_cases hk10 : kd = 10 ∨ kd = 11
                    · have hT9 := hT8.to (tail10 t e f nm wt n s1' hk6 hk10)
                      have htk := rtake_st g t e xComma w9 S9.st hT9 hs
                      have htk : Calls Tryz.prog 150 #[.pointer (some ⟨g, 0, none⟩), .string ⟨#[44]⟩] w9 fun en w' => en = .returned (.tuple #[]) ∧ Only g w9 w' ∧ ∃ s', RSt w' g t e s' ∧ Tie R s' (thenP (brackP gramT t e) fun l => thenP (needP t e xNone) fun _ => pureP ⟨nm, wt, kd, n, s1', zSel, l⟩) := htk
                      have hkk : ∃ Q1 Q2, ((kd : Int) == 10) = Q1 ∧ ((kd : Int) == 11) = Q2 ∧ (Q1 = true ∨ (Q1 = false ∧ Q2 = true)) := by
                        refine ⟨_, _, rfl, rfl, ?_⟩
                        rcases hk10 with rfl | rfl
                        · exact .inl rfl
                        · exact .inr ⟨rfl, rfl⟩
                      obtain ⟨Q1, Q2, e10, e11, hQQ⟩ := hkk
                      replace hk6 := hide hk6
                      replace hk10 := hide hk10
                      clear hT8 hT9
                      rcases hQQ with rfl | ⟨rfl, rfl⟩
                      all_goals
                        go_wp2_with fail
                        refine htk.mono ?_
                        rintro en w10 ⟨rfl, ho10, s10, h10, hT10⟩
                        have S10 := S9.next hgb hbr ho10 h10
                        have hrep3 := rep_only hrep2 ho10 (by omega)
                        have hbk := rbrack_st g t e w10 S10.st hT10 hs
                        clear htk h10 hT10 S9 hrep2 ho10 ck hrl
                        go_wp2_with fail
                        refine hbk.mono ?_
                        rintro en wF ⟨hoF, parts, v, sF, rfl, ⟨AF, cF, rfl, hcF, hAF⟩, hF, hTF⟩
                        have SF := S10.next hgb hbr hoF hF
                        have hK : Kept r s1' [.int .i64 fk, .string fn, .slice fA fl fc] zSel [.int .i64 0, .string ⟨#[]⟩, .slice none 0 0] AF parts wF := ⟨rep_only hrep3 hoF (by omega), zsel_rep, hAF.more fun b hb => Nat.le_trans S10.row.lt hb⟩
                        clear hbk hF hrep3 S10 hoF hAF
                        go_upto_region 29 with fail
                        (
                                have hlookF := SF.st.look hTF (fun a b hl => then_bad (by unfold needP; rw [nextP_bad hl]))
                                clear hTF
                                rcases hlookF with ⟨y, hbad, hRe⟩ | ⟨aF, xF, pF, hlF, haF, hrdF, hRF⟩
                                · obtain ⟨p1, x1, fr, hrr, h0, -⟩ := id hbad
                                  have hg := rgood_walk g t e p1 x1 fr _ _ wF hrr
                                  rw [show (y.2 == 0) = false from by rw [beq_eq_false_iff_ne]; exact h0] at hg
                                  replace hRe := hide hRe
                                  clear hrr h0 hK
                                  go_upto_region 31 with (go_at_call 100; refine hg.mono ?_; rintro en w' ⟨rfl, rfl⟩)
                                  have hRe := hRe.out
                                  (
                                          have hres : Hid (∀ W' : World, Only g w W' → W'.heap[g]? = wF.heap[g]? → RuleG g t e R w (.returned (.tuple #[ruleV nm wt kd fk fn (.slice fA fl fc) 0 ⟨#[]⟩ (.slice none 0 0) n, .slice AF parts.length cF])) W') := hide fun W' zo zg => ⟨zo, by rw [hRe]; exact ⟨hbad.same zg, nm, wt, kd, fk, fn, fA, fl, fc, 0, ⟨#[]⟩, none, 0, 0, n, _, rfl⟩⟩
                                          (
                                                  have c0 := SF.row.get (j := 0) rfl
                                                  have c1 := SF.row.get (j := 1) rfl
                                                  have c2 := SF.row.get (j := 2) rfl
                                                  have c3 := SF.row.get (j := 3) rfl
                                                  have c4 := SF.row.get (j := 4) rfl
                                                  have c5 := SF.row.get (j := 5) rfl
                                                  have c6 := SF.row.get (j := 6) rfl
                                                  have c7 := SF.row.get (j := 7) rfl
                                                  have c8 := SF.row.get (j := 8) rfl
                                                  have c9 := SF.row.get (j := 9) rfl
                                                  have c10 := SF.row.get (j := 10) rfl
                                                  have c11 := SF.row.get (j := 11) rfl
                                                  have c12 := SF.row.get (j := 12) rfl
                                                  have d0 := SF.res.get (j := 0) rfl
                                                  have d1 := SF.res.get (j := 1) rfl
                                                  have d2 := SF.res.get (j := 2) rfl
                                                  have d3 := SF.res.get (j := 3) rfl
                                                  have d4 := SF.res.get (j := 4) rfl
                                                  have d5 := SF.res.get (j := 5) rfl
                                                  have d6 := SF.res.get (j := 6) rfl
                                                  have d7 := SF.res.get (j := 7) rfl
                                                  have d8 := SF.res.get (j := 8) rfl
                                                  have d9 := SF.res.get (j := 9) rfl
                                                  have d10 := SF.res.get (j := 10) rfl
                                                  have d11 := SF.res.get (j := 11) rfl
                                                  have d12 := SF.res.get (j := 12) rfl
                                                  have hfz := SF.res.free
                                                  have fz0 := hfz 0
                                                  have fz1 := hfz 1
                                                  have fz2 := hfz 2
                                                  have fz3 := hfz 3
                                                  have fz4 := hfz 4
                                                  have fz5 := hfz 5
                                                  have fz6 := hfz 6
                                                  have fz7 := hfz 7
                                                  have fz8 := hfz 8
                                                  have fz9 := hfz 9
                                                  have fz10 := hfz 10
                                                  have fz11 := hfz 11
                                                  have fz12 := hfz 12
                                                  have hrl := SF.row.lt
                                                  have hbl := SF.res.lt)
                                          obtain ⟨z0, zo, -, zc⟩ := set13_done SF.res SF.only (Nat.le_of_eq hrb.out) nm wt kd fk fn (.slice fA fl fc) 0 ⟨#[]⟩ (.slice none 0 0) n
                                          have hdone := hide (And.intro z0 (hres.out _ zo (zc g (by omega))))
                                          clear z0 zo zc hres SF hfz hRe hbad
                                          go_wp2
                                          refine end_rule rfl rb _ rfl rfl rfl (load13 hdone.out.1) ?_
                                          exact hdone.out.2)
                                · obtain ⟨hrrF, q1F, q2F, q3F⟩ := rdy_is_tok hlF hrdF
                                  have hg := rgood_walk g t e _ xF pF _ _ wF hrrF
                                  rw [show ((0 : Int) == 0) = true from rfl] at hg
                                  obtain ⟨c0, c1, c2, c3, c4, c8, hf9, hgl9⟩ := rr_cells hrrF
                                  have hE0 := str_empty xF
                                  have hE : xF.toList.isEmpty = decide (xF.size = 0) := by rw [← hE0]; cases xF.toList <;> rfl
                                  clear hf9 c0 c1 c2 c4 c8
                                  by_cases hxF : xF = xNone
                                  · have hx0 : xF.size = 0 := by rw [hxF]; rfl
                                    rw [decide_eq_true hx0] at hE hE0
                                    have hRok : R = .ok (⟨nm, wt, kd, n, s1', zSel, parts⟩, startT t aF + xF.size) := hRF.trans ((then_of (x := ()) (b := startT t aF + xF.size) (by unfold needP; rw [nextP_tok hlF]; exact if_pos hxF)).trans rfl)
                                    replace hRok := hide hRok
                                    replace hxF := hide hxF
                                    replace hrrF := hide hrrF
                                    clear hlF hRF hx0 hrdF
                                    go_upto_region 31 with (go_at_call 100; refine hg.mono ?_; rintro en w' ⟨rfl, rfl⟩)
                                    have hrrF := hrrF.out
                                    have hres : Hid (∀ W' : World, Only g w W' → W'.heap[g]? = wF.heap[g]? → W'.heap.size = wF.heap.size → (∀ c, c ≠ rb → W'.heap[c]? = wF.heap[c]?) → RuleG g t e R w (.returned (.tuple #[ruleV nm wt kd fk fn (.slice fA fl fc) 0 ⟨#[]⟩ (.slice none 0 0) n, .slice AF parts.length cF])) W') := hide fun W' zo zg zs zc => ⟨zo, by
                                      rw [hRok.out]
                                      refine ⟨⟨_, _, _, zg.trans hrrF⟩, _, ⟨fk, fn, fA, fl, fc, 0, ⟨#[]⟩, none, 0, 0, AF, cF, rfl, kSel.kept hK.fst fun b hb hlt => ⟨by omega, by omega, zc b (by omega)⟩, kSel.kept hK.snd fun b hb hlt => ⟨by omega, by omega, zc b (by omega)⟩, hcF, hK.parts.kept fun b hb hlt => ⟨by omega, by omega, zc b (by omega)⟩⟩, rfl⟩⟩
                                    clear hE hE0 c3 hgl9 hg hrrF
                                    (
                                            have c0 := SF.row.get (j := 0) rfl
                                            have c1 := SF.row.get (j := 1) rfl
                                            have c2 := SF.row.get (j := 2) rfl
                                            have c3 := SF.row.get (j := 3) rfl
                                            have c4 := SF.row.get (j := 4) rfl
                                            have c5 := SF.row.get (j := 5) rfl
                                            have c6 := SF.row.get (j := 6) rfl
                                            have c7 := SF.row.get (j := 7) rfl
                                            have c8 := SF.row.get (j := 8) rfl
                                            have c9 := SF.row.get (j := 9) rfl
                                            have c10 := SF.row.get (j := 10) rfl
                                            have c11 := SF.row.get (j := 11) rfl
                                            have c12 := SF.row.get (j := 12) rfl
                                            have d0 := SF.res.get (j := 0) rfl
                                            have d1 := SF.res.get (j := 1) rfl
                                            have d2 := SF.res.get (j := 2) rfl
                                            have d3 := SF.res.get (j := 3) rfl
                                            have d4 := SF.res.get (j := 4) rfl
                                            have d5 := SF.res.get (j := 5) rfl
                                            have d6 := SF.res.get (j := 6) rfl
                                            have d7 := SF.res.get (j := 7) rfl
                                            have d8 := SF.res.get (j := 8) rfl
                                            have d9 := SF.res.get (j := 9) rfl
                                            have d10 := SF.res.get (j := 10) rfl
                                            have d11 := SF.res.get (j := 11) rfl
                                            have d12 := SF.res.get (j := 12) rfl
                                            have hfz := SF.res.free
                                            have fz0 := hfz 0
                                            have fz1 := hfz 1
                                            have fz2 := hfz 2
                                            have fz3 := hfz 3
                                            have fz4 := hfz 4
                                            have fz5 := hfz 5
                                            have fz6 := hfz 6
                                            have fz7 := hfz 7
                                            have fz8 := hfz 8
                                            have fz9 := hfz 9
                                            have fz10 := hfz 10
                                            have fz11 := hfz 11
                                            have fz12 := hfz 12
                                            have hrl := SF.row.lt
                                            have hbl := SF.res.lt)
                                    obtain ⟨z0, zo, zs, zc⟩ := set13_done SF.res SF.only (Nat.le_of_eq hrb.out) nm wt kd fk fn (.slice fA fl fc) 0 ⟨#[]⟩ (.slice none 0 0) n
                                    have hdone := hide (And.intro z0 (hres.out _ zo (zc g (by omega)) zs zc))
                                    clear z0 zo zs zc hres SF hfz hRok hK
                                    go_wp2
                                    refine end_rule rfl rb _ rfl rfl rfl (load13 hdone.out.1) ?_
                                    exact hdone.out.2
                                  · have hx0 : ¬ xF.size = 0 := fun h => hxF (by apply ByteArray.ext; apply Array.eq_empty_of_size_eq_zero; exact h)
                                    rw [decide_eq_false hx0] at hE hE0
                                    have hRe : R = .error (pF, 15) := hRF.trans (then_bad (by unfold needP; rw [nextP_tok hlF]; exact if_neg hxF))
                                    have hsy := rsyntax_walk g t e _ xF pF wF hrrF q3F (by omega) q1F q2F
                                    replace hRe := hide hRe
                                    replace hxF := hide hxF
                                    replace hx0 := hide hx0
                                    clear hlF hRF hrdF hrrF hK
                                    rename World => wE
                                    go_wp2_with (go_at_call 100; refine hg.mono ?_; rintro en w' ⟨rfl, rfl⟩)
                                    refine hsy.mono ?_
                                    rintro en wF ⟨rfl, ho6, hbad⟩
                                    have SF := SF.next hgb hbr ho6 (s' := .error (pF, 15)) hbad
                                    have hRe := hRe.out
                                    clear hsy hg c3 hgl9 ho6 hE hE0
                                    go_upto_region 31 with fail
                                    (
                                            have hres : Hid (∀ W' : World, Only g w W' → W'.heap[g]? = wF.heap[g]? → RuleG g t e R w (.returned (.tuple #[ruleV nm wt kd fk fn (.slice fA fl fc) 0 ⟨#[]⟩ (.slice none 0 0) n, .slice AF parts.length cF])) W') := hide fun W' zo zg => ⟨zo, by rw [hRe]; exact ⟨hbad.same zg, nm, wt, kd, fk, fn, fA, fl, fc, 0, ⟨#[]⟩, none, 0, 0, n, _, rfl⟩⟩
                                            (
                                                    have c0 := SF.row.get (j := 0) rfl
                                                    have c1 := SF.row.get (j := 1) rfl
                                                    have c2 := SF.row.get (j := 2) rfl
                                                    have c3 := SF.row.get (j := 3) rfl
                                                    have c4 := SF.row.get (j := 4) rfl
                                                    have c5 := SF.row.get (j := 5) rfl
                                                    have c6 := SF.row.get (j := 6) rfl
                                                    have c7 := SF.row.get (j := 7) rfl
                                                    have c8 := SF.row.get (j := 8) rfl
                                                    have c9 := SF.row.get (j := 9) rfl
                                                    have c10 := SF.row.get (j := 10) rfl
                                                    have c11 := SF.row.get (j := 11) rfl
                                                    have c12 := SF.row.get (j := 12) rfl
                                                    have d0 := SF.res.get (j := 0) rfl
                                                    have d1 := SF.res.get (j := 1) rfl
                                                    have d2 := SF.res.get (j := 2) rfl
                                                    have d3 := SF.res.get (j := 3) rfl
                                                    have d4 := SF.res.get (j := 4) rfl
                                                    have d5 := SF.res.get (j := 5) rfl
                                                    have d6 := SF.res.get (j := 6) rfl
                                                    have d7 := SF.res.get (j := 7) rfl
                                                    have d8 := SF.res.get (j := 8) rfl
                                                    have d9 := SF.res.get (j := 9) rfl
                                                    have d10 := SF.res.get (j := 10) rfl
                                                    have d11 := SF.res.get (j := 11) rfl
                                                    have d12 := SF.res.get (j := 12) rfl
                                                    have hfz := SF.res.free
                                                    have fz0 := hfz 0
                                                    have fz1 := hfz 1
                                                    have fz2 := hfz 2
                                                    have fz3 := hfz 3
                                                    have fz4 := hfz 4
                                                    have fz5 := hfz 5
                                                    have fz6 := hfz 6
                                                    have fz7 := hfz 7
                                                    have fz8 := hfz 8
                                                    have fz9 := hfz 9
                                                    have fz10 := hfz 10
                                                    have fz11 := hfz 11
                                                    have fz12 := hfz 12
                                                    have hrl := SF.row.lt
                                                    have hbl := SF.res.lt)
                                            obtain ⟨z0, zo, -, zc⟩ := set13_done SF.res SF.only (Nat.le_of_eq hrb.out) nm wt kd fk fn (.slice fA fl fc) 0 ⟨#[]⟩ (.slice none 0 0) n
                                            have hdone := hide (And.intro z0 (hres.out _ zo (zc g (by omega))))
                                            clear z0 zo zc hres SF hfz hRe hbad
                                            go_wp2
                                            refine end_rule rfl rb _ rfl rfl rfl (load13 hdone.out.1) ?_
                                            exact hdone.out.2))
                    · have e10 : ((kd : Int) == 10) = false := by rw [beq_eq_false_iff_ne]; omega
                      have e11 : ((kd : Int) == 11) = false := by rw [beq_eq_false_iff_ne]; omega
                      have hTF := hT8.to (tail0 t e f nm wt n s1' hk6 hk10)
                      have hK : Kept r s1' [.int .i64 fk, .string fn, .slice fA fl fc] zSel [.int .i64 0, .string ⟨#[]⟩, .slice none 0 0] none [] w9 := ⟨hrep2, zsel_rep, fun h => absurd h (Nat.lt_irrefl 0)⟩
                      have hcF : ([] : List ByteArray).length ≤ 0 := Nat.le_refl _
                      have SF := S9
                      replace hk6 := hide hk6
                      replace hk10 := hide hk10
                      clear hT8 hrep2 S9
                      go_upto_region 29 with fail
                      clear ck hrl
                      rename World => wF
                      (
                              have hlookF := SF.st.look hTF (fun a b hl => then_bad (by unfold needP; rw [nextP_bad hl]))
                              clear hTF
                              rcases hlookF with ⟨y, hbad, hRe⟩ | ⟨aF, xF, pF, hlF, haF, hrdF, hRF⟩
                              · obtain ⟨p1, x1, fr, hrr, h0, -⟩ := id hbad
                                have hg := rgood_walk g t e p1 x1 fr _ _ wF hrr
                                rw [show (y.2 == 0) = false from by rw [beq_eq_false_iff_ne]; exact h0] at hg
                                replace hRe := hide hRe
                                clear hrr h0 hK
                                go_upto_region 31 with (go_at_call 100; refine hg.mono ?_; rintro en w' ⟨rfl, rfl⟩)
                                have hRe := hRe.out
                                (
                                        have hres : Hid (∀ W' : World, Only g w W' → W'.heap[g]? = wF.heap[g]? → RuleG g t e R w (.returned (.tuple #[ruleV nm wt kd fk fn (.slice fA fl fc) 0 ⟨#[]⟩ (.slice none 0 0) n, .slice none 0 0])) W') := hide fun W' zo zg => ⟨zo, by rw [hRe]; exact ⟨hbad.same zg, nm, wt, kd, fk, fn, fA, fl, fc, 0, ⟨#[]⟩, none, 0, 0, n, _, rfl⟩⟩
                                        (
                                                have c0 := SF.row.get (j := 0) rfl
                                                have c1 := SF.row.get (j := 1) rfl
                                                have c2 := SF.row.get (j := 2) rfl
                                                have c3 := SF.row.get (j := 3) rfl
                                                have c4 := SF.row.get (j := 4) rfl
                                                have c5 := SF.row.get (j := 5) rfl
                                                have c6 := SF.row.get (j := 6) rfl
                                                have c7 := SF.row.get (j := 7) rfl
                                                have c8 := SF.row.get (j := 8) rfl
                                                have c9 := SF.row.get (j := 9) rfl
                                                have c10 := SF.row.get (j := 10) rfl
                                                have c11 := SF.row.get (j := 11) rfl
                                                have c12 := SF.row.get (j := 12) rfl
                                                have d0 := SF.res.get (j := 0) rfl
                                                have d1 := SF.res.get (j := 1) rfl
                                                have d2 := SF.res.get (j := 2) rfl
                                                have d3 := SF.res.get (j := 3) rfl
                                                have d4 := SF.res.get (j := 4) rfl
                                                have d5 := SF.res.get (j := 5) rfl
                                                have d6 := SF.res.get (j := 6) rfl
                                                have d7 := SF.res.get (j := 7) rfl
                                                have d8 := SF.res.get (j := 8) rfl
                                                have d9 := SF.res.get (j := 9) rfl
                                                have d10 := SF.res.get (j := 10) rfl
                                                have d11 := SF.res.get (j := 11) rfl
                                                have d12 := SF.res.get (j := 12) rfl
                                                have hfz := SF.res.free
                                                have fz0 := hfz 0
                                                have fz1 := hfz 1
                                                have fz2 := hfz 2
                                                have fz3 := hfz 3
                                                have fz4 := hfz 4
                                                have fz5 := hfz 5
                                                have fz6 := hfz 6
                                                have fz7 := hfz 7
                                                have fz8 := hfz 8
                                                have fz9 := hfz 9
                                                have fz10 := hfz 10
                                                have fz11 := hfz 11
                                                have fz12 := hfz 12
                                                have hrl := SF.row.lt
                                                have hbl := SF.res.lt)
                                        obtain ⟨z0, zo, -, zc⟩ := set13_done SF.res SF.only (Nat.le_of_eq hrb.out) nm wt kd fk fn (.slice fA fl fc) 0 ⟨#[]⟩ (.slice none 0 0) n
                                        have hdone := hide (And.intro z0 (hres.out _ zo (zc g (by omega))))
                                        clear z0 zo zc hres SF hfz hRe hbad
                                        go_wp2
                                        refine end_rule rfl rb _ rfl rfl rfl (load13 hdone.out.1) ?_
                                        exact hdone.out.2)
                              · obtain ⟨hrrF, q1F, q2F, q3F⟩ := rdy_is_tok hlF hrdF
                                have hg := rgood_walk g t e _ xF pF _ _ wF hrrF
                                rw [show ((0 : Int) == 0) = true from rfl] at hg
                                obtain ⟨c0, c1, c2, c3, c4, c8, hf9, hgl9⟩ := rr_cells hrrF
                                have hE0 := str_empty xF
                                have hE : xF.toList.isEmpty = decide (xF.size = 0) := by rw [← hE0]; cases xF.toList <;> rfl
                                clear hf9 c0 c1 c2 c4 c8
                                by_cases hxF : xF = xNone
                                · have hx0 : xF.size = 0 := by rw [hxF]; rfl
                                  rw [decide_eq_true hx0] at hE hE0
                                  have hRok : R = .ok (⟨nm, wt, kd, n, s1', zSel, []⟩, startT t aF + xF.size) := hRF.trans ((then_of (x := ()) (b := startT t aF + xF.size) (by unfold needP; rw [nextP_tok hlF]; exact if_pos hxF)).trans rfl)
                                  replace hRok := hide hRok
                                  replace hxF := hide hxF
                                  replace hrrF := hide hrrF
                                  clear hlF hRF hx0 hrdF
                                  go_upto_region 31 with (go_at_call 100; refine hg.mono ?_; rintro en w' ⟨rfl, rfl⟩)
                                  have hrrF := hrrF.out
                                  have hres : Hid (∀ W' : World, Only g w W' → W'.heap[g]? = wF.heap[g]? → W'.heap.size = wF.heap.size → (∀ c, c ≠ rb → W'.heap[c]? = wF.heap[c]?) → RuleG g t e R w (.returned (.tuple #[ruleV nm wt kd fk fn (.slice fA fl fc) 0 ⟨#[]⟩ (.slice none 0 0) n, .slice none 0 0])) W') := hide fun W' zo zg zs zc => ⟨zo, by
                                    rw [hRok.out]
                                    refine ⟨⟨_, _, _, zg.trans hrrF⟩, _, ⟨fk, fn, fA, fl, fc, 0, ⟨#[]⟩, none, 0, 0, none, 0, rfl, kSel.kept hK.fst fun b hb hlt => ⟨by omega, by omega, zc b (by omega)⟩, kSel.kept hK.snd fun b hb hlt => ⟨by omega, by omega, zc b (by omega)⟩, hcF, hK.parts.kept fun b hb hlt => ⟨by omega, by omega, zc b (by omega)⟩⟩, rfl⟩⟩
                                  clear hE hE0 c3 hgl9 hg hrrF
                                  (
                                          have c0 := SF.row.get (j := 0) rfl
                                          have c1 := SF.row.get (j := 1) rfl
                                          have c2 := SF.row.get (j := 2) rfl
                                          have c3 := SF.row.get (j := 3) rfl
                                          have c4 := SF.row.get (j := 4) rfl
                                          have c5 := SF.row.get (j := 5) rfl
                                          have c6 := SF.row.get (j := 6) rfl
                                          have c7 := SF.row.get (j := 7) rfl
                                          have c8 := SF.row.get (j := 8) rfl
                                          have c9 := SF.row.get (j := 9) rfl
                                          have c10 := SF.row.get (j := 10) rfl
                                          have c11 := SF.row.get (j := 11) rfl
                                          have c12 := SF.row.get (j := 12) rfl
                                          have d0 := SF.res.get (j := 0) rfl
                                          have d1 := SF.res.get (j := 1) rfl
                                          have d2 := SF.res.get (j := 2) rfl
                                          have d3 := SF.res.get (j := 3) rfl
                                          have d4 := SF.res.get (j := 4) rfl
                                          have d5 := SF.res.get (j := 5) rfl
                                          have d6 := SF.res.get (j := 6) rfl
                                          have d7 := SF.res.get (j := 7) rfl
                                          have d8 := SF.res.get (j := 8) rfl
                                          have d9 := SF.res.get (j := 9) rfl
                                          have d10 := SF.res.get (j := 10) rfl
                                          have d11 := SF.res.get (j := 11) rfl
                                          have d12 := SF.res.get (j := 12) rfl
                                          have hfz := SF.res.free
                                          have fz0 := hfz 0
                                          have fz1 := hfz 1
                                          have fz2 := hfz 2
                                          have fz3 := hfz 3
                                          have fz4 := hfz 4
                                          have fz5 := hfz 5
                                          have fz6 := hfz 6
                                          have fz7 := hfz 7
                                          have fz8 := hfz 8
                                          have fz9 := hfz 9
                                          have fz10 := hfz 10
                                          have fz11 := hfz 11
                                          have fz12 := hfz 12
                                          have hrl := SF.row.lt
                                          have hbl := SF.res.lt)
                                  obtain ⟨z0, zo, zs, zc⟩ := set13_done SF.res SF.only (Nat.le_of_eq hrb.out) nm wt kd fk fn (.slice fA fl fc) 0 ⟨#[]⟩ (.slice none 0 0) n
                                  have hdone := hide (And.intro z0 (hres.out _ zo (zc g (by omega)) zs zc))
                                  clear z0 zo zs zc hres SF hfz hRok hK
                                  go_wp2
                                  refine end_rule rfl rb _ rfl rfl rfl (load13 hdone.out.1) ?_
                                  exact hdone.out.2
                                · have hx0 : ¬ xF.size = 0 := fun h => hxF (by apply ByteArray.ext; apply Array.eq_empty_of_size_eq_zero; exact h)
                                  rw [decide_eq_false hx0] at hE hE0
                                  have hRe : R = .error (pF, 15) := hRF.trans (then_bad (by unfold needP; rw [nextP_tok hlF]; exact if_neg hxF))
                                  have hsy := rsyntax_walk g t e _ xF pF wF hrrF q3F (by omega) q1F q2F
                                  replace hRe := hide hRe
                                  replace hxF := hide hxF
                                  replace hx0 := hide hx0
                                  clear hlF hRF hrdF hrrF hK
                                  rename World => wE
                                  go_wp2_with (go_at_call 100; refine hg.mono ?_; rintro en w' ⟨rfl, rfl⟩)
                                  refine hsy.mono ?_
                                  rintro en wF ⟨rfl, ho6, hbad⟩
                                  have SF := SF.next hgb hbr ho6 (s' := .error (pF, 15)) hbad
                                  have hRe := hRe.out
                                  clear hsy hg c3 hgl9 ho6 hE hE0
                                  go_upto_region 31 with fail
                                  (
                                          have hres : Hid (∀ W' : World, Only g w W' → W'.heap[g]? = wF.heap[g]? → RuleG g t e R w (.returned (.tuple #[ruleV nm wt kd fk fn (.slice fA fl fc) 0 ⟨#[]⟩ (.slice none 0 0) n, .slice none 0 0])) W') := hide fun W' zo zg => ⟨zo, by rw [hRe]; exact ⟨hbad.same zg, nm, wt, kd, fk, fn, fA, fl, fc, 0, ⟨#[]⟩, none, 0, 0, n, _, rfl⟩⟩
                                          (
                                                  have c0 := SF.row.get (j := 0) rfl
                                                  have c1 := SF.row.get (j := 1) rfl
                                                  have c2 := SF.row.get (j := 2) rfl
                                                  have c3 := SF.row.get (j := 3) rfl
                                                  have c4 := SF.row.get (j := 4) rfl
                                                  have c5 := SF.row.get (j := 5) rfl
                                                  have c6 := SF.row.get (j := 6) rfl
                                                  have c7 := SF.row.get (j := 7) rfl
                                                  have c8 := SF.row.get (j := 8) rfl
                                                  have c9 := SF.row.get (j := 9) rfl
                                                  have c10 := SF.row.get (j := 10) rfl
                                                  have c11 := SF.row.get (j := 11) rfl
                                                  have c12 := SF.row.get (j := 12) rfl
                                                  have d0 := SF.res.get (j := 0) rfl
                                                  have d1 := SF.res.get (j := 1) rfl
                                                  have d2 := SF.res.get (j := 2) rfl
                                                  have d3 := SF.res.get (j := 3) rfl
                                                  have d4 := SF.res.get (j := 4) rfl
                                                  have d5 := SF.res.get (j := 5) rfl
                                                  have d6 := SF.res.get (j := 6) rfl
                                                  have d7 := SF.res.get (j := 7) rfl
                                                  have d8 := SF.res.get (j := 8) rfl
                                                  have d9 := SF.res.get (j := 9) rfl
                                                  have d10 := SF.res.get (j := 10) rfl
                                                  have d11 := SF.res.get (j := 11) rfl
                                                  have d12 := SF.res.get (j := 12) rfl
                                                  have hfz := SF.res.free
                                                  have fz0 := hfz 0
                                                  have fz1 := hfz 1
                                                  have fz2 := hfz 2
                                                  have fz3 := hfz 3
                                                  have fz4 := hfz 4
                                                  have fz5 := hfz 5
                                                  have fz6 := hfz 6
                                                  have fz7 := hfz 7
                                                  have fz8 := hfz 8
                                                  have fz9 := hfz 9
                                                  have fz10 := hfz 10
                                                  have fz11 := hfz 11
                                                  have fz12 := hfz 12
                                                  have hrl := SF.row.lt
                                                  have hbl := SF.res.lt)
                                          obtain ⟨z0, zo, -, zc⟩ := set13_done SF.res SF.only (Nat.le_of_eq hrb.out) nm wt kd fk fn (.slice fA fl fc) 0 ⟨#[]⟩ (.slice none 0 0) n
                                          have hdone := hide (And.intro z0 (hres.out _ zo (zc g (by omega))))
                                          clear z0 zo zc hres SF hfz hRe hbad
                                          go_wp2
                                          refine end_rule rfl rb _ rfl rfl rfl (load13 hdone.out.1) ?_
                                          exact hdone.out.2))
            · rw [if_neg hk12] at hkP hkd
              have hkd0 : ((kd : Int) == 0) = true := by rw [← hkd]; rfl
              have hRe : R = .error (p, 15) := hRa.out.trans (then_bad hkP)
              have hsy := rsyntax_walk g t e b x p wr hrr q3 (by omega) q1 q2
              replace hl := hide hl
              replace hkd := hide hkd
              replace hk12 := hide hk12
              replace hRe := hide hRe
              clear hrr hkP hRa hkn
              go_wp2_with (go_at_call 100; refine hg.mono ?_; rintro en w' ⟨rfl, rfl⟩)
              refine hsy.mono ?_
              rintro en wF ⟨rfl, ho6, hbad⟩
              have SF := SF.next hgb hbr ho6 (s' := .error (p, 15)) hbad
              obtain ⟨p1, x1, fr, hrr, h0, -⟩ := id hbad
              have hg := rgood_walk g t e p1 x1 fr _ _ wF hrr
              rw [show (((p, (15 : Int)) : Nat × Int).2 == 0) = false from rfl] at hg
              clear hrr h0 hsy c2 hrl ho6 hkd0
              go_upto_region 15 with (go_at_call 100; refine hg.mono ?_; rintro en w' ⟨rfl, rfl⟩)
              have hRe := hRe.out
              (
                      have hres : Hid (∀ W' : World, Only g w W' → W'.heap[g]? = wF.heap[g]? → RuleG g t e R w (.returned (.tuple #[ruleV nm wt kd 0 ⟨#[]⟩ (.slice none 0 0) 0 ⟨#[]⟩ (.slice none 0 0) 0, .slice none 0 0])) W') := hide fun W' zo zg => ⟨zo, by rw [hRe]; exact ⟨hbad.same zg, nm, wt, kd, 0, _, none, 0, 0, 0, _, none, 0, 0, 0, _, rfl⟩⟩
                      (
                              have c0 := SF.row.get (j := 0) rfl
                              have c1 := SF.row.get (j := 1) rfl
                              have c2 := SF.row.get (j := 2) rfl
                              have c3 := SF.row.get (j := 3) rfl
                              have c4 := SF.row.get (j := 4) rfl
                              have c5 := SF.row.get (j := 5) rfl
                              have c6 := SF.row.get (j := 6) rfl
                              have c7 := SF.row.get (j := 7) rfl
                              have c8 := SF.row.get (j := 8) rfl
                              have c9 := SF.row.get (j := 9) rfl
                              have c10 := SF.row.get (j := 10) rfl
                              have c11 := SF.row.get (j := 11) rfl
                              have c12 := SF.row.get (j := 12) rfl
                              have d0 := SF.res.get (j := 0) rfl
                              have d1 := SF.res.get (j := 1) rfl
                              have d2 := SF.res.get (j := 2) rfl
                              have d3 := SF.res.get (j := 3) rfl
                              have d4 := SF.res.get (j := 4) rfl
                              have d5 := SF.res.get (j := 5) rfl
                              have d6 := SF.res.get (j := 6) rfl
                              have d7 := SF.res.get (j := 7) rfl
                              have d8 := SF.res.get (j := 8) rfl
                              have d9 := SF.res.get (j := 9) rfl
                              have d10 := SF.res.get (j := 10) rfl
                              have d11 := SF.res.get (j := 11) rfl
                              have d12 := SF.res.get (j := 12) rfl
                              have hfz := SF.res.free
                              have fz0 := hfz 0
                              have fz1 := hfz 1
                              have fz2 := hfz 2
                              have fz3 := hfz 3
                              have fz4 := hfz 4
                              have fz5 := hfz 5
                              have fz6 := hfz 6
                              have fz7 := hfz 7
                              have fz8 := hfz 8
                              have fz9 := hfz 9
                              have fz10 := hfz 10
                              have fz11 := hfz 11
                              have fz12 := hfz 12
                              have hrl := SF.row.lt
                              have hbl := SF.res.lt)
                      obtain ⟨z0, zo, -, zc⟩ := set13_done SF.res SF.only (Nat.le_of_eq hrb.out) nm wt kd 0 ⟨#[]⟩ (.slice none 0 0) 0 ⟨#[]⟩ (.slice none 0 0) 0
                      have hdone := hide (And.intro z0 (hres.out _ zo (zc g (by omega))))
                      clear z0 zo zc hres SF hfz hRe hbad
                      go_wp2
                      refine end_rule rfl rb _ rfl rfl rfl (load13 hdone.out.1) ?_
                      exact hdone.out.2)
end Go.Proofs.YtdnnahdafhddlaaGreatDoor
