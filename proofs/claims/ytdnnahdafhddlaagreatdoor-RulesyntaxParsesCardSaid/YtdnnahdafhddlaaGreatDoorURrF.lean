/- Walk of the reference's atoms. Conditions: the reader's cells are as RdyAt says; the words of the selections are as Lvs says. Walk of the reference's brackets. Conditions: the reader's cells are as RdyAt or RBad say. -/
import Derived.Test.YtdnnahdafhddlaaGreatDoorURrO
namespace Go.Proofs.YtdnnahdafhddlaaGreatDoor
open Go.RowKit
set_option maxRecDepth 100000

theorem leafK_cons (x z : ByteArray) (r : List ByteArray) : leafK (x :: r) z = if x = z then 0 else leafK r z + 1 := by
  unfold leafK
  rw [List.findIdx_cons]
  by_cases h : x = z <;> simp [h]
theorem leafK_at : ∀ (ws : List ByteArray) (x : ByteArray) (i : Nat), (∀ j, j < i → ws[j]? ≠ some x) → (i = ws.length ∨ ws[i]? = some x) → leafK ws x = i
  | [], x, i, _, h => by
    rcases h with h | h
    · rw [h]; rfl
    · simp at h
  | w :: ws, x, 0, _, h => by
    rcases h with h | h
    · simp at h
    · simp at h
      rw [leafK_cons, if_pos h]
  | w :: ws, x, i + 1, hno, h => by
    have h0 : ¬ w = x := fun e => hno 0 (by omega) (by simp [e])
    rw [leafK_cons, if_neg h0, leafK_at ws x i (fun j hj => by have := hno (j + 1) (by omega); simpa using this) (by simpa using h)]
theorem IdleG.meets {g : Nat} {t : ByteArray} {e : Nat} {y : Nat × Int} {z : Res Sel} {w w' : World} {en : Ending} (h : IdleG g t e y w en w') (hz : z = .error y) : RmG g t e vSel z w en w' := by
  obtain ⟨h1, h2, s, v, h3, rfl⟩ := h
  exact RmG.err hz h1 h2 h3
set_option maxHeartbeats 8000000 in
theorem ratom_step (n0 : Nat) (hA : AtomRAt n0) : AtomRAt (n0 + 1) := by
  intro g t e a w h ha hs hgN hL hf
  cases hl : lookT t e a with
  | bad b => exact (ratom_bad g t e (b, 5) w (rdy_is_bad hl h)).mono fun en w' hi => hi.meets (by rw [atomP, nextP_bad hl])
  | tok x p =>
    have hgr := h.lt
    obtain ⟨W, hW⟩ : ∃ W, w.alloc (.cells #[.int .i64 0, .string ⟨#[]⟩, .slice none 0 0] 40) = W := ⟨_, rfl⟩
    obtain ⟨r, hr⟩ : ∃ r, w.heap.size = r := ⟨_, rfl⟩
    have hb1 : Below w.heap.size w W := by rw [← hW]; exact ext_alloc (Below.refl _ _) _
    have h1 := h.later hb1
    have hL1 : Lvs W := by rw [← hW]; exact hL.alloc _
    have ho1 : Only g w W := only_of_below hb1 _
    have hr1 : W.heap[r]? = some (.cells #[.int .i64 0, .string ⟨#[]⟩, .slice none 0 0] 40 (0, 0)) := by rw [← hW, ← hr]; exact heap_alloc_new _ _
    have hWs : W.heap.size = r + 1 := by rw [← hW, World.size_alloc, hr]
    rw [hr] at hgr
    obtain ⟨hrr, q1, q2, q3⟩ := rdy_is_tok hl h1
    have hpa := look_pass hl
    obtain ⟨b, hb⟩ : ∃ b, startT t a + x.size = b := ⟨_, rfl⟩
    rw [hb] at hrr q1
    have hn : nextP t e a = .ok ((x, p), b) := by rw [nextP_tok hl, hb]
    have hat : atomP codeB selWs t e (n0 + 1) a = (
      if x = xNot then (match atomP codeB selWs t e n0 b with | .error y => .error y | .ok (s, c) => .ok (.mk 10 ⟨#[]⟩ [s], c))
      else if x = xOpen then (match serP t e (serP t e (atomP codeB selWs t e n0) xAnd 8) xOr 9 b with
        | .error y => .error y
        | .ok (s, c) => (match needP t e xShut c with
          | .error y => .error y
          | .ok (_, d) => .ok (s, d)))
      else if x = xAll then .ok (.mk 1 ⟨#[]⟩ [], b)
      else if leafK selWs x < selWs.length then (match identP codeB t e b with
        | .error y => .error y
        | .ok (n, c) => .ok (.mk (2 + (leafK selWs x : Int)) n [], c))
      else .error (p, 15)) := by rw [atomP, hn]; rfl
    have hg := rgood_walk g t e b x p _ _ W hrr
    rw [show ((0 : Int) == 0) = true from rfl] at hg
    obtain ⟨c0, c1, c2, c3, c4, c8, hf9, hgl9⟩ := rr_cells hrr
    have hnx := rnext_walk g t e b x p W hrr q1 hs
    have hAt := hide hA
    have hW0 : w.heap.size = r := hr
    replace hWs := hide hWs
    clear hf9 c0 c1 c2 c4 c8 hA h hb1 hn h1
    by_cases hx1 : x = xNot
    · have k1 : (x.toList == [110, 111, 116]) = true := by rw [word_is]; exact decide_eq_true hx1
      have hxs : x.size = 3 := by rw [hx1]; rfl
      rw [if_pos hx1] at hat
      replace hx1 := hide hx1
      clear hrr
      go_enter Tryz.func192, Tryz.ntmps192
      go_wp2_with (go_at_call 100; refine hg.mono ?_; rintro en w' ⟨rfl, rfl⟩)
      refine hnx.mono ?_
      rintro en w1 ⟨rfl, ho2, h2⟩
      have ho3 := ho1.trans ho2
      have h4 := hAt.out g t e b w1 h2 q1 hs hgN (hL1.only ho2 hgN) (by omega)
      have hr2 : w1.heap[r]? = _ := (ho2.block r (blk_lt hr1) (by intro e; injection e with e; omega)).trans hr1
      clear hnx hg c3
      go_wp2_with fail
      refine h4.mono ?_
      rintro en w3 ⟨ho4, hm⟩
      clear h4
      obtain ⟨s, v, ⟨k, n, A, m, cp, rfl, hrep⟩, rfl, hsta⟩ : ∃ s v, vSel w1 w3 s v ∧ en = .returned v ∧ ∀ W' u, W'.heap[g]? = w3.heap[g]? → Only g w W' → vSel w W' (.mk 10 ⟨#[]⟩ [s]) u → RmG g t e vSel (atomP codeB selWs t e (n0 + 1) a) w (.returned u) W' := by
        cases hp : atomP codeB selWs t e n0 b with
        | error y =>
          rw [hp] at hm hat
          obtain ⟨hbd, s, v, hv, he⟩ := hm
          exact ⟨s, v, hv, he, fun W' u e1 e2 e3 => RmG.err hat e2 (hbd.same e1) e3⟩
        | ok z =>
          obtain ⟨s, c⟩ := z
          rw [hp] at hm hat
          obtain ⟨hrd, hcl, v, hv, he⟩ := hm
          exact ⟨s, v, hv, he, fun W' u e1 e2 e3 => RmG.ok hat e2 (hrd.same e1) hcl e3⟩
      replace hsta := hide hsta
      have hr4 : w3.heap[r]? = _ := (ho4.block r (blk_lt hr2) (by intro e; injection e with e; omega)).trans hr2
      have hs4 := ho4.size
      have hs2 := ho2.size
      rw [hWs.out] at hs2
      have hone := OwnS.one (B := r + 1) (w := w3) (s := s) (by omega) (kSel.more hrep fun b hb => by omega)
      obtain ⟨w4, hw4⟩ : ∃ w4, w3.alloc (.cells #[.int .i64 k, .string n, .slice A m cp] 40) = w4 := ⟨_, rfl⟩
      have hb4 : Below w3.heap.size w3 w4 := by rw [← hw4]; exact ext_alloc (Below.refl _ _) _
      rw [hw4] at hone
      obtain ⟨A5, c5, he5, hc5, hA5⟩ := hone.at
      injection he5 with he5 he6 he7
      subst he5
      subst he7
      clear he6
      have hrep5 : kSel.rep (fun b => r + 1 ≤ b) w4 (.mk 10 ⟨#[]⟩ [s]) [.int .i64 10, .string ⟨#[]⟩, .slice (some ⟨w3.heap.size, 0, none⟩) 1 1] := rep_sel.2 ⟨_, 1, rfl, Nat.le_refl _, hA5⟩
      have hr5 : w4.heap[r]? = _ := (hb4.block r (blk_lt hr4)).trans hr4
      have hg4 : w4.heap[g]? = w3.heap[g]? := hb4.block g (by have := blk_lt hr4; omega)
      obtain ⟨z0, zg, zo, zv⟩ := rsel_done (Only.later (ho3.trans ho4) hb4) hW0 hgr (Nat.lt_succ_self r) hr5 hrep5
      have hdone := hide (hsta.out _ _ (zg.trans hg4) zo zv)
      (
            obtain ⟨z1, z2, z3, -⟩ := sel_cells z0
            clear z0 zg zo zv)
      (
            obtain ⟨y0, y1, y2, hfr⟩ := sel_cells hr5
            have fr0 := hfr 0
            have fr1 := hfr 1
            have fr2 := hfr 2
            have hrl5 := blk_lt hr5
            clear hfr)
      clear hrep hr5 hrep5 hA5 hone hr4 hat hb4 hsta hm hg4 hr2
      go_wp2
      exact end_sel rfl r _ _ _ rfl rfl z1 z2 z3 hdone.out
    · have k1 : (x.toList == [110, 111, 116]) = false := by rw [word_is]; exact decide_eq_false hx1
      rw [if_neg hx1] at hat
      by_cases hx2 : x = xOpen
      · have k2 : (x.toList == [40]) = true := by rw [word_is]; exact decide_eq_true hx2
        have hxs : x.size = 1 := by rw [hx2]; rfl
        rw [if_pos hx2] at hat
        replace hx1 := hide hx1
        replace hx2 := hide hx2
        clear hrr
        go_enter Tryz.func192, Tryz.ntmps192
        go_wp2_with (go_at_call 100; refine hg.mono ?_; rintro en w' ⟨rfl, rfl⟩)
        refine hnx.mono ?_
        rintro en w1 ⟨rfl, ho2, h2⟩
        have ho3 := ho1.trans ho2
        have h4 := rlistO_walk n0 hAt.out g t e b w1 h2 q1 hs hgN (hL1.only ho2 hgN) (by omega)
        have hr2 : w1.heap[r]? = _ := (ho2.block r (blk_lt hr1) (by intro e; injection e with e; omega)).trans hr1
        have hs2 := ho2.size
        rw [hWs.out] at hs2
        clear hnx hg c3
        go_wp2_with fail
        refine h4.mono ?_
        rintro en w3 ⟨ho4, hm⟩
        clear h4
        have hs4 := ho4.size
        have hr4 : w3.heap[r]? = _ := (ho4.block r (blk_lt hr2) (by intro e; injection e with e; omega)).trans hr2
        obtain ⟨s, v, ⟨k, n, A, m, cp, rfl, hrep⟩, rfl, hsta⟩ : ∃ s v, vSel w1 w3 s v ∧ en = .returned v ∧ ((∃ y, RBad w3 g t e y ∧ atomP codeB selWs t e (n0 + 1) a = .error y) ∨ ∃ c, RdyAt w3 g t e c ∧ c ≤ t.size ∧ atomP codeB selWs t e (n0 + 1) a = (match needP t e xShut c with | .error y => .error y | .ok (_, d) => .ok (s, d))) := by
          cases hp : serP t e (serP t e (atomP codeB selWs t e n0) xAnd 8) xOr 9 b with
          | error y =>
            rw [hp] at hm hat
            obtain ⟨hbd, s, v, hv, he⟩ := hm
            exact ⟨s, v, hv, he, .inl ⟨y, hbd, hat⟩⟩
          | ok z =>
            obtain ⟨s, c⟩ := z
            rw [hp] at hm hat
            obtain ⟨hrd, hcl, v, hv, he⟩ := hm
            exact ⟨s, v, hv, he, .inr ⟨c, hrd, hcl, hat⟩⟩
        obtain ⟨w4, hw4⟩ : ∃ w4, w3.alloc (.cells #[.int .i64 k, .string n, .slice A m cp] 40) = w4 := ⟨_, rfl⟩
        obtain ⟨q4, hq4⟩ : ∃ q4, w3.heap.size = q4 := ⟨_, rfl⟩
        have hb4 : Below w3.heap.size w3 w4 := by rw [← hw4]; exact ext_alloc (Below.refl _ _) _
        have hbx4 : w4.heap[q4]? = some (.cells #[.int .i64 k, .string n, .slice A m cp] 40 (0, 0)) := by rw [← hw4, ← hq4]; exact heap_alloc_new _ _
        have ho5 := Only.later (ho3.trans ho4) hb4
        have hr5' : w4.heap[r]? = _ := (hb4.block r (blk_lt hr4)).trans hr4
        have hrep5 := kSel.later hrep hb4
        have htk : Calls Tryz.prog 150 #[.pointer (some ⟨g, 0, none⟩), .string ⟨#[41]⟩] w4 fun en w5 => en = .returned (.tuple #[]) ∧ Only g w4 w5 ∧ ∀ W' u, W'.heap[g]? = w5.heap[g]? → Only g w W' → vSel w W' s u → RmG g t e vSel (atomP codeB selWs t e (n0 + 1) a) w (.returned u) W' := by
          rcases hsta with ⟨y, hbd, hz⟩ | ⟨c, hrd, hcl, hz⟩
          · exact (rtake_bad g t e y _ w4 (hbd.later hb4)).mono fun en w5 ⟨he, ho, hb⟩ => ⟨he, ho, fun W' u e1 e2 e3 => RmG.err hz e2 (hb.same e1) e3⟩
          · refine (rtake_walk g t e xShut c w4 (hrd.later hb4) hs).mono fun en w5 ⟨ho, hm⟩ => ?_
            cases hp : needP t e xShut c with
            | error y =>
              rw [hp] at hm hz
              obtain ⟨hb, u0, v, rfl, rfl⟩ := hm
              exact ⟨rfl, ho, fun W' u e1 e2 e3 => RmG.err hz e2 (hb.same e1) e3⟩
            | ok zz =>
              obtain ⟨u0, d⟩ := zz
              rw [hp] at hm hz
              obtain ⟨hrd2, hdl, v, rfl, rfl⟩ := hm
              exact ⟨rfl, ho, fun W' u e1 e2 e3 => RmG.ok hz e2 (hrd2.same e1) hdl e3⟩
        clear hb4 hrep hr4 hm hat hsta
        go_wp2_with fail
        refine htk.mono ?_
        rintro en w5 ⟨rfl, ho6, hsta⟩
        replace hsta := hide hsta
        clear htk
        have hr5 : w5.heap[r]? = _ := (ho6.block r (blk_lt hr5') (by intro e; injection e with e; omega)).trans hr5'
        have hbx6 : w5.heap[q4]? = _ := (ho6.block q4 (blk_lt hbx4) (by intro e; injection e with e; omega)).trans hbx4
        have hrep6 : kSel.rep (fun b => r + 1 ≤ b) w5 s [.int .i64 k, .string n, .slice A m cp] := kSel.kept hrep5 fun b hb hlt => ⟨by omega, Nat.lt_of_lt_of_le hlt ho6.size, ho6.block b hlt (by intro e; injection e with e; omega)⟩
        obtain ⟨z0, zg, zo, zv⟩ := rsel_done (ho5.trans ho6) hW0 hgr (Nat.lt_succ_self r) hr5 hrep6
        have hdone := hide (hsta.out _ _ zg zo zv)
        (
              obtain ⟨z1, z2, z3, -⟩ := sel_cells z0
              clear z0 zg zo zv)
        (
              obtain ⟨y0, y1, y2, hfr⟩ := sel_cells hr5
              have fr0 := hfr 0
              have fr1 := hfr 1
              have fr2 := hfr 2
              have hrl5 := blk_lt hr5
              clear hfr)
        obtain ⟨j0, j1, j2, -⟩ := sel_cells hbx6
        have hql := blk_lt hbx6
        clear hrep5 hrep6 hr5' hr5 hbx4 hbx6 ho5 ho6 hsta hr2
        go_wp2
        exact end_sel rfl r _ _ _ rfl rfl z1 z2 z3 hdone.out
      · have k2 : (x.toList == [40]) = false := by rw [word_is]; exact decide_eq_false hx2
        rw [if_neg hx2] at hat
        by_cases hx3 : x = xAll
        · have k3 : (x.toList == [97, 108, 108]) = true := by rw [word_is]; exact decide_eq_true hx3
          rw [if_pos hx3] at hat
          replace hx1 := hide hx1
          replace hx2 := hide hx2
          replace hx3 := hide hx3
          clear hrr
          go_enter Tryz.func192, Tryz.ntmps192
          go_wp2_with (go_at_call 100; refine hg.mono ?_; rintro en w' ⟨rfl, rfl⟩)
          refine hnx.mono ?_
          rintro en w1 ⟨rfl, ho2, h2⟩
          have hs2 := ho2.size
          rw [hWs.out] at hs2
          have hr5 : w1.heap[r]? = _ := (ho2.block r (blk_lt hr1) (by intro e; injection e with e; omega)).trans hr1
          have hrep5 : kSel.rep (fun b => r + 1 ≤ b) w1 (.mk 1 ⟨#[]⟩ []) [.int .i64 1, .string ⟨#[]⟩, .slice none 0 0] := rep_sel.2 ⟨none, 0, rfl, Nat.le_refl _, fun h => absurd h (Nat.lt_irrefl 0)⟩
          obtain ⟨z0, zg, zo, zv⟩ := rsel_done (ho1.trans ho2) hW0 hgr (Nat.lt_succ_self r) hr5 hrep5
          have hdone := hide (RmG.ok (val := vSel) hat zo (h2.same zg) q1 zv)
          (
                obtain ⟨z1, z2, z3, -⟩ := sel_cells z0
                clear z0 zg zo zv)
          (
                obtain ⟨y0, y1, y2, hfr⟩ := sel_cells hr5
                have fr0 := hfr 0
                have fr1 := hfr 1
                have fr2 := hfr 2
                have hrl5 := blk_lt hr5
                clear hfr)
          clear hr5 hrep5 hat hnx hg c3 h2
          go_wp2
          exact end_sel rfl r _ _ _ rfl rfl z1 z2 z3 hdone.out
        · have k3 : (x.toList == [97, 108, 108]) = false := by rw [word_is]; exact decide_eq_false hx3
          rw [if_neg hx3] at hat
          replace hat := hide hat
          have hno : Hid (x ≠ xNot ∧ x ≠ xOpen ∧ x ≠ xAll) := hide ⟨hx1, hx2, hx3⟩
          clear hx1 hx2 hx3 hnx
          go_enter Tryz.func192, Tryz.ntmps192
          go_wp2_with (go_at_call 100; refine hg.mono ?_; rintro en w' ⟨rfl, rfl⟩)
          go_loopw [4] (fun i wr => ∃ k : Nat, k ≤ 6 ∧ i = .int .i64 k ∧ Hid (∀ j, j < k → selWs[j]? ≠ some x) ∧ Below W.heap.size W wr) (fun i _ => 6 - (intOf i).toNat)
          case atStart => exact ⟨0, Nat.zero_le _, rfl, hide fun j hj => absurd hj (Nat.not_lt_zero _), Below.refl _ _⟩
          case round =>
            obtain ⟨k, hk, rfl, hnone, hbr⟩ := hrel
            have hrrr := hrr.later hbr
            have hr2 : wr.heap[r]? = _ := (hbr.block r (blk_lt hr1)).trans hr1
            by_cases hk6 : k < 6
            · obtain ⟨z, hz⟩ : ∃ z, selWs[k]? = some z := ⟨_, List.getElem?_eq_getElem (by show k < 6; exact hk6)⟩
              have hLr : Lvs wr := by obtain ⟨tt, rr, h9⟩ := hL1; exact ⟨tt, rr, (hbr.block _ (blk_lt h9)).trans h9⟩
              have hcz := hLr.cell hz
              obtain ⟨c0, c1, c2, c3, c4, c8, hf9, hgl9⟩ := rr_cells hrrr
              have hbd : Below W.heap.size W wr.drew := ext_drew hbr
              have hGl : (1 : Nat) < wr.heap.size := by obtain ⟨tt, rr, h9⟩ := hLr; exact blk_lt h9
              have k0 : (0 : Int) ≤ (k : Int) := by omega
              have k1' : (k : Int) < 6 := by omega
              clear hf9 c0 c1 c2 c4 c8
              by_cases hxz : x = z
              · have hxk : (x.toList == z.toList) = true := by rw [toList_inj]; exact decide_eq_true hxz
                have hkk : Hid (leafK selWs x = k) := hide (leafK_at selWs x k hnone.out (.inr (by rw [hxz]; exact hz)))
                have hat2 : Hid (atomP codeB selWs t e (n0 + 1) a = (match identP codeB t e b with | .error y => .error y | .ok (n, c) => .ok (.mk (2 + (k : Int)) n [], c))) := hide (by
                  rw [hat.out, hkk.out, if_pos (by show k < 6; exact hk6)])
                have hrd := hrr.later hbd
                have hnx := rnext_walk g t e b x p wr.drew hrd q1 hs
                have hrdr : wr.drew.heap[r]? = _ := (hbd.block r (blk_lt hr1)).trans hr1
                have hbo : Only g w wr.drew := ho1.trans (only_of_below hbd _)
                have hszd := hbd.size
                rw [hWs.out] at hszd
                have e2 : IntKind.i64.wrap (2 + (k : Int)) = 2 + (k : Int) := IntWalk.i64_in _ (by omega)
                clear hat hkk hz hnone hg hrrr hr2
                replace hxz := hide hxz
                go_wp2
                go_region
                clear c3 hcz
                go_wp2_with fail
                refine hnx.mono ?_
                rintro en w1 ⟨rfl, ho2, h2⟩
                have hid := rname_walk g t e b w1 h2 hs
                have hs2 := ho2.size
                have hr4 : w1.heap[r]? = _ := (ho2.block r (blk_lt hrdr) (by intro e; injection e with e; omega)).trans hrdr
                clear hnx
                go_wp2_with fail
                refine hid.mono ?_
                rintro en w3 ⟨ho4, hm⟩
                clear hid
                have hs4 := ho4.size
                obtain ⟨n, rfl, hsta⟩ : ∃ n, en = .returned (.string n) ∧ ∀ W' u, W'.heap[g]? = w3.heap[g]? → Only g w W' → vSel w W' (.mk (2 + (k : Int)) n []) u → RmG g t e vSel (atomP codeB selWs t e (n0 + 1) a) w (.returned u) W' := by
                  cases hp : identP codeB t e b with
                  | error y =>
                    have hz := hat2.out
                    rw [hp] at hm hz
                    obtain ⟨hbd, n, v, rfl, he⟩ := hm
                    exact ⟨n, he, fun W' u e1 e2 e3 => RmG.err hz e2 (hbd.same e1) e3⟩
                  | ok z =>
                    have hz := hat2.out
                    obtain ⟨n, c⟩ := z
                    rw [hp] at hm hz
                    obtain ⟨hrd, hcl, v, rfl, he⟩ := hm
                    exact ⟨n, he, fun W' u e1 e2 e3 => RmG.ok hz e2 (hrd.same e1) hcl e3⟩
                have hr5 : w3.heap[r]? = _ := (ho4.block r (blk_lt hr4) (by intro e; injection e with e; omega)).trans hr4
                have hrep5 : kSel.rep (fun b => r + 1 ≤ b) w3 (.mk (2 + (k : Int)) n []) [.int .i64 (2 + (k : Int)), .string n, .slice none 0 0] := rep_sel.2 ⟨none, 0, rfl, Nat.le_refl _, fun h => absurd h (Nat.lt_irrefl 0)⟩
                obtain ⟨z0, zg, zo, zv⟩ := rsel_done (hbo.trans (ho2.trans ho4)) hW0 hgr (Nat.lt_succ_self r) hr5 hrep5
                have hdone := hide (hsta _ _ zg zo zv)
                (
                      obtain ⟨z1, z2, z3, -⟩ := sel_cells z0
                      clear z0 zg zo zv)
                (
                      obtain ⟨y0, y1, y2, hfr⟩ := sel_cells hr5
                      have fr0 := hfr 0
                      have fr1 := hfr 1
                      have fr2 := hfr 2
                      have hrl5 := blk_lt hr5
                      clear hfr)
                clear hr5 hrep5 hat2 hr4 hm hsta
                go_wp2
                exact end_sel rfl r _ _ _ rfl rfl z1 z2 z3 hdone.out
              · have hxk : (x.toList == z.toList) = false := by rw [toList_inj]; exact decide_eq_false hxz
                have hn2 : Hid (∀ j, j < k + 1 → selWs[j]? ≠ some x) := hide fun j hj => by
                  by_cases hjk : j = k
                  · subst hjk; rw [hz]; intro e; injection e with e; exact hxz e.symm
                  · exact hnone.out j (by omega)
                clear hz hnone hg
                replace hxz := hide hxz
                go_wp2
                go_region
                go_wp2
                go_roundw
                case rel => exact ⟨k + 1, by omega, by go_num, hn2, hbd⟩
                case measure => simp [intOf]; omega
            · obtain rfl : k = 6 := by omega
              have hkk : leafK selWs x = 6 := leafK_at selWs x 6 hnone.out (.inl rfl)
              have hz : atomP codeB selWs t e (n0 + 1) a = .error (p, 15) := by
                rw [hat.out, hkk, if_neg (by show ¬ 6 < 6; omega)]
              have hsy := rsyntax_walk g t e b x p wr hrrr q3 (by omega) q1 q2
              clear hat hkk hnone hg
              go_wp2_with fail
              refine hsy.mono ?_
              rintro en w1 ⟨rfl, ho2, h2⟩
              have hr5 : w1.heap[r]? = _ := (ho2.block r (blk_lt hr2) (by intro e; injection e with e; omega)).trans hr2
              have hrep5 : kSel.rep (fun b => r + 1 ≤ b) w1 (.mk 0 ⟨#[]⟩ []) [.int .i64 0, .string ⟨#[]⟩, .slice none 0 0] := rep_sel.2 ⟨none, 0, rfl, Nat.le_refl _, fun h => absurd h (Nat.lt_irrefl 0)⟩
              obtain ⟨z0, zg, zo, zv⟩ := rsel_done (ho1.trans ((only_of_below hbr _).trans ho2)) hW0 hgr (Nat.lt_succ_self r) hr5 hrep5
              have hdone := hide (RmG.err (val := vSel) hz zo (h2.same zg) zv)
              (
                    obtain ⟨z1, z2, z3, -⟩ := sel_cells z0
                    clear z0 zg zo zv)
              (
                    obtain ⟨y0, y1, y2, hfr⟩ := sel_cells hr5
                    have fr0 := hfr 0
                    have fr1 := hfr 1
                    have fr2 := hfr 2
                    have hrl5 := blk_lt hr5
                    clear hfr)
              clear hr5 hrep5 hz hr2 h2 hsy
              go_wp2
              exact end_sel rfl r _ _ _ rfl rfl z1 z2 z3 hdone.out
theorem ratom_all : ∀ f, AtomRAt f
  | 0 => fun _ _ _ _ _ _ _ _ _ _ hf => absurd hf (Nat.not_lt_zero _)
  | f + 1 => ratom_step f (ratom_all f)
end Go.Proofs.YtdnnahdafhddlaaGreatDoor

namespace Go.Proofs.YtdnnahdafhddlaaGreatDoor
open Go.RowKit
set_option maxRecDepth 100000

section
variable {α : Type} (p : α → Bool)
def backL (l : List α) : List α := (l.reverse.dropWhile p).reverse
theorem backL_cons (x : α) (l : List α) : backL p (x :: l) = if backL p l = [] then (if p x then [] else [x]) else x :: backL p l := by
  unfold backL
  rw [List.reverse_cons, List.dropWhile_append]
  cases h : l.reverse.dropWhile p with
  | nil => by_cases hx : p x = true <;> simp [hx]
  | cons a r => simp
theorem trim_front {x : α} {l : List α} (h : p x = true) : (backL p (x :: l)).dropWhile p = (backL p l).dropWhile p := by
  rw [backL_cons]
  by_cases h0 : backL p l = []
  · rw [if_pos h0, if_pos h, h0]
  · rw [if_neg h0, List.dropWhile_cons, if_pos h]
theorem trim_back {x : α} {l : List α} (h : p x = true) : backL p (l ++ [x]) = backL p l := by
  unfold backL
  rw [List.reverse_append]
  show ((x :: l.reverse).dropWhile p).reverse = _
  rw [List.dropWhile_cons, if_pos h]
theorem trim_keep {l : List α} (h1 : ∀ x, l.head? = some x → p x = false) (h2 : ∀ x, l.getLast? = some x → p x = false) : (backL p l).dropWhile p = l := by
  have e : backL p l = l := by
    unfold backL
    cases hl : l.reverse with
    | nil => simp at hl; simp [hl]
    | cons x r =>
      have hx := h2 x (by rw [← List.head?_reverse, hl]; rfl)
      rw [List.dropWhile_cons, if_neg (by rw [hx]; decide), ← hl, List.reverse_reverse]
  rw [e]
  cases l with
  | nil => rfl
  | cons x r => rw [List.dropWhile_cons, if_neg (by rw [h1 x rfl]; decide)]
end
theorem trimB_eq (z : ByteArray) : trimB z = ⟨((backL (List.contains [32]) z.data.toList).dropWhile (List.contains [32])).toArray⟩ := rfl
theorem sp_is (x : UInt8) : List.contains [32] x = decide (x.toNat = 32) := by
  rw [Bool.eq_iff_iff]
  simp [← UInt8.toNat_inj]
theorem bytes_cons {z : ByteArray} (hz : 0 < z.size) : z.data.toList = z[0] :: (z.extract 1 z.size).data.toList := by
  have hl : z.data.toList.length = z.size := ba_len z
  rw [extract_list, List.take_of_length_le (by rw [List.length_drop]; omega)]
  have h0 : 0 < z.data.toList.length := by omega
  have h1 : z.data.toList[0] = z[0] := rfl
  rw [← h1]
  exact (List.getElem_cons_drop h0).symm
theorem bytes_snoc {z : ByteArray} {q : Nat} (hq : z.size = q + 1) : z.data.toList = (z.extract 0 q).data.toList ++ [z[q]] := by
  have hl : z.data.toList.length = z.size := ba_len z
  have h := List.take_append_drop q z.data.toList
  rw [List.drop_eq_getElem_cons (by omega), List.drop_eq_nil_of_le (by omega)] at h
  rw [extract_list, List.drop_zero, Nat.sub_zero]
  exact h.symm
theorem trimB_front {z : ByteArray} (hz : 0 < z.size) (h : z[0].toNat = 32) : trimB (z.extract 1 z.size) = trimB z := by
  rw [trimB_eq z, bytes_cons hz, trim_front _ (by rw [sp_is]; exact decide_eq_true h)]
  rfl
theorem trimB_back {z : ByteArray} {q : Nat} (hq : z.size = q + 1) (h : z[q].toNat = 32) : trimB (z.extract 0 q) = trimB z := by
  rw [trimB_eq z, bytes_snoc hq, trim_back _ (by rw [sp_is]; exact decide_eq_true h)]
  rfl
theorem trimB_keep {z : ByteArray} (h1 : ∀ hz : 0 < z.size, z[0].toNat ≠ 32) (h2 : ∀ q (hq : z.size = q + 1), z[q].toNat ≠ 32) : trimB z = z := by
  have hl : z.data.toList.length = z.size := ba_len z
  rw [trimB_eq, trim_keep]
  · intro x hx
    by_cases hz : 0 < z.size
    · rw [bytes_cons hz] at hx
      injection hx with hx
      subst hx
      rw [sp_is]
      exact decide_eq_false (h1 hz)
    · rw [List.eq_nil_of_length_eq_zero (by omega : z.data.toList.length = 0)] at hx
      cases hx
  · intro x hx
    by_cases hz : 0 < z.size
    · obtain ⟨q, hq⟩ : ∃ q, z.size = q + 1 := ⟨z.size - 1, by omega⟩
      rw [bytes_snoc hq, List.getLast?_append] at hx
      simp at hx
      subst hx
      rw [sp_is]
      exact decide_eq_false (h2 q hq)
    · rw [List.eq_nil_of_length_eq_zero (by omega : z.data.toList.length = 0)] at hx
      cases hx
/-- Block b holds these strings first. -/
def RowT (w : World) (b : Nat) (l : List ByteArray) : Prop := ∃ (cs : Array Value) (ty : TypeId), w.heap[b]? = some (.cells cs ty (0, 0)) ∧ ∀ (j : Nat) (z : ByteArray), l[j]? = some z → cs[j]? = some (Value.string z)
theorem RowT.get {w : World} {b j : Nat} {l : List ByteArray} {z : ByteArray} (h : RowT w b l) (hj : l[j]? = some z) : w.cell? ⟨b, j, none⟩ = some (.string z) ∧ w.frozen? ⟨b, j, none⟩ = false ∧ b < w.heap.size := by
  obtain ⟨cs, ty, h1, h2⟩ := h
  refine ⟨?_, by simp [World.frozen?, h1], blk_lt h1⟩
  rw [cell_of_row w b j _ _ _ h1]
  exact h2 j z hj
theorem RowT.set {w : World} {b j : Nat} {l : List ByteArray} (h : RowT w b l) (z : ByteArray) : RowT (w.setCell ⟨b, j, none⟩ (.string z)) b (l.set j z) := by
  obtain ⟨cs, ty, h1, h2⟩ := h
  refine ⟨cs.setIfInBounds j (.string z), ty, ?_, fun i y hi => ?_⟩
  · simp only [World.setCell, Array.getElem?_modify, h1]
    rfl
  · rw [List.getElem?_set] at hi
    by_cases hij : j = i
    · subst hij
      rw [if_pos rfl] at hi
      split at hi
      · rename_i hlt
        injection hi with hi
        subst hi
        have := h2 j _ (List.getElem?_eq_getElem hlt)
        have := (Array.getElem?_eq_some_iff.1 this).1
        simp [this]
      · cases hi
    · rw [if_neg hij] at hi
      rw [Array.getElem?_setIfInBounds, if_neg hij]
      exact h2 i y hi
theorem RowT.later {w w' : World} {b : Nat} {l : List ByteArray} (h : RowT w b l) (hb : Below w.heap.size w w') : RowT w' b l := by
  obtain ⟨cs, ty, h1, h2⟩ := h
  exact ⟨cs, ty, (hb.block b (blk_lt h1)).trans h1, h2⟩
theorem RowT.at {w : World} {b : Nat} {l : List ByteArray} (h : RowT w b l) {S : Nat → Prop} (hS : S b) : At kStr S w (some ⟨b, 0, none⟩) l := by
  obtain ⟨cs, ty, h1, h2⟩ := h
  refine fun _ => ⟨b, 0, rfl, hS, blk_lt h1, fun j x hx => ⟨[.string x], rfl, fun i u hu => ?_⟩⟩
  match i, hu with
  | 0, hu =>
    simp at hu
    subst hu
    rw [cell_of_row w b _ _ _ _ h1]
    simpa [kStr] using h2 j x hx
  | i + 1, hu => simp at hu
/-- The pieces of a text, as a row that may be written. -/
theorem split_row {s : ByteArray} {w w' : World} {en : Ending} (h : SplitGives s w en w') : ∃ gb cap, en = .returned (.slice (some ⟨gb, 0, none⟩) (splitOn1 59 s.data.toList).length cap) ∧ (splitOn1 59 s.data.toList).length ≤ cap ∧ w.heap.size ≤ gb ∧ RowT w' gb ((splitOn1 59 s.data.toList).map fun x => ⟨x.toArray⟩) ∧ Below w.heap.size w w' := by
  obtain ⟨v, rfl, hv, hb⟩ := h
  unfold StrsAt at hv
  have hne : 0 < (splitOn1 59 s.data.toList).length := by
    cases s.data.toList with
    | nil => simp [splitOn1]
    | cons x r =>
      unfold splitOn1
      split
      · simp
      · split <;> simp
  have hv2 := hv
  rcases hv.2 with ⟨_, h0⟩ | ⟨g, cap, cur, he, hB, hg, hn, _, _, _⟩
  · omega
  · subst he
    refine ⟨g, cap, rfl, hn, hB, ⟨cur, _, hg, fun j z hz => ?_⟩, hb⟩
    have := hv2.cells (g := g) rfl j (.string z) (by
      rw [List.getElem?_map] at hz ⊢
      cases hq : (splitOn1 59 s.data.toList)[j]? with
      | none => rw [hq] at hz; cases hz
      | some x => rw [hq] at hz; injection hz with hz; subst hz; rfl)
    rw [Addr.add_lit, cell_of_row _ _ _ _ _ _ hg] at this
    simpa using this

def szAt (b j : Nat) (w : World) : Nat := match w.cell? ⟨b, j, none⟩ with
  | some (.string s) => s.size
  | _ => 0
theorem szAt_row {w : World} {b j : Nat} {l : List ByteArray} {z : ByteArray} (h : RowT w b l) (hj : l[j]? = some z) : szAt b j w = z.size := by
  unfold szAt
  rw [(h.get hj).1]
theorem set_twice (l : List ByteArray) (j : Nat) (x y : ByteArray) : (l.set j x).set j y = l.set j y := List.set_set ..
theorem set_at {l : List ByteArray} {j : Nat} (h : j < l.length) (x : ByteArray) : (l.set j x)[j]? = some x := by
  rw [List.getElem?_set, if_pos rfl, if_pos h]
set_option maxHeartbeats 2000000 in
theorem rbracket_bad (g : Nat) (t : ByteArray) (e : Nat) (y : Nat × Int) (w : World) (h : RBad w g t e y) :
    Calls Tryz.prog 154 #[.pointer (some ⟨g, 0, none⟩)] w fun en w' => en = .returned (.slice none 0 0) ∧ Only g w w' ∧ RBad w' g t e y := by
  obtain ⟨p, x, f, hr, h0, h1⟩ := id h
  have hg := rgood_walk g t e p x f _ _ w hr
  rw [show (y.2 == 0) = false from by rw [beq_eq_false_iff_ne]; exact h0] at hg
  clear h0 h1 hr
  replace h := hide h
  go_enter Tryz.func154, Tryz.ntmps154
  go_wp2_with (go_at_call 100; refine hg.mono ?_; rintro en w' ⟨rfl, rfl⟩)
  go_ret
  exact ⟨rfl, Only.refl _ _, h.out⟩
theorem r3partsS_walk (s : ByteArray) (hs : s.size < 1073741824) (w : World) :
    Calls Tryz.prog 193 #[.string s] w fun e w' => SplitGives s w e w' := by
  have hcall := r3split_walk s hs w
  go_enter Tryz.func193, Tryz.ntmps193
  go_wp2_with fail
  refine hcall.mono ?_
  rintro e w1 ⟨v, rfl, hv, hb⟩
  go_wp2
  go_ret
  exact ⟨_, rfl, hv, hb⟩
/-- The row while its strings are trimmed: the first j are, the next is so far y. -/
def rowJ (l : List ByteArray) (j : Nat) (y : ByteArray) : List ByteArray := (trimTo l j).set j y
theorem rowJ_at {l : List ByteArray} {j : Nat} (h : j < l.length) (y : ByteArray) : (rowJ l j y)[j]? = some y := set_at (by rw [trimTo_len]; exact h) y
theorem rowJ_set (l : List ByteArray) (j : Nat) (x y : ByteArray) : (rowJ l j x).set j y = rowJ l j y := set_twice _ _ _ _
theorem rowJ_first {l : List ByteArray} {j : Nat} {z : ByteArray} (h : l[j]? = some z) : rowJ l j z = trimTo l j := by
  have h1 := trimTo_get h
  unfold rowJ
  refine List.ext_getElem? fun i => ?_
  rw [List.getElem?_set]
  by_cases e : j = i
  · subst e
    rw [if_pos rfl, if_pos (List.getElem?_eq_some_iff.1 h1).1, h1]
  · rw [if_neg e]
theorem rowJ_done {l : List ByteArray} {j : Nat} {z : ByteArray} (h : l[j]? = some z) : rowJ l j (trimB z) = trimTo l (j + 1) := trimTo_set h
set_option maxHeartbeats 8000000 in
theorem rbracket_walk (g : Nat) (t : ByteArray) (e : Nat) (a : Nat) (w : World) (h : RdyAt w g t e a) (hs : t.size + e < 1073741824) :
    Calls Tryz.prog 154 #[.pointer (some ⟨g, 0, none⟩)] w fun en w' => RmG g t e vStrs (brackP gramT t e a) w en w' := by
  have hnil : ∀ W : World, vStrs w W [] (.slice none 0 0) := fun W => ⟨none, 0, rfl, Nat.le_refl _, fun h => absurd h (Nat.lt_irrefl 0)⟩
  cases hl : lookT t e a with
  | bad b => exact (rbracket_bad g t e (b, 5) w (rdy_is_bad hl h)).mono fun en w' ⟨he, ho, hb⟩ => by rw [he]; exact RmG.err (x := []) (by unfold brackP; rw [nextP_bad hl]) ho hb (hnil _)
  | tok x p =>
    obtain ⟨hr, h1, h2, h3⟩ := rdy_is_tok hl h
    have hg := rgood_walk g t e _ x p _ _ w hr
    rw [show ((0 : Int) == 0) = true from rfl] at hg
    obtain ⟨b, hb⟩ : ∃ b, startT t a + x.size = b := ⟨_, rfl⟩
    have hn := nextP_tok hl
    rw [hb] at hr h1 hn
    obtain ⟨c0, c1, c2, c3, c4, c8, hf, hgl⟩ := rr_cells hr
    have hsy := rsyntax_walk g t e b x p w hr h3 (by omega) h1 h2
    by_cases hx : x = xSq
    · have hxk : (x.toList == [91]) = true := by rw [word_is]; exact decide_eq_true hx
      obtain ⟨q, hq⟩ : ∃ q, passT (fun c => c != 93) t b = q := ⟨_, rfl⟩
      have hqt : q ≤ t.size := by rw [← hq]; exact passT_in _ t h1
      have hbq : b ≤ q := by rw [← hq]; exact passT_ge _ t b
      have hbr : brackP gramT t e a = if q < t.size then .ok (bracketL (t.extract b q), q + 1) else .error (p, 15) := by
        unfold brackP
        rw [hn]
        show (if x = xSq then _ else _) = _
        rw [if_pos hx, hq]
        rfl
      have hpc := pass_cut 93 t _ b rfl h1
      rw [hq] at hpc
      have hdr : (t.extract b t.size).data.toList = t.data.toList.drop b := by rw [extract_list, List.take_of_length_le (by rw [List.length_drop, ba_len]; exact Nat.le_refl _)]
      rw [← hdr] at hpc
      have hcut := fun V : World => r5Cut_walk (t.extract b t.size) 93 93 rfl _ _ _ (by rw [ByteArray.size_extract]; omega) hpc V
      obtain ⟨yy, hyy⟩ : ∃ yy : ByteArray, (⟨(t.data.toList.drop (q + 1)).toArray⟩ : ByteArray) = yy := ⟨_, rfl⟩
      rw [show (⟨(t.extract b q).data.toList.toArray⟩ : ByteArray) = t.extract b q from rfl, hyy] at hcut
      have hbi : (b : Int) ≤ (t.size : Int) := by omega
      clear hf h hb hl hn hpc hdr hyy
      replace hx := hide hx
      by_cases hlt : q < t.size
      · rw [if_pos hlt] at hbr
        rw [decide_eq_true hlt] at hcut
        replace hbr := hide hbr
        have hesz : (t.extract b q).size = q - b := by rw [ByteArray.size_extract]; omega
        obtain ⟨Z, hZ⟩ : ∃ Z, t.extract b q = Z := ⟨_, rfl⟩
        rw [hZ] at hcut hbr hesz
        have hC : Cn2 g 0 (.string t) g 2 (.int .i64 b) w := ⟨c0, c2⟩
        have hcw := hide (fun (V : World) (hV : Below w.heap.size w V) => (hcut V).mono fun e w' ⟨he, hb⟩ => (⟨he, ext_trans hV hb, hC.later (ext_trans hV hb)⟩ : e = Ending.returned (.tuple #[.string Z, .string yy, .bool true]) ∧ Below w.heap.size w w' ∧ Cn2 g 0 (.string t) g 2 (.int .i64 b) w'))
        have hbw : Below w.heap.size w w := Below.refl _ _
        replace hZ := hide hZ
        replace hesz := hide hesz
        clear hcut hsy hnil
        go_enter Tryz.func154, Tryz.ntmps154
        go_wp2_with (go_at_call 100; refine hg.mono ?_; rintro en w' ⟨rfl, rfl⟩)
        go_upto_region 5 with (go_at_call 100; refine hg.mono ?_; rintro en w' ⟨rfl, rfl⟩)
        have hCd := hC.drew
        go_region_held3 (fun W' => W'.cell? ⟨g, 0, none⟩ = some (.string t) ∧ W'.cell? ⟨g, 2, none⟩ = some (.int .i64 b)) (first | ((repeat (first | (with_reducible assumption) | (with_reducible refine Cn2.alloc ?_ _) | (with_reducible refine Cn2.drew ?_) | (with_reducible refine Cn2.set ?_ ?_ ?_ _) | omega)); done)) (first | (go_at_call 56; refine (hcw.out _ (by repeat (first | (with_reducible assumption) | (with_reducible refine ext_alloc ?_ _) | (with_reducible refine ext_drew ?_)))).mono ?_; rintro e w3 ⟨rfl, hb3, hx3⟩))
        clear hC hCd hcw hbw hx3 c0 c1 c2 c3 c4 c8 hg
        have hr3 := hr.later hb3
        obtain ⟨c0, c1, c2, c3, c4, c8, hf3, hgl3⟩ := rr_cells hr3
        have f2 := hf3 2
        have hes := hesz.out
        have e1 : IntKind.i64.wrap ((Z.size : Int) + 1) = (Z.size : Int) + 1 := IntWalk.i64_in _ (by omega)
        have e2 : IntKind.i64.wrap ((b : Int) + ((Z.size : Int) + 1)) = ((q + 1 : Nat) : Int) := (IntWalk.i64_in _ (by omega)).trans (by omega)
        have hset := rr_pos hr3 (q + 1)
        have hnx := rnext_walk g t e (q + 1) x p _ hset.1 (by omega) hs
        have ho3 := (only_of_below hb3 _).trans hset.2
        have hZs : Z.size < 1073741824 := by omega
        clear hf3 hr hr3 hb3 hset hes
        go_wp2_with fail
        refine hnx.mono ?_
        rintro en w5 ⟨rfl, ho5, h5⟩
        have ho5 := ho3.trans ho5
        clear hnx c0 c1 c2 c3 c4 c8 f2 ho3
        have hpa := r3partsS_walk Z hZs w5
        go_wp2_with fail
        refine hpa.mono ?_
        intro en w6 h6
        obtain ⟨gb, cap, rfl, hcap, hgb, hrow, hb6⟩ := split_row h6
        clear hpa h6
        have hgr5 := h5.lt
        have h7 := h5.later hb6
        have ho7 := Only.later ho5 hb6
        obtain ⟨zs, hzs⟩ : ∃ zs : List ByteArray, (splitOn1 59 Z.data.toList).map (fun x => (⟨x.toArray⟩ : ByteArray)) = zs := ⟨_, rfl⟩
        obtain ⟨N, hN⟩ : ∃ N, (splitOn1 59 Z.data.toList).length = N := ⟨_, rfl⟩
        have hzl : zs.length = N := by rw [← hzs, List.length_map, hN]
        have hbl : bracketL Z = zs.map trimB := by
          unfold bracketL
          rw [← hzs, ← splitB_one, List.map_map, List.map_map]
          rfl
        rw [hbl] at hbr
        rw [hzs] at hrow
        rw [hN] at hcap ⊢
        have hrow0 : RowT w6 gb (trimTo zs 0) := hrow
        have hsplit : Lib.splitB ⟨#[59]⟩ 0 (Lib.countB Z ⟨#[59]⟩) Z = zs := by
          rw [← hzs, ← splitB_one, List.map_map]
          exact (List.map_id _).symm
        have hzb := hide (fun z (hz : z ∈ zs) => Nat.le_trans (splitB_mem hsplit hz) (Nat.le_of_lt hZs))
        have hNl : N ≤ 9223372036854775807 := by
          have h1 := splitOn1_len 59 Z.data.toList
          rw [ba_len, hN] at h1
          omega
        have hgb1 : w.heap.size ≤ gb := Nat.le_trans ho5.size hgb
        have hgne : g ≠ gb := by omega
        replace hzl := hide hzl
        clear hrow hb6 hzs hN hbl h5 hsplit
        go_wp2
        go_loopw [7] (fun i wr => ∃ j : Nat, j ≤ N ∧ i = .int .i64 j ∧ RowT wr gb (trimTo zs j) ∧ RdyAt wr g t e (q + 1) ∧ Only g w wr) (fun i _ => N - (intOf i).toNat)
        case atStart => exact ⟨0, Nat.zero_le _, rfl, hrow0, h7, ho7⟩
        case round =>
          clear hrow0 h7 ho7
          obtain ⟨j, hj, rfl, hrj, hrd, ho⟩ := hrel
          by_cases hjN : j < N
          · obtain ⟨z, hz⟩ : ∃ z, zs[j]? = some z := ⟨_, List.getElem?_eq_getElem (by rw [hzl.out]; exact hjN)⟩
            have hjl : j < zs.length := by rw [hzl.out]; exact hjN
            have hzz := hzb.out z (List.mem_of_getElem? hz)
            rw [← rowJ_first hz] at hrj
            have k0 : (0 : Int) ≤ (j : Int) := by omega
            have k1 : (j : Int) < (N : Int) := by omega
            go_wp2
            go_loopw [] (fun wr => ∃ y, RowT wr gb (rowJ zs j y) ∧ Hid (trimB y = trimB z) ∧ y.size ≤ z.size ∧ RdyAt wr g t e (q + 1) ∧ Only g w wr) (fun wr => szAt gb j wr)
            case atStart => exact ⟨z, hrj, hide rfl, Nat.le_refl _, hrd, ho⟩
            case round =>
              clear hrj hrd ho
              obtain ⟨y, hrj, hty, hyz, hrd, ho⟩ := hrel
              have hsz := hide (szAt_row hrj (rowJ_at hjl y))
              obtain ⟨cy, fy, gl⟩ := hrj.get (rowJ_at hjl y)
              by_cases hy0 : 0 < y.size
              · obtain ⟨n0, hn0⟩ : ∃ n0, y[0].toNat = n0 := ⟨_, rfl⟩
                have hyi : (0 : Int) < (y.size : Int) := by omega
                have hy1 : (1 : Int) ≤ (y.size : Int) := by omega
                by_cases h32 : n0 = 32
                · have hset := hrj.set (j := j) (y.extract 1 y.size)
                  rw [rowJ_set] at hset
                  have hty2 : Hid (trimB (y.extract 1 y.size) = trimB z) := hide (by rw [trimB_front hy0 (hn0.trans h32)]; exact hty.out)
                  have hrd2 : RdyAt (wr.setCell ⟨gb, j, none⟩ (.string (y.extract 1 y.size))) g t e (q + 1) := hrd.same (Below.heap_setCell _ _ _ g (by show g ≠ gb; exact hgne))
                  have ho2 : Only g w (wr.setCell ⟨gb, j, none⟩ (.string (y.extract 1 y.size))) := only_setCell ho (.inr hgb1) _
                  have hme : Hid (szAt gb j (wr.setCell ⟨gb, j, none⟩ (.string (y.extract 1 y.size))) < szAt gb j wr) := hide (by
                    rw [szAt_row hset (rowJ_at hjl _), hsz.out, ByteArray.size_extract]; omega)
                  subst h32
                  clear hrj hrd ho hty hsz
                  go_wp2
                  go_roundw
                  case rel => exact ⟨_, hset, hty2, by rw [ByteArray.size_extract]; omega, hrd2, ho2⟩
                  case measure => exact hme.out
                · have hne : ((n0 : Int) == 32) = false := by rw [beq_eq_false_iff_ne]; omega
                  have hfront : Hid (∀ hz : 0 < y.size, y[0].toNat ≠ 32) := hide (fun _ e => h32 (hn0.symm.trans e))
                  replace h32 := hide h32
                  (
                                    go_wp2_with fail
                                    clear hsz cy fy gl
                                    go_loopw [] (fun wr => ∃ y, RowT wr gb (rowJ zs j y) ∧ Hid (trimB y = trimB z) ∧ y.size ≤ z.size ∧ Hid (∀ hz : 0 < y.size, y[0].toNat ≠ 32) ∧ RdyAt wr g t e (q + 1) ∧ Only g w wr) (fun wr => szAt gb j wr)
                                    case atStart => exact ⟨y, hrj, hty, hyz, hfront, hrd, ho⟩
                                    case round =>
                                      clear hrj hty hfront hrd ho
                                      obtain ⟨y, hrj, hty, hyz, hfront, hrd, ho⟩ := hrel
                                      have hsz := hide (szAt_row hrj (rowJ_at hjl y))
                                      obtain ⟨cy, fy, gl⟩ := hrj.get (rowJ_at hjl y)
                                      by_cases hy0 : 0 < y.size
                                      · obtain ⟨k, hk⟩ : ∃ k, y.size = k + 1 := ⟨y.size - 1, by omega⟩
                                        have hkl : k < y.size := by omega
                                        obtain ⟨m0, hm0⟩ : ∃ m0, y[k].toNat = m0 := ⟨_, rfl⟩
                                        have hyi : (0 : Int) < (y.size : Int) := by omega
                                        have hkz : (0 : Int) ≤ (k : Int) := by omega
                                        have hki : (k : Int) < (y.size : Int) := by omega
                                        have hkj : (k : Int) ≤ (y.size : Int) := by omega
                                        have e9 : IntKind.i64.wrap ((y.size : Int) - 1) = (k : Int) := (IntWalk.i64_in _ (by omega)).trans (by omega)
                                        replace hk := hide hk
                                        by_cases h32 : m0 = 32
                                        · go_upto_region 17 with fail
                                          subst h32
                                          go_quiet (fail)
                                          have hrj3 := hrj.later (ext_drewN (Below.refl _ _) nq)
                                          have hrd3 := hrd.later (ext_drewN (Below.refl _ _) nq)
                                          have ho3 := Only.later ho (ext_drewN (Below.refl _ _) nq)
                                          have hsz3 : Hid (szAt gb j wr = y.size) := hsz
                                          clear hsz hrj hrd ho cy fy gl
                                          generalize wr.drewN nq = wx at *
                                          obtain ⟨cy, fy, gl⟩ := hrj3.get (rowJ_at hjl y)
                                          have hset := hrj3.set (j := j) (y.extract 0 k)
                                          rw [rowJ_set] at hset
                                          have hset2 := hset.later (ext_drew (Below.refl _ _))
                                          have hesz : (y.extract 0 k).size = k := by rw [ByteArray.size_extract]; omega
                                          have hk2 := hk.out
                                          have hty2 : Hid (trimB (y.extract 0 k) = trimB z) := hide (by rw [trimB_back hk2 hm0]; exact hty.out)
                                          have hyz2 : (y.extract 0 k).size ≤ z.size := by omega
                                          have hfr2 : Hid (∀ hz : 0 < (y.extract 0 k).size, (y.extract 0 k)[0].toNat ≠ 32) := hide (fun hz e => hfront.out hy0 (by rw [← e]; congr 1; rw [ByteArray.getElem_extract]))
                                          have hrd2 : RdyAt ((wx.setCell ⟨gb, j, none⟩ (.string (y.extract 0 k))).drew) g t e (q + 1) := (hrd3.same (Below.heap_setCell _ _ _ g (by show g ≠ gb; exact hgne))).later (ext_drew (Below.refl _ _))
                                          have ho2 : Only g w ((wx.setCell ⟨gb, j, none⟩ (.string (y.extract 0 k))).drew) := Only.later (only_setCell ho3 (.inr hgb1) _) (ext_drew (Below.refl _ _))
                                          have hme : Hid (szAt gb j ((wx.setCell ⟨gb, j, none⟩ (.string (y.extract 0 k))).drew) < szAt gb j wr) := hide (by
                                            rw [szAt_row hset2 (rowJ_at hjl _), hsz3.out, hesz]; omega)
                                          clear hrj3 hrd3 ho3 hset hk2 hesz hty hfront hsz3
                                          replace hme := hme
                                          go_wp2
                                          go_region
                                          go_wp2
                                          go_roundw
                                          case rel => exact ⟨_, hset2, hty2, hyz2, hfr2, hrd2, ho2⟩
                                          case measure => exact hme.out
                                        · have hne9 : ((m0 : Int) == 32) = false := by rw [beq_eq_false_iff_ne]; omega
                                          have hdone : trimB y = y := trimB_keep hfront.out (fun k' hk' => by
                                            obtain rfl : k' = k := by have := hk.out; omega
                                            rw [hm0]; exact h32)
                                          replace h32 := hide h32
                                          have hrow9 : rowJ zs j y = trimTo zs (j + 1) := by rw [← hdone, hty.out]; exact rowJ_done hz
                                          rw [hrow9] at hrj
                                          clear hdone hrow9 hty hfront hsz
                                          go_upto_region 17 with fail
                                          go_quiet (fail)
                                          have hrj3 := hrj.later (ext_drewN (Below.refl _ _) nq)
                                          have hrd3 := hrd.later (ext_drewN (Below.refl _ _) nq)
                                          have ho3 := Only.later ho (ext_drewN (Below.refl _ _) nq)
                                          clear hrj hrd ho cy fy gl
                                          generalize wr.drewN nq = wx at *
                                          go_wp2
                                          go_roundw
                                          case rel => exact ⟨j + 1, by omega, by go_num, hrj3, hrd3, ho3⟩
                                          case measure => simp [intOf]; omega
                                      · have hy0' : ¬ (0 : Int) < (y.size : Int) := by omega
                                        have hyd : decide ((0 : Int) < (y.size : Int)) = false := decide_eq_false hy0'
                                        have hdone : trimB y = y := trimB_keep hfront.out (fun k' hk' => by omega)
                                        have hrow9 : rowJ zs j y = trimTo zs (j + 1) := by rw [← hdone, hty.out]; exact rowJ_done hz
                                        rw [hrow9] at hrj
                                        clear hdone hrow9 hty hfront hsz
                                        go_upto_region 17 with fail
                                        go_quiet (fail)
                                        have hrj3 := hrj.later (ext_drewN (Below.refl _ _) nq)
                                        have hrd3 := hrd.later (ext_drewN (Below.refl _ _) nq)
                                        have ho3 := Only.later ho (ext_drewN (Below.refl _ _) nq)
                                        clear hrj hrd ho cy fy gl
                                        generalize wr.drewN nq = wx at *
                                        go_wp2
                                        go_roundw
                                        case rel => exact ⟨j + 1, by omega, by go_num, hrj3, hrd3, ho3⟩
                                        case measure => simp [intOf]; omega)
              · have hy0' : ¬ (0 : Int) < (y.size : Int) := by omega
                have hfront : Hid (∀ hz : 0 < y.size, y[0].toNat ≠ 32) := hide (fun hz => absurd hz hy0)
                (
                                  go_wp2_with fail
                                  clear hsz cy fy gl
                                  go_loopw [] (fun wr => ∃ y, RowT wr gb (rowJ zs j y) ∧ Hid (trimB y = trimB z) ∧ y.size ≤ z.size ∧ Hid (∀ hz : 0 < y.size, y[0].toNat ≠ 32) ∧ RdyAt wr g t e (q + 1) ∧ Only g w wr) (fun wr => szAt gb j wr)
                                  case atStart => exact ⟨y, hrj, hty, hyz, hfront, hrd, ho⟩
                                  case round =>
                                    clear hrj hty hfront hrd ho
                                    obtain ⟨y, hrj, hty, hyz, hfront, hrd, ho⟩ := hrel
                                    have hsz := hide (szAt_row hrj (rowJ_at hjl y))
                                    obtain ⟨cy, fy, gl⟩ := hrj.get (rowJ_at hjl y)
                                    by_cases hy0 : 0 < y.size
                                    · obtain ⟨k, hk⟩ : ∃ k, y.size = k + 1 := ⟨y.size - 1, by omega⟩
                                      have hkl : k < y.size := by omega
                                      obtain ⟨m0, hm0⟩ : ∃ m0, y[k].toNat = m0 := ⟨_, rfl⟩
                                      have hyi : (0 : Int) < (y.size : Int) := by omega
                                      have hkz : (0 : Int) ≤ (k : Int) := by omega
                                      have hki : (k : Int) < (y.size : Int) := by omega
                                      have hkj : (k : Int) ≤ (y.size : Int) := by omega
                                      have e9 : IntKind.i64.wrap ((y.size : Int) - 1) = (k : Int) := (IntWalk.i64_in _ (by omega)).trans (by omega)
                                      replace hk := hide hk
                                      by_cases h32 : m0 = 32
                                      · go_upto_region 17 with fail
                                        subst h32
                                        go_quiet (fail)
                                        have hrj3 := hrj.later (ext_drewN (Below.refl _ _) nq)
                                        have hrd3 := hrd.later (ext_drewN (Below.refl _ _) nq)
                                        have ho3 := Only.later ho (ext_drewN (Below.refl _ _) nq)
                                        have hsz3 : Hid (szAt gb j wr = y.size) := hsz
                                        clear hsz hrj hrd ho cy fy gl
                                        generalize wr.drewN nq = wx at *
                                        obtain ⟨cy, fy, gl⟩ := hrj3.get (rowJ_at hjl y)
                                        have hset := hrj3.set (j := j) (y.extract 0 k)
                                        rw [rowJ_set] at hset
                                        have hset2 := hset.later (ext_drew (Below.refl _ _))
                                        have hesz : (y.extract 0 k).size = k := by rw [ByteArray.size_extract]; omega
                                        have hk2 := hk.out
                                        have hty2 : Hid (trimB (y.extract 0 k) = trimB z) := hide (by rw [trimB_back hk2 hm0]; exact hty.out)
                                        have hyz2 : (y.extract 0 k).size ≤ z.size := by omega
                                        have hfr2 : Hid (∀ hz : 0 < (y.extract 0 k).size, (y.extract 0 k)[0].toNat ≠ 32) := hide (fun hz e => hfront.out hy0 (by rw [← e]; congr 1; rw [ByteArray.getElem_extract]))
                                        have hrd2 : RdyAt ((wx.setCell ⟨gb, j, none⟩ (.string (y.extract 0 k))).drew) g t e (q + 1) := (hrd3.same (Below.heap_setCell _ _ _ g (by show g ≠ gb; exact hgne))).later (ext_drew (Below.refl _ _))
                                        have ho2 : Only g w ((wx.setCell ⟨gb, j, none⟩ (.string (y.extract 0 k))).drew) := Only.later (only_setCell ho3 (.inr hgb1) _) (ext_drew (Below.refl _ _))
                                        have hme : Hid (szAt gb j ((wx.setCell ⟨gb, j, none⟩ (.string (y.extract 0 k))).drew) < szAt gb j wr) := hide (by
                                          rw [szAt_row hset2 (rowJ_at hjl _), hsz3.out, hesz]; omega)
                                        clear hrj3 hrd3 ho3 hset hk2 hesz hty hfront hsz3
                                        replace hme := hme
                                        go_wp2
                                        go_region
                                        go_wp2
                                        go_roundw
                                        case rel => exact ⟨_, hset2, hty2, hyz2, hfr2, hrd2, ho2⟩
                                        case measure => exact hme.out
                                      · have hne9 : ((m0 : Int) == 32) = false := by rw [beq_eq_false_iff_ne]; omega
                                        have hdone : trimB y = y := trimB_keep hfront.out (fun k' hk' => by
                                          obtain rfl : k' = k := by have := hk.out; omega
                                          rw [hm0]; exact h32)
                                        replace h32 := hide h32
                                        have hrow9 : rowJ zs j y = trimTo zs (j + 1) := by rw [← hdone, hty.out]; exact rowJ_done hz
                                        rw [hrow9] at hrj
                                        clear hdone hrow9 hty hfront hsz
                                        go_upto_region 17 with fail
                                        go_quiet (fail)
                                        have hrj3 := hrj.later (ext_drewN (Below.refl _ _) nq)
                                        have hrd3 := hrd.later (ext_drewN (Below.refl _ _) nq)
                                        have ho3 := Only.later ho (ext_drewN (Below.refl _ _) nq)
                                        clear hrj hrd ho cy fy gl
                                        generalize wr.drewN nq = wx at *
                                        go_wp2
                                        go_roundw
                                        case rel => exact ⟨j + 1, by omega, by go_num, hrj3, hrd3, ho3⟩
                                        case measure => simp [intOf]; omega
                                    · have hy0' : ¬ (0 : Int) < (y.size : Int) := by omega
                                      have hyd : decide ((0 : Int) < (y.size : Int)) = false := decide_eq_false hy0'
                                      have hdone : trimB y = y := trimB_keep hfront.out (fun k' hk' => by omega)
                                      have hrow9 : rowJ zs j y = trimTo zs (j + 1) := by rw [← hdone, hty.out]; exact rowJ_done hz
                                      rw [hrow9] at hrj
                                      clear hdone hrow9 hty hfront hsz
                                      go_upto_region 17 with fail
                                      go_quiet (fail)
                                      have hrj3 := hrj.later (ext_drewN (Below.refl _ _) nq)
                                      have hrd3 := hrd.later (ext_drewN (Below.refl _ _) nq)
                                      have ho3 := Only.later ho (ext_drewN (Below.refl _ _) nq)
                                      clear hrj hrd ho cy fy gl
                                      generalize wr.drewN nq = wx at *
                                      go_wp2
                                      go_roundw
                                      case rel => exact ⟨j + 1, by omega, by go_num, hrj3, hrd3, ho3⟩
                                      case measure => simp [intOf]; omega)
          · obtain rfl : j = N := by omega
            have hall : trimTo zs j = zs.map trimB := by
              unfold trimTo
              rw [← hzl.out, List.take_length, List.drop_length, List.append_nil]
            rw [hall] at hrj
            have hfin : Hid (RmG g t e vStrs (brackP gramT t e a) w (.returned (.slice (some ⟨gb, 0, none⟩) j cap)) wr) := hide (RmG.ok hbr.out ho hrd hlt ⟨_, cap, by rw [List.length_map, hzl.out], by rw [List.length_map, hzl.out]; exact hcap, hrj.at hgb1⟩)
            clear hrj hrd ho hall
            go_wp2
            go_ret
            exact hfin.out
      · rw [if_neg hlt] at hbr
        rw [decide_eq_false hlt] at hcut
        replace hbr := hide hbr
        obtain ⟨Z, hZ⟩ : ∃ Z, t.extract b q = Z := ⟨_, rfl⟩
        rw [hZ] at hcut
        have hC : Cn2 g 0 (.string t) g 2 (.int .i64 b) w := ⟨c0, c2⟩
        have hcw := hide (fun (V : World) (hV : Below w.heap.size w V) => (hcut V).mono fun e w' ⟨he, hb⟩ => (⟨he, ext_trans hV hb, hC.later (ext_trans hV hb)⟩ : e = Ending.returned (.tuple #[.string Z, .string yy, .bool false]) ∧ Below w.heap.size w w' ∧ Cn2 g 0 (.string t) g 2 (.int .i64 b) w'))
        have hbw : Below w.heap.size w w := Below.refl _ _
        replace hZ := hide hZ
        clear hcut hsy
        go_enter Tryz.func154, Tryz.ntmps154
        go_wp2_with (go_at_call 100; refine hg.mono ?_; rintro en w' ⟨rfl, rfl⟩)
        go_upto_region 5 with (go_at_call 100; refine hg.mono ?_; rintro en w' ⟨rfl, rfl⟩)
        have hCd := hC.drew
        go_region_held3 (fun W' => W'.cell? ⟨g, 0, none⟩ = some (.string t) ∧ W'.cell? ⟨g, 2, none⟩ = some (.int .i64 b)) (first | ((repeat (first | (with_reducible assumption) | (with_reducible refine Cn2.alloc ?_ _) | (with_reducible refine Cn2.drew ?_) | (with_reducible refine Cn2.set ?_ ?_ ?_ _) | omega)); done)) (first | (go_at_call 56; refine (hcw.out _ (by repeat (first | (with_reducible assumption) | (with_reducible refine ext_alloc ?_ _) | (with_reducible refine ext_drew ?_)))).mono ?_; rintro e w3 ⟨rfl, hb3, hx3⟩))
        clear hC hCd hcw hbw hx3 c0 c1 c2 c3 c4 c8 hg
        have hr3 := hr.later hb3
        have hsy := rsyntax_walk g t e b x p w3 hr3 h3 (by omega) h1 h2
        have ho3 := only_of_below hb3 (some g)
        clear hr hr3 hb3
        go_wp2_with fail
        refine hsy.mono ?_
        rintro en w4 ⟨rfl, ho, h4⟩
        have hfin : Hid (RmG g t e vStrs (brackP gramT t e a) w (.returned (.slice none 0 0)) w4) := hide (RmG.err (x := []) hbr.out (ho3.trans ho) h4 (hnil _))
        clear hsy h4 ho ho3 hnil
        go_wp2
        go_ret
        exact hfin.out
    · have hxk : (x.toList == [91]) = false := by rw [word_is]; exact decide_eq_false hx
      have hz : brackP gramT t e a = .error (p, 15) := by unfold brackP; rw [hn]; exact if_neg hx
      replace hx := hide hx
      clear h hr h2 h3 hn hb hl hf
      replace hz := hide hz
      go_enter Tryz.func154, Tryz.ntmps154
      go_wp2_with (go_at_call 100; refine hg.mono ?_; rintro en w' ⟨rfl, rfl⟩)
      refine hsy.mono ?_
      rintro en w1 ⟨rfl, ho, h4⟩
      obtain ⟨p1, x1, f1, hr1, q1, -⟩ := id h4
      have hg1 := rgood_walk g t e p1 x1 f1 _ _ w1 hr1
      rw [show (((p, (15 : Int)) : Nat × Int).2 == 0) = false from rfl] at hg1
      replace h4 := hide h4
      clear hr1 q1 hsy hg c0 c1 c2 c3 c4 c8
      go_wp2_with (go_at_call 100; refine hg1.mono ?_; rintro en w' ⟨rfl, rfl⟩)
      go_ret
      exact RmG.err (x := []) hz.out ho h4.out (hnil _)
end Go.Proofs.YtdnnahdafhddlaaGreatDoor
