/- Walk of coursefile.Times. Conditions: the class's cells. -/
import Derived.Test.YtimcdikeajbabaaGreatDoorRows
import Derived.WalkKit
import Derived.WalkSpells
import Derived.WalkLawsBesides
import Derived.BigGuardPart
import Derived.Lib.Hide
import Derived.Laws.BitsAllLaws
import Derived.Laws.BitsLemmas
import Derived.Lib.LaidTab
import Derived.Test.YtimcdikeajbabaaGreatDoorShelf
import Derived.Lib.ConvBytes
import Derived.Deep.QuietTactic
import Derived.BigQuiet
import Derived.Test.YtimcdikeajbabaaGreatDoorShelfS
import Derived.Laws.ResultCell
import Derived.RegionTactic
import Derived.BigRegion
import Derived.Deep.RegionHeld3
import Derived.Deep.DeepCutAuto
import Derived.Lib.SmallJoins
import Derived.Lib.SplitLaws
import Derived.Lib.CountLaws
import Derived.Lib.IndexMore
import Derived.Lib.Split
import Derived.Lib.Join
import Derived.Lib.ItoaNum
import Derived.Laws.AppendOwn
import Derived.Test.YtimcdikeajbabaaGreatDoorShelfT
import Derived.Lib.ItoaLen
import Derived.Lib.AppendIntMem
import Derived.Deep.AppendLies
import Derived.Lib.PathFns
import Derived.Maps.Range
import Derived.Lib.OwnBridge
import Derived.Sort.OwnSorted
import Derived.Sort.Walk0
import Derived.Test.YtimcdikeajbabaaGreatDoorCards
import Derived.Test.YtimcdikeajbabaaGreatDoorTie
import Derived.ProofKit
import Derived.OpenShut
import Derived.LaidMore
import Derived.Lay
import Derived.SevenTiedAt
import Derived.Stop.Joined
import Derived.Stop.LaidErr
import Derived.Deep.DeepHandedRow
import Derived.Lib.LaidU8
import Derived.LaidSub
import Derived.Deep.Slices
import Derived.Deep.Fields
import Derived.ChangeSame
import Derived.WalkMore
import Derived.Test.YtimcdikeajbabaaGreatDoorZCBox
import Derived.Test.YtimcdikeajbabaaGreatDoorZPatRd
import Derived.Test.YtimcdikeajbabaaGreatDoorZHasK
import Derived.Test.YtimcdikeajbabaaGreatDoorZTimeA
namespace Go.Proofs.YtimcdikeajbabaaGreatDoor
open Go.RowKit
set_option maxRecDepth 100000

theorem flatK_at (len : Int) (bs : List (Int × Int)) (ps : List Int) {k : Nat} {p : Int} (h : ps[k]? = some p) : (ps.take (k + 1)).flatMap (patT len bs) = (ps.take k).flatMap (patT len bs) ++ patT len bs p := by
  rw [List.take_add_one, h]; simp
theorem patT_snoc (len : Int) (bs : List (Int × Int)) (p : Int) {j : Nat} {s : Int × Int} (h : bs[j]? = some s) : patT len (bs.take (j + 1)) p = patT len (bs.take j) p ++ [(p, s.1, s.2, len)] := by
  unfold patT
  rw [List.take_add_one, h]; simp
theorem flat_more (len : Int) (bs : List (Int × Int)) (ps : List Int) {k j : Nat} (hk : k < ps.length) (hj : j < bs.length) : ((ps.take k).flatMap (patT len bs)).length + j < (ps.flatMap (patT len bs)).length := by
  rw [patT_len, patT_len, List.length_take, Nat.min_eq_left (by omega)]
  have : k * bs.length + bs.length ≤ ps.length * bs.length := by
    rw [← Nat.succ_mul]
    exact Nat.mul_le_mul (by omega) (Nat.le_refl _)
  omega
set_option maxHeartbeats 8000000 in
theorem ctimes_walk (z co pa : ByteArray) (nl : Int) (A4 : Option Addr) (n4 c4 : Nat) (mm : Int) (A6 : Option Addr) (n6 c6 : Nat) (A7 : Option Addr) (n7 c7 : Nat) (A8 : Option Addr) (n8 c8 : Nat) (ps : List Int) (fs st : List ByteArray) (ss : List (Int × Int)) (d sl b m : Int) (w : World)
    (h4 : ps.length = n4) (h8 : ss.length = n8) (m4 : n4 ≤ 9223372036854775807) (m8 : n8 ≤ 9223372036854775807) (a4 : At kInt AnyB w A4 ps) (a8 : At kStart AnyB w A8 ss) :
    Calls Tryz.prog 17 #[.agg #[.string z, .string co, .string pa, .int .i64 nl, .slice A4 n4 c4, .int .i64 mm, .slice A6 n6 c6, .slice A7 n7 c7, .slice A8 n8 c8], .agg #[.int .i64 d, .int .i64 sl, .int .i64 b, .int .i64 m]] w fun e w' => ∃ v, e = .returned v ∧ Own kTime 49 [] 0 w.heap.size w' v (timesK d sl b m (z, co, pa, nl, ps, mm, fs, st, ss)) ∧ Below w.heap.size w w' := by
  have hb0 : Below w.heap.size w ((w.alloc (.cells #[.string z, .string co, .string pa, .int .i64 nl, .slice A4 n4 c4, .int .i64 mm, .slice A6 n6 c6, .slice A7 n7 c7, .slice A8 n8 c8] 47)).alloc (.cells #[.int .i64 d, .int .i64 sl, .int .i64 b, .int .i64 m] 24)) := (by repeat (first | exact Below.refl _ _ | refine ext_alloc ?_ _ | refine ext_drewN ?_ _ | refine ext_drew ?_ | refine ext_trans ?_ (by assumption)))
  have hz : (w.alloc (.cells #[.string z, .string co, .string pa, .int .i64 nl, .slice A4 n4 c4, .int .i64 mm, .slice A6 n6 c6, .slice A7 n7 c7, .slice A8 n8 c8] 47)).heap.size = w.heap.size + 1 := World.size_alloc _ _
  have hC0 := (cbox_new w ⟨z, co, pa, nl, A4, n4, c4, mm, A6, n6, c6, A7, n7, c7, A8, n8, c8⟩).alloc (.cells #[.int .i64 d, .int .i64 sl, .int .i64 b, .int .i64 m] 24)
  have bG := Box4.new (w.alloc (.cells #[.string z, .string co, .string pa, .int .i64 nl, .slice A4 n4 c4, .int .i64 mm, .slice A6 n6 c6, .slice A7 n7 c7, .slice A8 n8 c8] 47)) 24 (.int .i64 d) (.int .i64 sl) (.int .i64 b) (.int .i64 m)
  rw [hz] at bG
  obtain ⟨W, hW⟩ : ∃ W, (w.alloc (.cells #[.string z, .string co, .string pa, .int .i64 nl, .slice A4 n4 c4, .int .i64 mm, .slice A6 n6 c6, .slice A7 n7 c7, .slice A8 n8 c8] 47)).alloc (.cells #[.int .i64 d, .int .i64 sl, .int .i64 b, .int .i64 m] 24) = W := ⟨_, rfl⟩
  have hC : CBox W w.heap.size ⟨z, co, pa, nl, A4, n4, c4, mm, A6, n6, c6, A7, n7, c7, A8, n8, c8⟩ := by rw [← hW]; exact hC0
  rw [hW] at hb0 bG
  have a4W := a4.later hb0
  have a8W := a8.later hb0
  obtain ⟨cb, hcb⟩ : ∃ cb, w.heap.size = cb := ⟨_, rfl⟩
  obtain ⟨gb, hgb⟩ : ∃ gb, w.heap.size + 1 = gb := ⟨_, rfl⟩
  rw [hcb] at hC
  rw [hgb] at bG
  obtain ⟨R, hR⟩ : ∃ R, timesK d sl b m (z, co, pa, nl, ps, mm, fs, st, ss) = R := ⟨_, rfl⟩
  rw [hR]
  replace hR := hide hR
  have y3 := hC.c3
  have y4 := hC.c4
  have y8 := hC.c8
  dsimp only at y3 y4 y8
  have hcl := hC.lt
  have hgl := bG.lt
  obtain ⟨g0, g1, g2, g3⟩ := bG
  obtain ⟨gv, hgv⟩ : ∃ gv, gridV d sl b m = gv := ⟨_, rfl⟩
  have hval := tgValid_walk d sl b m W
  rw [hgv] at hval
  replace hW := hide hW
  replace hcb := hide hcb
  replace hgb := hide hgb
  have hn4 := hide h4
  replace h8 := hide h8
  clear a4 a8 hz hC0 h4
  by_cases hok : gv ≠ 0 ∨ nl < 1 ∨ sl < nl
  · have hRn : Hid (R = []) := hide (by rw [← hR.out]; unfold timesK; rw [hgv, if_pos hok])
    clear hgv y4 y8 a4W a8W hC
    by_cases h1 : gv = 0
    · subst h1
      by_cases h2 : nl < 1
      · clear hok
        go_enter Tryz.func17, Tryz.ntmps17
        go_wp2_with fail
        go_step3
        go_upto_region 1 with fail
        rw [hW.out, hgb.out, hcb.out]
        go_wp2_with (go_at_call 39; (with_reducible refine hval.mono ?_); rintro e w1 ⟨rfl, hb1⟩; have g0' := cell_later hb1 g0; have g1' := cell_later hb1 g1; have y3' := cell_later hb1 y3; have hbw := ext_trans hb0 hb1; have hcl1 := World.block_lt_of_cell? _ _ y3'; have hgl1 := World.block_lt_of_cell? _ _ g0')
        all_goals try (exfalso; omega)
        all_goals
          try rw [Exit.noGoto_ret]
          go_ret
          exact ⟨_, rfl, by rw [hRn.out]; exact Own.nil, hbw⟩
      · have h3 : sl < nl := by rcases hok with h | h | h; exact absurd rfl h; exact absurd h h2; exact h
        clear hok
        go_enter Tryz.func17, Tryz.ntmps17
        go_wp2_with fail
        go_step3
        go_upto_region 1 with fail
        rw [hW.out, hgb.out, hcb.out]
        go_wp2_with (go_at_call 39; (with_reducible refine hval.mono ?_); rintro e w1 ⟨rfl, hb1⟩; have g0' := cell_later hb1 g0; have g1' := cell_later hb1 g1; have y3' := cell_later hb1 y3; have hbw := ext_trans hb0 hb1; have hcl1 := World.block_lt_of_cell? _ _ y3'; have hgl1 := World.block_lt_of_cell? _ _ g0')
        all_goals try (exfalso; omega)
        all_goals
          try rw [Exit.noGoto_ret]
          go_ret
          exact ⟨_, rfl, by rw [hRn.out]; exact Own.nil, hbw⟩
    · have hi : ¬ (gv : Int) = 0 := by omega
      have hi2 : ((gv : Int) != 0) = true := by simp; omega
      clear hok h1
      go_enter Tryz.func17, Tryz.ntmps17
      go_wp2_with fail
      go_step3
      go_upto_region 1 with fail
      rw [hW.out, hgb.out, hcb.out]
      go_wp2_with (go_at_call 39; (with_reducible refine hval.mono ?_); rintro e w1 ⟨rfl, hb1⟩; have g0' := cell_later hb1 g0; have g1' := cell_later hb1 g1; have y3' := cell_later hb1 y3; have hbw := ext_trans hb0 hb1; have hcl1 := World.block_lt_of_cell? _ _ y3'; have hgl1 := World.block_lt_of_cell? _ _ g0')
      all_goals try (exfalso; omega)
      all_goals
        try rw [Exit.noGoto_ret]
        go_ret
        exact ⟨_, rfl, by rw [hRn.out]; exact Own.nil, hbw⟩
  · obtain ⟨rfl, l1, l2⟩ : gv = 0 ∧ ¬ nl < 1 ∧ ¬ sl < nl := ⟨Classical.byContradiction fun h => hok (Or.inl h), fun h => hok (Or.inr (Or.inl h)), fun h => hok (Or.inr (Or.inr h))⟩
    obtain ⟨e1, e2⟩ : (d = (d.toNat : Int) ∧ d.toNat ≤ 7) ∧ (sl = (sl.toNat : Int) ∧ sl.toNat ≤ 24) := by
      unfold gridV at hgv
      split at hgv
      · omega
      · omega
    have hbig : Hid (∀ bs, bs = begins d sl (z, co, pa, nl, ps, mm, fs, st, ss) → (4096 < (ps.flatMap (patT nl bs)).length → R = []) ∧ (¬ 4096 < (ps.flatMap (patT nl bs)).length → R = ps.flatMap (patT nl bs))) := hide (fun bs hbs => by
      rw [← hR.out]
      unfold timesK
      rw [hgv, if_neg hok, ← hbs]
      exact ⟨fun h => if_pos h, fun h => if_neg h⟩)
    clear hR hgv hok
    replace e1 := hide e1
    replace e2 := hide e2
    go_enter Tryz.func17, Tryz.ntmps17
    go_wp2_with fail
    go_step3
    go_upto_region 1 with fail
    rw [hW.out, hgb.out, hcb.out]
    by_cases h0 : n8 = 0
    · subst h0
      obtain rfl := List.eq_nil_of_length_eq_zero h8.out
      replace e1 := e1.out
      replace e2 := e2.out
      obtain ⟨D, rfl⟩ : ∃ D : Nat, d = (D : Int) := ⟨d.toNat, e1.1⟩
      obtain ⟨SL, rfl⟩ : ∃ S : Nat, sl = (S : Int) := ⟨sl.toNat, e2.1⟩
      obtain ⟨NL, rfl⟩ : ∃ S : Nat, nl = (S : Int) := ⟨nl.toNat, by omega⟩
      rw [Int.toNat_natCast] at e1 e2
      replace e1 := e1.2
      replace e2 := e2.2
      have hbb := hbig.out (allStarts D SL NL) (by unfold begins; simp)
      have hbig2 := hide hbb.1
      have hsmall := hide hbb.2
      clear hbig hbb
      go_upto_region 5 with (go_at_call 39; (with_reducible refine hval.mono ?_); rintro e w1 ⟨rfl, hb1⟩; have hC1 := hC.later hb1; have k0 := cell_later hb1 g0; have k1 := cell_later hb1 g1; have k2 := cell_later hb1 g2; have k3 := cell_later hb1 g3; have z3 := hC1.c3; have z4 := hC1.c4; have z8 := hC1.c8; dsimp only at z3 z4 z8; have hbw := ext_trans hb0 hb1; have a41 := a4W.later hb1; have a81 := a8W.later hb1; have hcl1 := World.block_lt_of_cell? _ _ z3; have hgl1 := World.block_lt_of_cell? _ _ k0)
      all_goals try (exfalso; omega)
      go_wp2_with fail
      refine (call_walk D SL NL b m w1 e1 e2 (by omega) (by omega)).mono ?_
      rintro e wl ⟨v5, rfl, hown5, hb5⟩
      obtain ⟨A5, c5, rfl, -, hbs5⟩ := hown5.any
      have hbs := hbs5
      have hps := (a41.later hb5).lo
      have hbl := ext_trans hbw hb5
      have z3 := cell_later hb5 z3
      have z4 := cell_later hb5 z4
      obtain ⟨bs, hbs0⟩ : ∃ bs, allStarts D SL NL = bs := ⟨_, rfl⟩
      rw [hbs0] at hbs hbig2 hsmall ⊢
      have hcll : cb < wl.heap.size := World.block_lt_of_cell? _ _ z3
      have hbm : bs.length ≤ 9223372036854775807 := by rw [← hbs0, allStarts_len]; have : D * (SL + 1 - NL) ≤ 7 * 25 := Nat.mul_le_mul (by omega) (by omega); omega
      obtain ⟨nl, hnl⟩ : ∃ nl : Int, (NL : Int) = nl := ⟨_, rfl⟩
      rw [hnl] at z3 hbig2 hsmall
      obtain ⟨nb, hnb⟩ : ∃ nb, bs.length = nb := ⟨_, rfl⟩
      rw [hnb] at hbm ⊢
      replace hnb := hide hnb
      clear hown5 hbs5 hb5 hbs0 z8 k0 k1 k2 k3 a41 a81 hC1 hbw hcl1 hgl1
      (
            go_wp2_with fail
            go_step3
            go_wp2_with fail
            go_loopw [6, 38] (fun v i wr => ∃ k : Nat, k ≤ n4 ∧ i = .int .i64 k ∧ Own kTime 49 [] 0 wl.heap.size wr v ((ps.take k).flatMap (patT nl bs)) ∧ ((ps.take k).flatMap (patT nl bs)).length ≤ 4097 ∧ Below wl.heap.size wl wr) (fun _ i _ => n4 - (intOf i).toNat)
            case atStart => exact ⟨0, Nat.zero_le _, rfl, Own.nil, by simp, Below.refl _ _⟩
            case round =>
              obtain ⟨k, hk, rfl, hown, hlen, hb⟩ := hrel
              by_cases hlt : k < n4
              · obtain ⟨p, hp⟩ : ∃ p, ps[k]? = some p := ⟨_, List.getElem?_eq_getElem (by rw [hn4.out]; exact hlt)⟩
                obtain ⟨pb, po, rfl, -, hpb, x0⟩ := (hps.later hb).int hp
                have hk0 : (0 : Int) ≤ (k : Int) := by omega
                have hkn : (k : Int) < (n4 : Int) := by omega
                have hft := hide (flatK_at nl bs ps hp)
                have hmore := hide (fun j (hj : j < nb) => flat_more nl bs ps (k := k) (j := j) (by rw [hn4.out]; exact hlt) (by rw [hnb.out]; exact hj))
                obtain ⟨P, hP⟩ : ∃ P, (ps.take k).flatMap (patT nl bs) = P := ⟨_, rfl⟩
                rw [hP] at hown hlen hft hmore
                clear hP hp
                go_wp2_with fail
                rename World => wo
                go_loopw [6, 44] (fun v i wr => ∃ j : Nat, j ≤ nb ∧ i = .int .i64 j ∧ Own kTime 49 [] 0 wl.heap.size wr v (P ++ patT nl (bs.take j) p) ∧ (P ++ patT nl (bs.take j) p).length ≤ 4097 ∧ Below wl.heap.size wl wr) (fun _ i _ => nb - (intOf i).toNat)
                case atStart => exact ⟨0, Nat.zero_le _, rfl, by show Own kTime 49 [] 0 wl.heap.size wo _ (P ++ []); rw [List.append_nil]; exact hown, by show (P ++ []).length ≤ 4097; rw [List.append_nil]; exact hlen, hb⟩
                case round =>
                  clear hown hb x0
                  obtain ⟨j, hj, rfl, hown, hlenj, hb⟩ := hrel
                  by_cases hlt2 : j < nb
                  · obtain ⟨s, hs⟩ : ∃ s, bs[j]? = some s := ⟨_, List.getElem?_eq_getElem (by rw [hnb.out]; exact hlt2)⟩
                    obtain ⟨sb, so, rfl, -, hsb, y0, y1⟩ := (hbs.later hb).start hs
                    have hj0 : (0 : Int) ≤ (j : Int) := by omega
                    have hjn : (j : Int) < (nb : Int) := by omega
                    have hpt := hide (patT_snoc nl bs p hs)
                    have hPl : (P ++ patT nl (bs.take j) p).length = P.length + j := by
                      rw [List.length_append]
                      unfold patT
                      rw [List.length_map, List.length_take, hnb.out, Nat.min_eq_left hj]
                    obtain ⟨Q, hQ⟩ : ∃ Q, P ++ patT nl (bs.take j) p = Q := ⟨_, rfl⟩
                    have hQs : Hid (P ++ patT nl (bs.take (j + 1)) p = Q ++ [(p, s.1, s.2, nl)]) := hide (by rw [hpt.out, ← List.append_assoc, hQ])
                    rw [hQ] at hown hlenj hPl
                    obtain ⟨s1, s2⟩ := s
                    dsimp only at y0 y1 hQs
                    have z3 := cell_later hb z3
                    obtain ⟨A6, c6, rfl⟩ := hown.form
                    obtain ⟨L, hL⟩ : ∃ L, Q.length = L := ⟨_, rfl⟩
                    rw [hL] at hlenj hPl hown ⊢
                    replace hPl := hide hPl
                    have hclr : cb < wr.heap.size := World.block_lt_of_cell? _ _ z3
                    clear hs hQ hpt
                    by_cases hbig : 4096 < L
                    · have hbi : (4096 : Int) < (L : Int) := by omega
                      have htot : 4096 < (ps.flatMap (patT nl bs)).length := by have := hmore.out j hlt2; have := hPl.out; omega
                      have hres := hide (hbig2.out htot)
                      clear hown
                      go_wp2_with fail
                      try rw [Exit.noGoto_ret]
                      go_ret
                      exact ⟨_, rfl, by rw [hres.out]; exact Own.nil, ext_trans hbl (ext_alloc hb _)⟩
                    · have hbi : ¬ (4096 : Int) < (L : Int) := by omega
                      have hz := hb.size
                      obtain ⟨vss, e1, e2, e3⟩ := id hown
                      have hlo : ∀ y, (Value.slice A6 L c6).ownBlock = some y → wl.heap.size ≤ y := fun y hy => (hown.lt y hy).1
                      go_wp2_with (at_builtin; refine wpList_own (K := kTime) (t := 49) (ts := []) (B0 := 0) (B := wl.heap.size) rfl _ _ rfl apd_times (by decide) rfl ((hown.alloc (.cells #[.int .i64 s1, .int .i64 s2] 70)).alloc (.cells #[.int .i64 p, .int .i64 s1, .int .i64 s2, .int .i64 nl] 49)) (by rw [hL]; omega) (by decide) ⟨wr.heap.size + 1, 0, none⟩ 1 rfl (p, s1, s2, nl) [.int .i64 p, .int .i64 s1, .int .i64 s2, .int .i64 nl] (rep_of_time p s1 s2 nl) (World.news_of_block (cs := #[.int .i64 p, .int .i64 s1, .int .i64 s2, .int .i64 nl]) (t := 49) (fr := (0, 0)) (heap_new2 _ _ _)) (by decide) (Nat.zero_le _) (by rw [World.size_alloc, World.size_alloc]; omega) ?_; intro v' w5 hown5 hgrow)
                      have hb5 : Below wl.heap.size wl w5 := Below.grown (ext_alloc (ext_alloc hb (.cells #[.int .i64 s1, .int .i64 s2] 70)) (.cells #[.int .i64 p, .int .i64 s1, .int .i64 s2, .int .i64 nl] 49)) hgrow (by rw [World.size_alloc, World.size_alloc]; omega) hlo
                      clear hown hb hgrow e1 e2 e3 hlo
                      go_wp2
                      go_roundw
                      case rel => exact ⟨j + 1, by omega, by go_num, by rw [hQs.out]; exact hown5, by rw [hQs.out, List.length_append]; simp; omega, hb5⟩
                      case measure => simp [intOf]; omega
                  · obtain rfl : j = nb := by omega
                    have hall : bs.take j = bs := by rw [← hnb.out]; exact List.take_length
                    rw [hall] at hown hlenj
                    rw [← hft.out] at hown hlenj
                    have hji : ¬ (j : Int) < (j : Int) := by omega
                    clear hall hft hmore
                    go_wp2_with fail
                    go_roundw
                    case rel => exact ⟨k + 1, by omega, by go_num, hown, hlenj, hb⟩
                    case measure => simp [intOf]; omega
              · obtain rfl : k = n4 := by omega
                have hall : ps.take k = ps := by rw [← hn4.out]; exact List.take_length
                rw [hall] at hown hlen
                have hki : ¬ (k : Int) < (k : Int) := by omega
                obtain ⟨A6, c6, rfl⟩ := hown.form
                obtain ⟨L, hL⟩ : ∃ L, (ps.flatMap (patT nl bs)).length = L := ⟨_, rfl⟩
                rw [hL] at hown hlen ⊢
                by_cases hbig : 4096 < L
                · have hbi : (4096 : Int) < (L : Int) := by omega
                  have hres := hide (hbig2.out (by rw [hL]; exact hbig))
                  clear hown
                  go_wp2_with fail
                  try rw [Exit.noGoto_ret]
                  go_ret
                  exact ⟨_, rfl, by rw [hres.out]; exact Own.nil, ext_trans hbl hb⟩
                · have hbi : ¬ (4096 : Int) < (L : Int) := by omega
                  have hres := hide (hsmall.out (by rw [hL]; exact hbig))
                  go_wp2_with fail
                  try rw [Exit.noGoto_ret]
                  go_ret
                  exact ⟨_, rfl, by rw [hres.out]; exact hown.lower hbl.size, ext_trans hbl hb⟩)
    · have h0i : ¬ (n8 : Int) = 0 := by omega
      have h0j : ((n8 : Int) == 0) = false := by simp; omega
      go_upto_region 6 with (go_at_call 39; (with_reducible refine hval.mono ?_); rintro e w1 ⟨rfl, hb1⟩; have hC1 := hC.later hb1; have k0 := cell_later hb1 g0; have k1 := cell_later hb1 g1; have k2 := cell_later hb1 g2; have k3 := cell_later hb1 g3; have z3 := hC1.c3; have z4 := hC1.c4; have z8 := hC1.c8; dsimp only at z3 z4 z8; have hbw := ext_trans hb0 hb1; have a41 := a4W.later hb1; have a81 := a8W.later hb1; have hcl1 := World.block_lt_of_cell? _ _ z3; have hgl1 := World.block_lt_of_cell? _ _ k0)
      all_goals try (exfalso; omega)
      have hne : ¬ ss = [] := fun h => by have := h8.out; rw [h] at this; simp at this; omega
      have hbb := hbig.out ss (by unfold begins; rw [if_neg hne])
      have hbig2 := hide hbb.1
      have hsmall := hide hbb.2
      have hbs := a81.lo
      have hps := a41.lo
      have hbl := hbw
      have hbm := m8
      obtain ⟨bs, hbs0⟩ : ∃ bs, ss = bs := ⟨_, rfl⟩
      rw [hbs0] at hbs hbig2 hsmall h8
      have hnb := h8
      have hcll := hcl1
      obtain ⟨nb, hnbb⟩ : ∃ nb, nb = n8 := ⟨_, rfl⟩
      subst hnbb
      obtain ⟨wl, hwl⟩ : ∃ wl, wl = w1 := ⟨_, rfl⟩
      subst hwl
      clear hbb hbig hne hbs0 k0 k1 k2 k3 a41 a81 hC1 hbw hcl1 hgl1 h0
      (
            go_wp2_with fail
            go_step3
            go_wp2_with fail
            go_loopw [6, 38] (fun v i wr => ∃ k : Nat, k ≤ n4 ∧ i = .int .i64 k ∧ Own kTime 49 [] 0 wl.heap.size wr v ((ps.take k).flatMap (patT nl bs)) ∧ ((ps.take k).flatMap (patT nl bs)).length ≤ 4097 ∧ Below wl.heap.size wl wr) (fun _ i _ => n4 - (intOf i).toNat)
            case atStart => exact ⟨0, Nat.zero_le _, rfl, Own.nil, by simp, Below.refl _ _⟩
            case round =>
              obtain ⟨k, hk, rfl, hown, hlen, hb⟩ := hrel
              by_cases hlt : k < n4
              · obtain ⟨p, hp⟩ : ∃ p, ps[k]? = some p := ⟨_, List.getElem?_eq_getElem (by rw [hn4.out]; exact hlt)⟩
                obtain ⟨pb, po, rfl, -, hpb, x0⟩ := (hps.later hb).int hp
                have hk0 : (0 : Int) ≤ (k : Int) := by omega
                have hkn : (k : Int) < (n4 : Int) := by omega
                have hft := hide (flatK_at nl bs ps hp)
                have hmore := hide (fun j (hj : j < nb) => flat_more nl bs ps (k := k) (j := j) (by rw [hn4.out]; exact hlt) (by rw [hnb.out]; exact hj))
                obtain ⟨P, hP⟩ : ∃ P, (ps.take k).flatMap (patT nl bs) = P := ⟨_, rfl⟩
                rw [hP] at hown hlen hft hmore
                clear hP hp
                go_wp2_with fail
                rename World => wo
                go_loopw [6, 44] (fun v i wr => ∃ j : Nat, j ≤ nb ∧ i = .int .i64 j ∧ Own kTime 49 [] 0 wl.heap.size wr v (P ++ patT nl (bs.take j) p) ∧ (P ++ patT nl (bs.take j) p).length ≤ 4097 ∧ Below wl.heap.size wl wr) (fun _ i _ => nb - (intOf i).toNat)
                case atStart => exact ⟨0, Nat.zero_le _, rfl, by show Own kTime 49 [] 0 wl.heap.size wo _ (P ++ []); rw [List.append_nil]; exact hown, by show (P ++ []).length ≤ 4097; rw [List.append_nil]; exact hlen, hb⟩
                case round =>
                  clear hown hb x0
                  obtain ⟨j, hj, rfl, hown, hlenj, hb⟩ := hrel
                  by_cases hlt2 : j < nb
                  · obtain ⟨s, hs⟩ : ∃ s, bs[j]? = some s := ⟨_, List.getElem?_eq_getElem (by rw [hnb.out]; exact hlt2)⟩
                    obtain ⟨sb, so, rfl, -, hsb, y0, y1⟩ := (hbs.later hb).start hs
                    have hj0 : (0 : Int) ≤ (j : Int) := by omega
                    have hjn : (j : Int) < (nb : Int) := by omega
                    have hpt := hide (patT_snoc nl bs p hs)
                    have hPl : (P ++ patT nl (bs.take j) p).length = P.length + j := by
                      rw [List.length_append]
                      unfold patT
                      rw [List.length_map, List.length_take, hnb.out, Nat.min_eq_left hj]
                    obtain ⟨Q, hQ⟩ : ∃ Q, P ++ patT nl (bs.take j) p = Q := ⟨_, rfl⟩
                    have hQs : Hid (P ++ patT nl (bs.take (j + 1)) p = Q ++ [(p, s.1, s.2, nl)]) := hide (by rw [hpt.out, ← List.append_assoc, hQ])
                    rw [hQ] at hown hlenj hPl
                    obtain ⟨s1, s2⟩ := s
                    dsimp only at y0 y1 hQs
                    have z3 := cell_later hb z3
                    obtain ⟨A6, c6, rfl⟩ := hown.form
                    obtain ⟨L, hL⟩ : ∃ L, Q.length = L := ⟨_, rfl⟩
                    rw [hL] at hlenj hPl hown ⊢
                    replace hPl := hide hPl
                    have hclr : cb < wr.heap.size := World.block_lt_of_cell? _ _ z3
                    clear hs hQ hpt
                    by_cases hbig : 4096 < L
                    · have hbi : (4096 : Int) < (L : Int) := by omega
                      have htot : 4096 < (ps.flatMap (patT nl bs)).length := by have := hmore.out j hlt2; have := hPl.out; omega
                      have hres := hide (hbig2.out htot)
                      clear hown
                      go_wp2_with fail
                      try rw [Exit.noGoto_ret]
                      go_ret
                      exact ⟨_, rfl, by rw [hres.out]; exact Own.nil, ext_trans hbl (ext_alloc hb _)⟩
                    · have hbi : ¬ (4096 : Int) < (L : Int) := by omega
                      have hz := hb.size
                      obtain ⟨vss, e1, e2, e3⟩ := id hown
                      have hlo : ∀ y, (Value.slice A6 L c6).ownBlock = some y → wl.heap.size ≤ y := fun y hy => (hown.lt y hy).1
                      go_wp2_with (at_builtin; refine wpList_own (K := kTime) (t := 49) (ts := []) (B0 := 0) (B := wl.heap.size) rfl _ _ rfl apd_times (by decide) rfl ((hown.alloc (.cells #[.int .i64 s1, .int .i64 s2] 70)).alloc (.cells #[.int .i64 p, .int .i64 s1, .int .i64 s2, .int .i64 nl] 49)) (by rw [hL]; omega) (by decide) ⟨wr.heap.size + 1, 0, none⟩ 1 rfl (p, s1, s2, nl) [.int .i64 p, .int .i64 s1, .int .i64 s2, .int .i64 nl] (rep_of_time p s1 s2 nl) (World.news_of_block (cs := #[.int .i64 p, .int .i64 s1, .int .i64 s2, .int .i64 nl]) (t := 49) (fr := (0, 0)) (heap_new2 _ _ _)) (by decide) (Nat.zero_le _) (by rw [World.size_alloc, World.size_alloc]; omega) ?_; intro v' w5 hown5 hgrow)
                      have hb5 : Below wl.heap.size wl w5 := Below.grown (ext_alloc (ext_alloc hb (.cells #[.int .i64 s1, .int .i64 s2] 70)) (.cells #[.int .i64 p, .int .i64 s1, .int .i64 s2, .int .i64 nl] 49)) hgrow (by rw [World.size_alloc, World.size_alloc]; omega) hlo
                      clear hown hb hgrow e1 e2 e3 hlo
                      go_wp2
                      go_roundw
                      case rel => exact ⟨j + 1, by omega, by go_num, by rw [hQs.out]; exact hown5, by rw [hQs.out, List.length_append]; simp; omega, hb5⟩
                      case measure => simp [intOf]; omega
                  · obtain rfl : j = nb := by omega
                    have hall : bs.take j = bs := by rw [← hnb.out]; exact List.take_length
                    rw [hall] at hown hlenj
                    rw [← hft.out] at hown hlenj
                    have hji : ¬ (j : Int) < (j : Int) := by omega
                    clear hall hft hmore
                    go_wp2_with fail
                    go_roundw
                    case rel => exact ⟨k + 1, by omega, by go_num, hown, hlenj, hb⟩
                    case measure => simp [intOf]; omega
              · obtain rfl : k = n4 := by omega
                have hall : ps.take k = ps := by rw [← hn4.out]; exact List.take_length
                rw [hall] at hown hlen
                have hki : ¬ (k : Int) < (k : Int) := by omega
                obtain ⟨A6, c6, rfl⟩ := hown.form
                obtain ⟨L, hL⟩ : ∃ L, (ps.flatMap (patT nl bs)).length = L := ⟨_, rfl⟩
                rw [hL] at hown hlen ⊢
                by_cases hbig : 4096 < L
                · have hbi : (4096 : Int) < (L : Int) := by omega
                  have hres := hide (hbig2.out (by rw [hL]; exact hbig))
                  clear hown
                  go_wp2_with fail
                  try rw [Exit.noGoto_ret]
                  go_ret
                  exact ⟨_, rfl, by rw [hres.out]; exact Own.nil, ext_trans hbl hb⟩
                · have hbi : ¬ (4096 : Int) < (L : Int) := by omega
                  have hres := hide (hsmall.out (by rw [hL]; exact hbig))
                  go_wp2_with fail
                  try rw [Exit.noGoto_ret]
                  go_ret
                  exact ⟨_, rfl, by rw [hres.out]; exact hown.lower hbl.size, ext_trans hbl hb⟩)
end Go.Proofs.YtimcdikeajbabaaGreatDoor
