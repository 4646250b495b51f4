/- Walk of coursefile.Times. Conditions: the class's cells. Walk of timetableref10.Times. Conditions: the class's cells. Plain: data put in order one by one, whatever the order; the same in order once only; lists without doubles. No walk. Plain: what is read of the sets of weeks and of the starts of a class. No walk. -/
import Derived.Test.YtimcdikeajbabaaGreatDoorRows
import Derived.WalkKit
import Derived.WalkSpells
import Derived.WalkLawsBesides
import Derived.BigGuardPart
import Derived.Lib.Hide
import Derived.Laws.BitsAllLaws
import Derived.Laws.BitsLemmas
import Derived.Lib.LaidTab
import Derived.Test.YtimcdikeajbabaaGreatDoorShelf
import Derived.Lib.ConvBytes
import Derived.Deep.QuietTactic
import Derived.BigQuiet
import Derived.Test.YtimcdikeajbabaaGreatDoorShelfS
import Derived.Laws.ResultCell
import Derived.RegionTactic
import Derived.BigRegion
import Derived.Deep.RegionHeld3
import Derived.Deep.DeepCutAuto
import Derived.Lib.SmallJoins
import Derived.Lib.SplitLaws
import Derived.Lib.CountLaws
import Derived.Lib.IndexMore
import Derived.Lib.Split
import Derived.Lib.Join
import Derived.Lib.ItoaNum
import Derived.Laws.AppendOwn
import Derived.Test.YtimcdikeajbabaaGreatDoorShelfT
import Derived.Lib.ItoaLen
import Derived.Lib.AppendIntMem
import Derived.Deep.AppendLies
import Derived.Lib.PathFns
import Derived.Maps.Range
import Derived.Lib.OwnBridge
import Derived.Sort.OwnSorted
import Derived.Sort.Walk0
import Derived.Test.YtimcdikeajbabaaGreatDoorCards
import Derived.Test.YtimcdikeajbabaaGreatDoorTie
import Derived.ProofKit
import Derived.OpenShut
import Derived.LaidMore
import Derived.Lay
import Derived.SevenTiedAt
import Derived.Stop.Joined
import Derived.Stop.LaidErr
import Derived.Deep.DeepHandedRow
import Derived.Lib.LaidU8
import Derived.LaidSub
import Derived.Deep.Slices
import Derived.Deep.Fields
import Derived.ChangeSame
import Derived.WalkMore
import Derived.Test.YtimcdikeajbabaaGreatDoorUStartsC
import Derived.Test.YtimcdikeajbabaaGreatDoorUTimeA
import Derived.Test.YtimcdikeajbabaaGreatDoorUSameL
import Derived.Test.YtimcdikeajbabaaGreatDoorUWsD
import Derived.Test.YtimcdikeajbabaaGreatDoorUNumS
namespace Go.Proofs.YtimcdikeajbabaaGreatDoor
open Go.RowKit
set_option maxRecDepth 100000

theorem flatK_at (len : Int) (bs : List (Int × Int)) (ps : List Int) {k : Nat} {p : Int} (h : ps[k]? = some p) : (ps.take (k + 1)).flatMap (patT len bs) = (ps.take k).flatMap (patT len bs) ++ patT len bs p := by
  rw [List.take_add_one, h]; simp
theorem patT_snoc (len : Int) (bs : List (Int × Int)) (p : Int) {j : Nat} {s : Int × Int} (h : bs[j]? = some s) : patT len (bs.take (j + 1)) p = patT len (bs.take j) p ++ [(p, s.1, s.2, len)] := by
  unfold patT
  rw [List.take_add_one, h]; simp
theorem flat_more (len : Int) (bs : List (Int × Int)) (ps : List Int) {k j : Nat} (hk : k < ps.length) (hj : j < bs.length) : ((ps.take k).flatMap (patT len bs)).length + j < (ps.flatMap (patT len bs)).length := by
  rw [patT_len, patT_len, List.length_take, Nat.min_eq_left (by omega)]
  have : k * bs.length + bs.length ≤ ps.length * bs.length := by
    rw [← Nat.succ_mul]
    exact Nat.mul_le_mul (by omega) (Nat.le_refl _)
  omega
set_option maxHeartbeats 8000000 in
theorem ctimes_walk (z co pa : ByteArray) (nl : Int) (A4 : Option Addr) (n4 c4 : Nat) (mm : Int) (A6 : Option Addr) (n6 c6 : Nat) (A7 : Option Addr) (n7 c7 : Nat) (A8 : Option Addr) (n8 c8 : Nat) (ps : List Int) (fs st : List ByteArray) (ss : List (Int × Int)) (d sl b m : Int) (w : World)
    (h4 : ps.length = n4) (h8 : ss.length = n8) (m4 : n4 ≤ 9223372036854775807) (m8 : n8 ≤ 9223372036854775807) (a4 : At kInt AnyB w A4 ps) (a8 : At kStart AnyB w A8 ss) :
    Calls Tryz.prog 17 #[.agg #[.string z, .string co, .string pa, .int .i64 nl, .slice A4 n4 c4, .int .i64 mm, .slice A6 n6 c6, .slice A7 n7 c7, .slice A8 n8 c8], .agg #[.int .i64 d, .int .i64 sl, .int .i64 b, .int .i64 m]] w fun e w' => ∃ v, e = .returned v ∧ Own kTime 49 [] 0 w.heap.size w' v (timesK d sl b m (z, co, pa, nl, ps, mm, fs, st, ss)) ∧ Below w.heap.size w w' := by
  have hb0 : Below w.heap.size w ((w.alloc (.cells #[.string z, .string co, .string pa, .int .i64 nl, .slice A4 n4 c4, .int .i64 mm, .slice A6 n6 c6, .slice A7 n7 c7, .slice A8 n8 c8] 47)).alloc (.cells #[.int .i64 d, .int .i64 sl, .int .i64 b, .int .i64 m] 24)) := (by repeat (first | exact Below.refl _ _ | refine ext_alloc ?_ _ | refine ext_drewN ?_ _ | refine ext_drew ?_ | refine ext_trans ?_ (by assumption)))
  have hz : (w.alloc (.cells #[.string z, .string co, .string pa, .int .i64 nl, .slice A4 n4 c4, .int .i64 mm, .slice A6 n6 c6, .slice A7 n7 c7, .slice A8 n8 c8] 47)).heap.size = w.heap.size + 1 := World.size_alloc _ _
  have hC0 := (cbox_new w ⟨z, co, pa, nl, A4, n4, c4, mm, A6, n6, c6, A7, n7, c7, A8, n8, c8⟩).alloc (.cells #[.int .i64 d, .int .i64 sl, .int .i64 b, .int .i64 m] 24)
  have bG := Box4.new (w.alloc (.cells #[.string z, .string co, .string pa, .int .i64 nl, .slice A4 n4 c4, .int .i64 mm, .slice A6 n6 c6, .slice A7 n7 c7, .slice A8 n8 c8] 47)) 24 (.int .i64 d) (.int .i64 sl) (.int .i64 b) (.int .i64 m)
  rw [hz] at bG
  obtain ⟨W, hW⟩ : ∃ W, (w.alloc (.cells #[.string z, .string co, .string pa, .int .i64 nl, .slice A4 n4 c4, .int .i64 mm, .slice A6 n6 c6, .slice A7 n7 c7, .slice A8 n8 c8] 47)).alloc (.cells #[.int .i64 d, .int .i64 sl, .int .i64 b, .int .i64 m] 24) = W := ⟨_, rfl⟩
  have hC : CBox W w.heap.size ⟨z, co, pa, nl, A4, n4, c4, mm, A6, n6, c6, A7, n7, c7, A8, n8, c8⟩ := by rw [← hW]; exact hC0
  rw [hW] at hb0 bG
  have a4W := a4.later hb0
  have a8W := a8.later hb0
  obtain ⟨cb, hcb⟩ : ∃ cb, w.heap.size = cb := ⟨_, rfl⟩
  obtain ⟨gb, hgb⟩ : ∃ gb, w.heap.size + 1 = gb := ⟨_, rfl⟩
  rw [hcb] at hC
  rw [hgb] at bG
  obtain ⟨R, hR⟩ : ∃ R, timesK d sl b m (z, co, pa, nl, ps, mm, fs, st, ss) = R := ⟨_, rfl⟩
  rw [hR]
  replace hR := hide hR
  have y3 := hC.c3
  have y4 := hC.c4
  have y8 := hC.c8
  dsimp only at y3 y4 y8
  have hcl := hC.lt
  have hgl := bG.lt
  obtain ⟨g0, g1, g2, g3⟩ := bG
  obtain ⟨gv, hgv⟩ : ∃ gv, gridV d sl b m = gv := ⟨_, rfl⟩
  have hval := tgValid_walk d sl b m W
  rw [hgv] at hval
  replace hW := hide hW
  replace hcb := hide hcb
  replace hgb := hide hgb
  have hn4 := hide h4
  replace h8 := hide h8
  clear a4 a8 hz hC0 h4
  by_cases hok : gv ≠ 0 ∨ nl < 1 ∨ sl < nl
  · have hRn : Hid (R = []) := hide (by rw [← hR.out]; unfold timesK; rw [hgv, if_pos hok])
    clear hgv y4 y8 a4W a8W hC
    by_cases h1 : gv = 0
    · subst h1
      by_cases h2 : nl < 1
      · clear hok
        go_enter Tryz.func17, Tryz.ntmps17
        go_wp2_with fail
        go_step3
        go_upto_region 1 with fail
        rw [hW.out, hgb.out, hcb.out]
        go_wp2_with (go_at_call 39; (with_reducible refine hval.mono ?_); rintro e w1 ⟨rfl, hb1⟩; have g0' := cell_later hb1 g0; have g1' := cell_later hb1 g1; have y3' := cell_later hb1 y3; have hbw := ext_trans hb0 hb1; have hcl1 := World.block_lt_of_cell? _ _ y3'; have hgl1 := World.block_lt_of_cell? _ _ g0')
        all_goals try (exfalso; omega)
        all_goals
          try rw [Exit.noGoto_ret]
          go_ret
          exact ⟨_, rfl, by rw [hRn.out]; exact Own.nil, hbw⟩
      · have h3 : sl < nl := by rcases hok with h | h | h; exact absurd rfl h; exact absurd h h2; exact h
        clear hok
        go_enter Tryz.func17, Tryz.ntmps17
        go_wp2_with fail
        go_step3
        go_upto_region 1 with fail
        rw [hW.out, hgb.out, hcb.out]
        go_wp2_with (go_at_call 39; (with_reducible refine hval.mono ?_); rintro e w1 ⟨rfl, hb1⟩; have g0' := cell_later hb1 g0; have g1' := cell_later hb1 g1; have y3' := cell_later hb1 y3; have hbw := ext_trans hb0 hb1; have hcl1 := World.block_lt_of_cell? _ _ y3'; have hgl1 := World.block_lt_of_cell? _ _ g0')
        all_goals try (exfalso; omega)
        all_goals
          try rw [Exit.noGoto_ret]
          go_ret
          exact ⟨_, rfl, by rw [hRn.out]; exact Own.nil, hbw⟩
    · have hi : ¬ (gv : Int) = 0 := by omega
      have hi2 : ((gv : Int) != 0) = true := by simp; omega
      clear hok h1
      go_enter Tryz.func17, Tryz.ntmps17
      go_wp2_with fail
      go_step3
      go_upto_region 1 with fail
      rw [hW.out, hgb.out, hcb.out]
      go_wp2_with (go_at_call 39; (with_reducible refine hval.mono ?_); rintro e w1 ⟨rfl, hb1⟩; have g0' := cell_later hb1 g0; have g1' := cell_later hb1 g1; have y3' := cell_later hb1 y3; have hbw := ext_trans hb0 hb1; have hcl1 := World.block_lt_of_cell? _ _ y3'; have hgl1 := World.block_lt_of_cell? _ _ g0')
      all_goals try (exfalso; omega)
      all_goals
        try rw [Exit.noGoto_ret]
        go_ret
        exact ⟨_, rfl, by rw [hRn.out]; exact Own.nil, hbw⟩
  · obtain ⟨rfl, l1, l2⟩ : gv = 0 ∧ ¬ nl < 1 ∧ ¬ sl < nl := ⟨Classical.byContradiction fun h => hok (Or.inl h), fun h => hok (Or.inr (Or.inl h)), fun h => hok (Or.inr (Or.inr h))⟩
    obtain ⟨e1, e2⟩ : (d = (d.toNat : Int) ∧ d.toNat ≤ 7) ∧ (sl = (sl.toNat : Int) ∧ sl.toNat ≤ 24) := by
      unfold gridV at hgv
      split at hgv
      · omega
      · omega
    have hbig : Hid (∀ bs, bs = begins d sl (z, co, pa, nl, ps, mm, fs, st, ss) → (4096 < (ps.flatMap (patT nl bs)).length → R = []) ∧ (¬ 4096 < (ps.flatMap (patT nl bs)).length → R = ps.flatMap (patT nl bs))) := hide (fun bs hbs => by
      rw [← hR.out]
      unfold timesK
      rw [hgv, if_neg hok, ← hbs]
      exact ⟨fun h => if_pos h, fun h => if_neg h⟩)
    clear hR hgv hok
    replace e1 := hide e1
    replace e2 := hide e2
    go_enter Tryz.func17, Tryz.ntmps17
    go_wp2_with fail
    go_step3
    go_upto_region 1 with fail
    rw [hW.out, hgb.out, hcb.out]
    by_cases h0 : n8 = 0
    · subst h0
      obtain rfl := List.eq_nil_of_length_eq_zero h8.out
      replace e1 := e1.out
      replace e2 := e2.out
      obtain ⟨D, rfl⟩ : ∃ D : Nat, d = (D : Int) := ⟨d.toNat, e1.1⟩
      obtain ⟨SL, rfl⟩ : ∃ S : Nat, sl = (S : Int) := ⟨sl.toNat, e2.1⟩
      obtain ⟨NL, rfl⟩ : ∃ S : Nat, nl = (S : Int) := ⟨nl.toNat, by omega⟩
      rw [Int.toNat_natCast] at e1 e2
      replace e1 := e1.2
      replace e2 := e2.2
      have hbb := hbig.out (allStarts D SL NL) (by unfold begins; simp)
      have hbig2 := hide hbb.1
      have hsmall := hide hbb.2
      clear hbig hbb
      go_upto_region 5 with (go_at_call 39; (with_reducible refine hval.mono ?_); rintro e w1 ⟨rfl, hb1⟩; have hC1 := hC.later hb1; have k0 := cell_later hb1 g0; have k1 := cell_later hb1 g1; have k2 := cell_later hb1 g2; have k3 := cell_later hb1 g3; have z3 := hC1.c3; have z4 := hC1.c4; have z8 := hC1.c8; dsimp only at z3 z4 z8; have hbw := ext_trans hb0 hb1; have a41 := a4W.later hb1; have a81 := a8W.later hb1; have hcl1 := World.block_lt_of_cell? _ _ z3; have hgl1 := World.block_lt_of_cell? _ _ k0)
      all_goals try (exfalso; omega)
      go_wp2_with fail
      refine (call_walk D SL NL b m w1 e1 e2 (by omega) (by omega)).mono ?_
      rintro e wl ⟨v5, rfl, hown5, hb5⟩
      obtain ⟨A5, c5, rfl, -, hbs5⟩ := hown5.any
      have hbs := hbs5
      have hps := (a41.later hb5).lo
      have hbl := ext_trans hbw hb5
      have z3 := cell_later hb5 z3
      have z4 := cell_later hb5 z4
      obtain ⟨bs, hbs0⟩ : ∃ bs, allStarts D SL NL = bs := ⟨_, rfl⟩
      rw [hbs0] at hbs hbig2 hsmall ⊢
      have hcll : cb < wl.heap.size := World.block_lt_of_cell? _ _ z3
      have hbm : bs.length ≤ 9223372036854775807 := by rw [← hbs0, allStarts_len]; have : D * (SL + 1 - NL) ≤ 7 * 25 := Nat.mul_le_mul (by omega) (by omega); omega
      obtain ⟨nl, hnl⟩ : ∃ nl : Int, (NL : Int) = nl := ⟨_, rfl⟩
      rw [hnl] at z3 hbig2 hsmall
      obtain ⟨nb, hnb⟩ : ∃ nb, bs.length = nb := ⟨_, rfl⟩
      rw [hnb] at hbm ⊢
      replace hnb := hide hnb
      clear hown5 hbs5 hb5 hbs0 z8 k0 k1 k2 k3 a41 a81 hC1 hbw hcl1 hgl1
      (
            go_wp2_with fail
            go_step3
            go_wp2_with fail
            go_loopw [6, 38] (fun v i wr => ∃ k : Nat, k ≤ n4 ∧ i = .int .i64 k ∧ Own kTime 49 [] 0 wl.heap.size wr v ((ps.take k).flatMap (patT nl bs)) ∧ ((ps.take k).flatMap (patT nl bs)).length ≤ 4097 ∧ Below wl.heap.size wl wr) (fun _ i _ => n4 - (intOf i).toNat)
            case atStart => exact ⟨0, Nat.zero_le _, rfl, Own.nil, by simp, Below.refl _ _⟩
            case round =>
              obtain ⟨k, hk, rfl, hown, hlen, hb⟩ := hrel
              by_cases hlt : k < n4
              · obtain ⟨p, hp⟩ : ∃ p, ps[k]? = some p := ⟨_, List.getElem?_eq_getElem (by rw [hn4.out]; exact hlt)⟩
                obtain ⟨pb, po, rfl, -, hpb, x0⟩ := (hps.later hb).int hp
                have hk0 : (0 : Int) ≤ (k : Int) := by omega
                have hkn : (k : Int) < (n4 : Int) := by omega
                have hft := hide (flatK_at nl bs ps hp)
                have hmore := hide (fun j (hj : j < nb) => flat_more nl bs ps (k := k) (j := j) (by rw [hn4.out]; exact hlt) (by rw [hnb.out]; exact hj))
                obtain ⟨P, hP⟩ : ∃ P, (ps.take k).flatMap (patT nl bs) = P := ⟨_, rfl⟩
                rw [hP] at hown hlen hft hmore
                clear hP hp
                go_wp2_with fail
                rename World => wo
                go_loopw [6, 44] (fun v i wr => ∃ j : Nat, j ≤ nb ∧ i = .int .i64 j ∧ Own kTime 49 [] 0 wl.heap.size wr v (P ++ patT nl (bs.take j) p) ∧ (P ++ patT nl (bs.take j) p).length ≤ 4097 ∧ Below wl.heap.size wl wr) (fun _ i _ => nb - (intOf i).toNat)
                case atStart => exact ⟨0, Nat.zero_le _, rfl, by show Own kTime 49 [] 0 wl.heap.size wo _ (P ++ []); rw [List.append_nil]; exact hown, by show (P ++ []).length ≤ 4097; rw [List.append_nil]; exact hlen, hb⟩
                case round =>
                  clear hown hb x0
                  obtain ⟨j, hj, rfl, hown, hlenj, hb⟩ := hrel
                  by_cases hlt2 : j < nb
                  · obtain ⟨s, hs⟩ : ∃ s, bs[j]? = some s := ⟨_, List.getElem?_eq_getElem (by rw [hnb.out]; exact hlt2)⟩
                    obtain ⟨sb, so, rfl, -, hsb, y0, y1⟩ := (hbs.later hb).start hs
                    have hj0 : (0 : Int) ≤ (j : Int) := by omega
                    have hjn : (j : Int) < (nb : Int) := by omega
                    have hpt := hide (patT_snoc nl bs p hs)
                    have hPl : (P ++ patT nl (bs.take j) p).length = P.length + j := by
                      rw [List.length_append]
                      unfold patT
                      rw [List.length_map, List.length_take, hnb.out, Nat.min_eq_left hj]
                    obtain ⟨Q, hQ⟩ : ∃ Q, P ++ patT nl (bs.take j) p = Q := ⟨_, rfl⟩
                    have hQs : Hid (P ++ patT nl (bs.take (j + 1)) p = Q ++ [(p, s.1, s.2, nl)]) := hide (by rw [hpt.out, ← List.append_assoc, hQ])
                    rw [hQ] at hown hlenj hPl
                    obtain ⟨s1, s2⟩ := s
                    dsimp only at y0 y1 hQs
                    have z3 := cell_later hb z3
                    obtain ⟨A6, c6, rfl⟩ := hown.form
                    obtain ⟨L, hL⟩ : ∃ L, Q.length = L := ⟨_, rfl⟩
                    rw [hL] at hlenj hPl hown ⊢
                    replace hPl := hide hPl
                    have hclr : cb < wr.heap.size := World.block_lt_of_cell? _ _ z3
                    clear hs hQ hpt
                    by_cases hbig : 4096 < L
                    · have hbi : (4096 : Int) < (L : Int) := by omega
                      have htot : 4096 < (ps.flatMap (patT nl bs)).length := by have := hmore.out j hlt2; have := hPl.out; omega
                      have hres := hide (hbig2.out htot)
                      clear hown
                      go_wp2_with fail
                      try rw [Exit.noGoto_ret]
                      go_ret
                      exact ⟨_, rfl, by rw [hres.out]; exact Own.nil, ext_trans hbl (ext_alloc hb _)⟩
                    · have hbi : ¬ (4096 : Int) < (L : Int) := by omega
                      have hz := hb.size
                      obtain ⟨vss, e1, e2, e3⟩ := id hown
                      have hlo : ∀ y, (Value.slice A6 L c6).ownBlock = some y → wl.heap.size ≤ y := fun y hy => (hown.lt y hy).1
                      go_wp2_with (at_builtin; refine wpList_own (K := kTime) (t := 49) (ts := []) (B0 := 0) (B := wl.heap.size) rfl _ _ rfl apd_times (by decide) rfl ((hown.alloc (.cells #[.int .i64 s1, .int .i64 s2] 70)).alloc (.cells #[.int .i64 p, .int .i64 s1, .int .i64 s2, .int .i64 nl] 49)) (by rw [hL]; omega) (by decide) ⟨wr.heap.size + 1, 0, none⟩ 1 rfl (p, s1, s2, nl) [.int .i64 p, .int .i64 s1, .int .i64 s2, .int .i64 nl] (rep_of_time p s1 s2 nl) (World.news_of_block (cs := #[.int .i64 p, .int .i64 s1, .int .i64 s2, .int .i64 nl]) (t := 49) (fr := (0, 0)) (heap_new2 _ _ _)) (by decide) (Nat.zero_le _) (by rw [World.size_alloc, World.size_alloc]; omega) ?_; intro v' w5 hown5 hgrow)
                      have hb5 : Below wl.heap.size wl w5 := Below.grown (ext_alloc (ext_alloc hb (.cells #[.int .i64 s1, .int .i64 s2] 70)) (.cells #[.int .i64 p, .int .i64 s1, .int .i64 s2, .int .i64 nl] 49)) hgrow (by rw [World.size_alloc, World.size_alloc]; omega) hlo
                      clear hown hb hgrow e1 e2 e3 hlo
                      go_wp2
                      go_roundw
                      case rel => exact ⟨j + 1, by omega, by go_num, by rw [hQs.out]; exact hown5, by rw [hQs.out, List.length_append]; simp; omega, hb5⟩
                      case measure => simp [intOf]; omega
                  · obtain rfl : j = nb := by omega
                    have hall : bs.take j = bs := by rw [← hnb.out]; exact List.take_length
                    rw [hall] at hown hlenj
                    rw [← hft.out] at hown hlenj
                    have hji : ¬ (j : Int) < (j : Int) := by omega
                    clear hall hft hmore
                    go_wp2_with fail
                    go_roundw
                    case rel => exact ⟨k + 1, by omega, by go_num, hown, hlenj, hb⟩
                    case measure => simp [intOf]; omega
              · obtain rfl : k = n4 := by omega
                have hall : ps.take k = ps := by rw [← hn4.out]; exact List.take_length
                rw [hall] at hown hlen
                have hki : ¬ (k : Int) < (k : Int) := by omega
                obtain ⟨A6, c6, rfl⟩ := hown.form
                obtain ⟨L, hL⟩ : ∃ L, (ps.flatMap (patT nl bs)).length = L := ⟨_, rfl⟩
                rw [hL] at hown hlen ⊢
                by_cases hbig : 4096 < L
                · have hbi : (4096 : Int) < (L : Int) := by omega
                  have hres := hide (hbig2.out (by rw [hL]; exact hbig))
                  clear hown
                  go_wp2_with fail
                  try rw [Exit.noGoto_ret]
                  go_ret
                  exact ⟨_, rfl, by rw [hres.out]; exact Own.nil, ext_trans hbl hb⟩
                · have hbi : ¬ (4096 : Int) < (L : Int) := by omega
                  have hres := hide (hsmall.out (by rw [hL]; exact hbig))
                  go_wp2_with fail
                  try rw [Exit.noGoto_ret]
                  go_ret
                  exact ⟨_, rfl, by rw [hres.out]; exact hown.lower hbl.size, ext_trans hbl hb⟩)
    · have h0i : ¬ (n8 : Int) = 0 := by omega
      have h0j : ((n8 : Int) == 0) = false := by simp; omega
      go_upto_region 6 with (go_at_call 39; (with_reducible refine hval.mono ?_); rintro e w1 ⟨rfl, hb1⟩; have hC1 := hC.later hb1; have k0 := cell_later hb1 g0; have k1 := cell_later hb1 g1; have k2 := cell_later hb1 g2; have k3 := cell_later hb1 g3; have z3 := hC1.c3; have z4 := hC1.c4; have z8 := hC1.c8; dsimp only at z3 z4 z8; have hbw := ext_trans hb0 hb1; have a41 := a4W.later hb1; have a81 := a8W.later hb1; have hcl1 := World.block_lt_of_cell? _ _ z3; have hgl1 := World.block_lt_of_cell? _ _ k0)
      all_goals try (exfalso; omega)
      have hne : ¬ ss = [] := fun h => by have := h8.out; rw [h] at this; simp at this; omega
      have hbb := hbig.out ss (by unfold begins; rw [if_neg hne])
      have hbig2 := hide hbb.1
      have hsmall := hide hbb.2
      have hbs := a81.lo
      have hps := a41.lo
      have hbl := hbw
      have hbm := m8
      obtain ⟨bs, hbs0⟩ : ∃ bs, ss = bs := ⟨_, rfl⟩
      rw [hbs0] at hbs hbig2 hsmall h8
      have hnb := h8
      have hcll := hcl1
      obtain ⟨nb, hnbb⟩ : ∃ nb, nb = n8 := ⟨_, rfl⟩
      subst hnbb
      obtain ⟨wl, hwl⟩ : ∃ wl, wl = w1 := ⟨_, rfl⟩
      subst hwl
      clear hbb hbig hne hbs0 k0 k1 k2 k3 a41 a81 hC1 hbw hcl1 hgl1 h0
      (
            go_wp2_with fail
            go_step3
            go_wp2_with fail
            go_loopw [6, 38] (fun v i wr => ∃ k : Nat, k ≤ n4 ∧ i = .int .i64 k ∧ Own kTime 49 [] 0 wl.heap.size wr v ((ps.take k).flatMap (patT nl bs)) ∧ ((ps.take k).flatMap (patT nl bs)).length ≤ 4097 ∧ Below wl.heap.size wl wr) (fun _ i _ => n4 - (intOf i).toNat)
            case atStart => exact ⟨0, Nat.zero_le _, rfl, Own.nil, by simp, Below.refl _ _⟩
            case round =>
              obtain ⟨k, hk, rfl, hown, hlen, hb⟩ := hrel
              by_cases hlt : k < n4
              · obtain ⟨p, hp⟩ : ∃ p, ps[k]? = some p := ⟨_, List.getElem?_eq_getElem (by rw [hn4.out]; exact hlt)⟩
                obtain ⟨pb, po, rfl, -, hpb, x0⟩ := (hps.later hb).int hp
                have hk0 : (0 : Int) ≤ (k : Int) := by omega
                have hkn : (k : Int) < (n4 : Int) := by omega
                have hft := hide (flatK_at nl bs ps hp)
                have hmore := hide (fun j (hj : j < nb) => flat_more nl bs ps (k := k) (j := j) (by rw [hn4.out]; exact hlt) (by rw [hnb.out]; exact hj))
                obtain ⟨P, hP⟩ : ∃ P, (ps.take k).flatMap (patT nl bs) = P := ⟨_, rfl⟩
                rw [hP] at hown hlen hft hmore
                clear hP hp
                go_wp2_with fail
                rename World => wo
                go_loopw [6, 44] (fun v i wr => ∃ j : Nat, j ≤ nb ∧ i = .int .i64 j ∧ Own kTime 49 [] 0 wl.heap.size wr v (P ++ patT nl (bs.take j) p) ∧ (P ++ patT nl (bs.take j) p).length ≤ 4097 ∧ Below wl.heap.size wl wr) (fun _ i _ => nb - (intOf i).toNat)
                case atStart => exact ⟨0, Nat.zero_le _, rfl, by show Own kTime 49 [] 0 wl.heap.size wo _ (P ++ []); rw [List.append_nil]; exact hown, by show (P ++ []).length ≤ 4097; rw [List.append_nil]; exact hlen, hb⟩
                case round =>
                  clear hown hb x0
                  obtain ⟨j, hj, rfl, hown, hlenj, hb⟩ := hrel
                  by_cases hlt2 : j < nb
                  · obtain ⟨s, hs⟩ : ∃ s, bs[j]? = some s := ⟨_, List.getElem?_eq_getElem (by rw [hnb.out]; exact hlt2)⟩
                    obtain ⟨sb, so, rfl, -, hsb, y0, y1⟩ := (hbs.later hb).start hs
                    have hj0 : (0 : Int) ≤ (j : Int) := by omega
                    have hjn : (j : Int) < (nb : Int) := by omega
                    have hpt := hide (patT_snoc nl bs p hs)
                    have hPl : (P ++ patT nl (bs.take j) p).length = P.length + j := by
                      rw [List.length_append]
                      unfold patT
                      rw [List.length_map, List.length_take, hnb.out, Nat.min_eq_left hj]
                    obtain ⟨Q, hQ⟩ : ∃ Q, P ++ patT nl (bs.take j) p = Q := ⟨_, rfl⟩
                    have hQs : Hid (P ++ patT nl (bs.take (j + 1)) p = Q ++ [(p, s.1, s.2, nl)]) := hide (by rw [hpt.out, ← List.append_assoc, hQ])
                    rw [hQ] at hown hlenj hPl
                    obtain ⟨s1, s2⟩ := s
                    dsimp only at y0 y1 hQs
                    have z3 := cell_later hb z3
                    obtain ⟨A6, c6, rfl⟩ := hown.form
                    obtain ⟨L, hL⟩ : ∃ L, Q.length = L := ⟨_, rfl⟩
                    rw [hL] at hlenj hPl hown ⊢
                    replace hPl := hide hPl
                    have hclr : cb < wr.heap.size := World.block_lt_of_cell? _ _ z3
                    clear hs hQ hpt
                    by_cases hbig : 4096 < L
                    · have hbi : (4096 : Int) < (L : Int) := by omega
                      have htot : 4096 < (ps.flatMap (patT nl bs)).length := by have := hmore.out j hlt2; have := hPl.out; omega
                      have hres := hide (hbig2.out htot)
                      clear hown
                      go_wp2_with fail
                      try rw [Exit.noGoto_ret]
                      go_ret
                      exact ⟨_, rfl, by rw [hres.out]; exact Own.nil, ext_trans hbl (ext_alloc hb _)⟩
                    · have hbi : ¬ (4096 : Int) < (L : Int) := by omega
                      have hz := hb.size
                      obtain ⟨vss, e1, e2, e3⟩ := id hown
                      have hlo : ∀ y, (Value.slice A6 L c6).ownBlock = some y → wl.heap.size ≤ y := fun y hy => (hown.lt y hy).1
                      go_wp2_with (at_builtin; refine wpList_own (K := kTime) (t := 49) (ts := []) (B0 := 0) (B := wl.heap.size) rfl _ _ rfl apd_times (by decide) rfl ((hown.alloc (.cells #[.int .i64 s1, .int .i64 s2] 70)).alloc (.cells #[.int .i64 p, .int .i64 s1, .int .i64 s2, .int .i64 nl] 49)) (by rw [hL]; omega) (by decide) ⟨wr.heap.size + 1, 0, none⟩ 1 rfl (p, s1, s2, nl) [.int .i64 p, .int .i64 s1, .int .i64 s2, .int .i64 nl] (rep_of_time p s1 s2 nl) (World.news_of_block (cs := #[.int .i64 p, .int .i64 s1, .int .i64 s2, .int .i64 nl]) (t := 49) (fr := (0, 0)) (heap_new2 _ _ _)) (by decide) (Nat.zero_le _) (by rw [World.size_alloc, World.size_alloc]; omega) ?_; intro v' w5 hown5 hgrow)
                      have hb5 : Below wl.heap.size wl w5 := Below.grown (ext_alloc (ext_alloc hb (.cells #[.int .i64 s1, .int .i64 s2] 70)) (.cells #[.int .i64 p, .int .i64 s1, .int .i64 s2, .int .i64 nl] 49)) hgrow (by rw [World.size_alloc, World.size_alloc]; omega) hlo
                      clear hown hb hgrow e1 e2 e3 hlo
                      go_wp2
                      go_roundw
                      case rel => exact ⟨j + 1, by omega, by go_num, by rw [hQs.out]; exact hown5, by rw [hQs.out, List.length_append]; simp; omega, hb5⟩
                      case measure => simp [intOf]; omega
                  · obtain rfl : j = nb := by omega
                    have hall : bs.take j = bs := by rw [← hnb.out]; exact List.take_length
                    rw [hall] at hown hlenj
                    rw [← hft.out] at hown hlenj
                    have hji : ¬ (j : Int) < (j : Int) := by omega
                    clear hall hft hmore
                    go_wp2_with fail
                    go_roundw
                    case rel => exact ⟨k + 1, by omega, by go_num, hown, hlenj, hb⟩
                    case measure => simp [intOf]; omega
              · obtain rfl : k = n4 := by omega
                have hall : ps.take k = ps := by rw [← hn4.out]; exact List.take_length
                rw [hall] at hown hlen
                have hki : ¬ (k : Int) < (k : Int) := by omega
                obtain ⟨A6, c6, rfl⟩ := hown.form
                obtain ⟨L, hL⟩ : ∃ L, (ps.flatMap (patT nl bs)).length = L := ⟨_, rfl⟩
                rw [hL] at hown hlen ⊢
                by_cases hbig : 4096 < L
                · have hbi : (4096 : Int) < (L : Int) := by omega
                  have hres := hide (hbig2.out (by rw [hL]; exact hbig))
                  clear hown
                  go_wp2_with fail
                  try rw [Exit.noGoto_ret]
                  go_ret
                  exact ⟨_, rfl, by rw [hres.out]; exact Own.nil, ext_trans hbl hb⟩
                · have hbi : ¬ (4096 : Int) < (L : Int) := by omega
                  have hres := hide (hsmall.out (by rw [hL]; exact hbig))
                  go_wp2_with fail
                  try rw [Exit.noGoto_ret]
                  go_ret
                  exact ⟨_, rfl, by rw [hres.out]; exact hown.lower hbl.size, ext_trans hbl hb⟩)
end Go.Proofs.YtimcdikeajbabaaGreatDoor

namespace Go.Proofs.YtimcdikeajbabaaGreatDoor
open Go.RowKit
set_option maxRecDepth 100000

theorem flat_whole (len : Int) (bs : List (Int × Int)) (ps : List Int) {k : Nat} (hk : k < ps.length) : ((ps.take k).flatMap (patT len bs)).length + bs.length ≤ (ps.flatMap (patT len bs)).length := by
  rw [patT_len, patT_len, List.length_take, Nat.min_eq_left (by omega), ← Nat.succ_mul]
  exact Nat.mul_le_mul (by omega) (Nat.le_refl _)
theorem flat_le (len : Int) (bs : List (Int × Int)) (ps : List Int) {k : Nat} (hk : k ≤ ps.length) (hk0 : 0 < k) : bs.length ≤ ((ps.take k).flatMap (patT len bs)).length := by
  rw [patT_len, List.length_take, Nat.min_eq_left hk]
  exact Nat.le_mul_of_pos_left _ hk0
set_option maxHeartbeats 8000000 in
theorem r10times_walk (z co pa : ByteArray) (nl : Int) (A4 : Option Addr) (n4 c4 : Nat) (mm : Int) (A6 : Option Addr) (n6 c6 : Nat) (A7 : Option Addr) (n7 c7 : Nat) (A8 : Option Addr) (n8 c8 : Nat) (ps : List Int) (fs st : List ByteArray) (ss : List (Int × Int)) (d sl b m : Int) (w : World)
    (h4 : ps.length = n4) (h8 : ss.length = n8) (m4 : n4 ≤ 9223372036854775807) (m8 : n8 ≤ 9223372036854775807) (a4 : At kInt AnyB w A4 ps) (a8 : At kStart AnyB w A8 ss) :
    Calls Tryz.prog 26 #[.agg #[.string z, .string co, .string pa, .int .i64 nl, .slice A4 n4 c4, .int .i64 mm, .slice A6 n6 c6, .slice A7 n7 c7, .slice A8 n8 c8], .agg #[.int .i64 d, .int .i64 sl, .int .i64 b, .int .i64 m]] w fun e w' => ∃ v, e = .returned v ∧ Own kTime 49 [] 0 w.heap.size w' v (timesK d sl b m (z, co, pa, nl, ps, mm, fs, st, ss)) ∧ Below w.heap.size w w' := by
  have hb0 : Below w.heap.size w ((w.alloc (.cells #[.string z, .string co, .string pa, .int .i64 nl, .slice A4 n4 c4, .int .i64 mm, .slice A6 n6 c6, .slice A7 n7 c7, .slice A8 n8 c8] 47)).alloc (.cells #[.int .i64 d, .int .i64 sl, .int .i64 b, .int .i64 m] 24)) := (by repeat (first | exact Below.refl _ _ | refine ext_alloc ?_ _ | refine ext_drewN ?_ _ | refine ext_drew ?_ | refine ext_trans ?_ (by assumption)))
  have hz : (w.alloc (.cells #[.string z, .string co, .string pa, .int .i64 nl, .slice A4 n4 c4, .int .i64 mm, .slice A6 n6 c6, .slice A7 n7 c7, .slice A8 n8 c8] 47)).heap.size = w.heap.size + 1 := World.size_alloc _ _
  have hC0 := (cbox_new w ⟨z, co, pa, nl, A4, n4, c4, mm, A6, n6, c6, A7, n7, c7, A8, n8, c8⟩).alloc (.cells #[.int .i64 d, .int .i64 sl, .int .i64 b, .int .i64 m] 24)
  have bG := Box4.new (w.alloc (.cells #[.string z, .string co, .string pa, .int .i64 nl, .slice A4 n4 c4, .int .i64 mm, .slice A6 n6 c6, .slice A7 n7 c7, .slice A8 n8 c8] 47)) 24 (.int .i64 d) (.int .i64 sl) (.int .i64 b) (.int .i64 m)
  rw [hz] at bG
  obtain ⟨W, hW⟩ : ∃ W, (w.alloc (.cells #[.string z, .string co, .string pa, .int .i64 nl, .slice A4 n4 c4, .int .i64 mm, .slice A6 n6 c6, .slice A7 n7 c7, .slice A8 n8 c8] 47)).alloc (.cells #[.int .i64 d, .int .i64 sl, .int .i64 b, .int .i64 m] 24) = W := ⟨_, rfl⟩
  have hC : CBox W w.heap.size ⟨z, co, pa, nl, A4, n4, c4, mm, A6, n6, c6, A7, n7, c7, A8, n8, c8⟩ := by rw [← hW]; exact hC0
  rw [hW] at hb0 bG
  have a4W := a4.later hb0
  have a8W := a8.later hb0
  obtain ⟨cb, hcb⟩ : ∃ cb, w.heap.size = cb := ⟨_, rfl⟩
  obtain ⟨gb, hgb⟩ : ∃ gb, w.heap.size + 1 = gb := ⟨_, rfl⟩
  rw [hcb] at hC
  rw [hgb] at bG
  obtain ⟨R, hR⟩ : ∃ R, timesK d sl b m (z, co, pa, nl, ps, mm, fs, st, ss) = R := ⟨_, rfl⟩
  rw [hR]
  replace hR := hide hR
  have y3 := hC.c3
  have y4 := hC.c4
  have y8 := hC.c8
  dsimp only at y3 y4 y8
  have hcl := hC.lt
  have hgl := bG.lt
  obtain ⟨g0, g1, g2, g3⟩ := bG
  obtain ⟨gv, hgv⟩ : ∃ gv, gridV d sl b m = gv := ⟨_, rfl⟩
  have hval := r6Valid_walk d sl b m W
  rw [hgv] at hval
  replace hW := hide hW
  replace hcb := hide hcb
  replace hgb := hide hgb
  have hn4 := hide h4
  replace h8 := hide h8
  clear a4 a8 hz hC0 h4
  by_cases hok : gv ≠ 0 ∨ nl < 1 ∨ sl < nl
  · have hRn : Hid (R = []) := hide (by rw [← hR.out]; unfold timesK; rw [hgv, if_pos hok])
    clear hgv y4 y8 a4W a8W hC
    by_cases h1 : gv = 0
    · subst h1
      by_cases h2 : nl < 1
      · clear hok
        go_enter Tryz.func26, Tryz.ntmps26
        go_upto_region 1 with fail
        rw [hW.out, hgb.out, hcb.out]
        go_wp2_with (go_at_call 56; (with_reducible refine hval.mono ?_); rintro e w1 ⟨rfl, hb1⟩; have g0' := cell_later hb1 g0; have g1' := cell_later hb1 g1; have y3' := cell_later hb1 y3; have hbw := ext_trans hb0 hb1; have hcl1 := World.block_lt_of_cell? _ _ y3'; have hgl1 := World.block_lt_of_cell? _ _ g0')
        all_goals try (exfalso; omega)
        all_goals
          go_ret
          exact ⟨_, rfl, by rw [hRn.out]; exact Own.nil, hbw⟩
      · have h3 : sl < nl := by rcases hok with h | h | h; exact absurd rfl h; exact absurd h h2; exact h
        clear hok
        go_enter Tryz.func26, Tryz.ntmps26
        go_upto_region 1 with fail
        rw [hW.out, hgb.out, hcb.out]
        go_wp2_with (go_at_call 56; (with_reducible refine hval.mono ?_); rintro e w1 ⟨rfl, hb1⟩; have g0' := cell_later hb1 g0; have g1' := cell_later hb1 g1; have y3' := cell_later hb1 y3; have hbw := ext_trans hb0 hb1; have hcl1 := World.block_lt_of_cell? _ _ y3'; have hgl1 := World.block_lt_of_cell? _ _ g0')
        all_goals try (exfalso; omega)
        all_goals
          go_ret
          exact ⟨_, rfl, by rw [hRn.out]; exact Own.nil, hbw⟩
    · have hi : ¬ (gv : Int) = 0 := by omega
      have hi2 : ((gv : Int) != 0) = true := by simp; omega
      clear hok h1
      go_enter Tryz.func26, Tryz.ntmps26
      go_upto_region 1 with fail
      rw [hW.out, hgb.out, hcb.out]
      go_wp2_with (go_at_call 56; (with_reducible refine hval.mono ?_); rintro e w1 ⟨rfl, hb1⟩; have g0' := cell_later hb1 g0; have g1' := cell_later hb1 g1; have y3' := cell_later hb1 y3; have hbw := ext_trans hb0 hb1; have hcl1 := World.block_lt_of_cell? _ _ y3'; have hgl1 := World.block_lt_of_cell? _ _ g0')
      all_goals try (exfalso; omega)
      all_goals
        go_ret
        exact ⟨_, rfl, by rw [hRn.out]; exact Own.nil, hbw⟩
  · obtain ⟨rfl, l1, l2⟩ : gv = 0 ∧ ¬ nl < 1 ∧ ¬ sl < nl := ⟨Classical.byContradiction fun h => hok (Or.inl h), fun h => hok (Or.inr (Or.inl h)), fun h => hok (Or.inr (Or.inr h))⟩
    obtain ⟨e1, e2⟩ : (d = (d.toNat : Int) ∧ d.toNat ≤ 7) ∧ (sl = (sl.toNat : Int) ∧ sl.toNat ≤ 24) := by
      unfold gridV at hgv
      split at hgv
      · omega
      · omega
    have hbig : Hid (∀ bs, bs = begins d sl (z, co, pa, nl, ps, mm, fs, st, ss) → (4096 < (ps.flatMap (patT nl bs)).length → R = []) ∧ (¬ 4096 < (ps.flatMap (patT nl bs)).length → R = ps.flatMap (patT nl bs))) := hide (fun bs hbs => by
      rw [← hR.out]
      unfold timesK
      rw [hgv, if_neg hok, ← hbs]
      exact ⟨fun h => if_pos h, fun h => if_neg h⟩)
    clear hR hgv hok
    replace e1 := hide e1
    replace e2 := hide e2
    go_enter Tryz.func26, Tryz.ntmps26
    go_upto_region 1 with fail
    rw [hW.out, hgb.out, hcb.out]
    by_cases h0 : n8 = 0
    · subst h0
      obtain rfl := List.eq_nil_of_length_eq_zero h8.out
      replace e1 := e1.out
      replace e2 := e2.out
      obtain ⟨D, rfl⟩ : ∃ D : Nat, d = (D : Int) := ⟨d.toNat, e1.1⟩
      obtain ⟨SL, rfl⟩ : ∃ S : Nat, sl = (S : Int) := ⟨sl.toNat, e2.1⟩
      obtain ⟨NL, rfl⟩ : ∃ S : Nat, nl = (S : Int) := ⟨nl.toNat, by omega⟩
      rw [Int.toNat_natCast] at e1 e2
      replace e1 := e1.2
      replace e2 := e2.2
      have hbb := hbig.out (allStarts D SL NL) (by unfold begins; simp)
      have hbig2 := hide hbb.1
      have hsmall := hide hbb.2
      have hsubw : IntKind.i64.wrap ((SL : Int) - NL) = (SL : Int) - NL := IntWalk.i64_in _ (by omega)
      clear hbig hbb
      go_upto_region 6 with (go_at_call 56; (with_reducible refine hval.mono ?_); rintro e w1 ⟨rfl, hb1⟩; have hC1 := hC.later hb1; have k0 := cell_later hb1 g0; have k1 := cell_later hb1 g1; have k2 := cell_later hb1 g2; have k3 := cell_later hb1 g3; have z3 := hC1.c3; have z4 := hC1.c4; have z8 := hC1.c8; dsimp only at z3 z4 z8; have hbw := ext_trans hb0 hb1; have a41 := a4W.later hb1; have a81 := a8W.later hb1; have hcl1 := World.block_lt_of_cell? _ _ z3; have hgl1 := World.block_lt_of_cell? _ _ k0)
      all_goals try (exfalso; omega)
      clear hval
      go_wp2_with fail
      go_loopw [5, 6] (fun v i wr => ∃ a : Nat, a ≤ D ∧ i = .int .i64 a ∧ Own kStart 70 [] 0 w1.heap.size wr v (allStarts a SL NL) ∧ Below w1.heap.size w1 wr) (fun _ i _ => D - (intOf i).toNat)
      case atStart => exact ⟨0, Nat.zero_le _, rfl, Own.nil, Below.refl _ _⟩
      case round =>
        obtain ⟨a, ha, rfl, hown, hb⟩ := hrel
        have k0r := cell_later hb k0
        have k1r := cell_later hb k1
        have z3r := cell_later hb z3
        have hgr := World.block_lt_of_cell? _ _ k0r
        have hcr := World.block_lt_of_cell? _ _ z3r
        by_cases hlt : a < D
        · go_wp2_with fail
          obtain ⟨wo, hwo⟩ : ∃ wo, wo = wr := ⟨_, rfl⟩
          subst hwo
          go_loopw [5, 7] (fun v i wr => ∃ c : Nat, c ≤ SL + 1 - NL ∧ i = .int .i64 c ∧ Own kStart 70 [] 0 w1.heap.size wr v (allStarts a SL NL ++ rowTo a c) ∧ Below w1.heap.size w1 wr) (fun _ i _ => (SL + 1 - NL) - (intOf i).toNat)
          case atStart => exact ⟨0, Nat.zero_le _, rfl, by rw [show rowTo a 0 = [] from rfl, List.append_nil]; exact hown, hb⟩
          case round =>
            clear hown hb k0r k1r z3r hgr hcr
            obtain ⟨c, hc, rfl, hown, hb⟩ := hrel
            have k0r := cell_later hb k0
            have k1r := cell_later hb k1
            have z3r := cell_later hb z3
            have hgr := World.block_lt_of_cell? _ _ k0r
            have hcr := World.block_lt_of_cell? _ _ z3r
            by_cases hlt2 : c < SL + 1 - NL
            · have hlen : (allStarts a SL NL ++ rowTo a c).length ≤ 4000000000 := by
                rw [List.length_append, allStarts_len]
                unfold rowTo
                rw [List.length_map, List.length_range]
                have : a * (SL + 1 - NL) ≤ 7 * 25 := Nat.mul_le_mul (by omega) (by omega)
                omega
              have hsn : Hid (allStarts a SL NL ++ rowTo a (c + 1) = allStarts a SL NL ++ rowTo a c ++ [((a : Int), (c : Int))]) := hide (by rw [rowTo_snoc, List.append_assoc])
              have hci : (c : Int) ≤ (SL : Int) - NL := by omega
              have hz := hb.size
              go_wp2_with (at_builtin; refine wpList_own (K := kStart) (t := 70) (ts := []) (B0 := 0) (B := w1.heap.size) rfl _ _ rfl apd_st (by decide) rfl (hown.alloc _) hlen (by decide) ⟨wr.heap.size, 0, none⟩ 1 rfl ((a : Int), (c : Int)) [.int .i64 (a : Int), .int .i64 (c : Int)] (start_rep _ _) (World.news_of_block (cs := #[.int .i64 (a : Int), .int .i64 (c : Int)]) (t := 70) (fr := (0, 0)) (heap_alloc_new _ _)) (by decide) (Nat.zero_le _) (by rw [World.size_alloc]; omega) ?_; intro v' w5 hown5 hgrow)
              have hb5 : Below w1.heap.size w1 w5 := Below.grown (ext_alloc hb _) hgrow (by rw [World.size_alloc]; omega) (fun y hy => (hown.lt y hy).1)
              clear hown hb hgrow
              go_wp2
              go_roundw
              case rel => exact ⟨c + 1, by omega, by go_num, by rw [hsn.out]; exact hown5, hb5⟩
              case measure => simp [intOf]; omega
            · obtain rfl : c = SL + 1 - NL := by omega
              have hsn : allStarts (a + 1) SL NL = allStarts a SL NL ++ rowTo a (SL + 1 - NL) := allStarts_snoc a SL NL
              have hci : ¬ ((SL + 1 - NL : Nat) : Int) ≤ (SL : Int) - NL := by omega
              rw [← hsn] at hown
              clear hsn
              go_wp2_with fail
              go_roundw
              case rel => exact ⟨a + 1, by omega, by go_num, hown, hb⟩
              case measure => simp [intOf]; omega
        · obtain rfl : a = D := by omega
          have hai : ¬ (a : Int) < (a : Int) := by omega
          obtain ⟨wl, hwl⟩ : ∃ wl, wl = wr := ⟨_, rfl⟩
          subst hwl
          obtain ⟨A5, c5, rfl, -, hbs5⟩ := hown.any
          have hbs := hbs5
          have hps := (a41.later hb).lo
          have hbl := ext_trans hbw hb
          have z3 := z3r
          have z4 := cell_later hb z4
          obtain ⟨bs, hbs0⟩ : ∃ bs, allStarts a SL NL = bs := ⟨_, rfl⟩
          rw [hbs0] at hbs hbig2 hsmall ⊢
          have hcll : cb < wl.heap.size := World.block_lt_of_cell? _ _ z3
          have hbm : bs.length ≤ 9223372036854775807 := by rw [← hbs0, allStarts_len]; have : a * (SL + 1 - NL) ≤ 7 * 25 := Nat.mul_le_mul (by omega) (by omega); omega
          obtain ⟨nl, hnl⟩ : ∃ nl : Int, (NL : Int) = nl := ⟨_, rfl⟩
          rw [hnl] at z3 hbig2 hsmall
          obtain ⟨nb, hnb⟩ : ∃ nb, bs.length = nb := ⟨_, rfl⟩
          rw [hnb] at hbm ⊢
          replace hnb := hide hnb
          go_upto_region 13 with fail
          clear hown hbs5 hb hbs0 z8 k0 k1 k2 k3 a41 a81 hC1 hbw hcl1 hgl1 k0r k1r z3r hgr hcr
          (
                go_wp2_with fail
                go_loopw [8, 9] (fun v i wr => ∃ k : Nat, k ≤ n4 ∧ i = .int .i64 k ∧ Own kTime 49 [] 0 wl.heap.size wr v ((ps.take k).flatMap (patT nl bs)) ∧ ((ps.take k).flatMap (patT nl bs)).length ≤ 4096 ∧ Below wl.heap.size wl wr) (fun _ i _ => n4 - (intOf i).toNat)
                case atStart => exact ⟨0, Nat.zero_le _, rfl, Own.nil, by simp, Below.refl _ _⟩
                case round =>
                  obtain ⟨k, hk, rfl, hown, hlen, hb⟩ := hrel
                  have z3k := cell_later hb z3
                  have z4k := cell_later hb z4
                  have hclr : cb < wr.heap.size := World.block_lt_of_cell? _ _ z3k
                  by_cases hlt : k < n4
                  · obtain ⟨p, hp⟩ : ∃ p, ps[k]? = some p := ⟨_, List.getElem?_eq_getElem (by rw [hn4.out]; exact hlt)⟩
                    obtain ⟨pb, po, rfl, hpw, hpb, x0⟩ := (hps.later hb).int hp
                    have hk0 : (0 : Int) ≤ (k : Int) := by omega
                    have hkn : (k : Int) < (n4 : Int) := by omega
                    have hft := hide (flatK_at nl bs ps hp)
                    have hwhole := flat_whole nl bs ps (k := k) (by rw [hn4.out]; exact hlt)
                    have hsmallk : k = 0 ∨ nb ≤ ((ps.take k).flatMap (patT nl bs)).length := by
                      rcases Nat.eq_zero_or_pos k with h | h
                      · exact Or.inl h
                      · exact Or.inr (by rw [← hnb.out]; exact flat_le nl bs ps (by rw [hn4.out]; exact hk) h)
                    have hz0 : k = 0 → ((ps.take k).flatMap (patT nl bs)).length = 0 := fun h => by rw [h]; simp
                    rw [hnb.out] at hwhole
                    obtain ⟨P, hP⟩ : ∃ P, (ps.take k).flatMap (patT nl bs) = P := ⟨_, rfl⟩
                    rw [hP] at hown hlen hft hwhole hsmallk hz0
                    obtain ⟨A9, c9, rfl⟩ := hown.form
                    have hsum : P.length + nb ≤ 9223372036854775807 := by
                      rcases hsmallk with h | h
                      · have := hz0 h; omega
                      · omega
                    obtain ⟨LP, hLP⟩ : ∃ LP, P.length = LP := ⟨_, rfl⟩
                    rw [hLP] at hown hlen hwhole hsum ⊢
                    have hsw : IntKind.i64.wrap ((LP : Int) + (nb : Int)) = (LP : Int) + (nb : Int) := IntWalk.i64_in _ (by omega)
                    replace hLP := hide hLP
                    have hpk := hide hp
                    clear hP hp hsmallk hz0
                    by_cases hbig : 4096 < LP + nb
                    · have hbi : (4096 : Int) < (LP : Int) + (nb : Int) := by omega
                      have hres := hide (hbig2.out (by omega))
                      clear hown
                      go_wp2_with fail
                      go_ret
                      exact ⟨_, rfl, by rw [hres.out]; exact Own.nil, ext_trans hbl hb⟩
                    · have hbi : ¬ (4096 : Int) < (LP : Int) + (nb : Int) := by omega
                      go_wp2_with fail
                      obtain ⟨wo, hwo⟩ : ∃ wo, wo = wr := ⟨_, rfl⟩
                      subst hwo
                      go_loopw [8, 10] (fun v i wr => ∃ j : Nat, j ≤ nb ∧ i = .int .i64 j ∧ Own kTime 49 [] 0 wl.heap.size wr v (P ++ patT nl (bs.take j) p) ∧ Below wl.heap.size wl wr) (fun _ i _ => nb - (intOf i).toNat)
                      case atStart => exact ⟨0, Nat.zero_le _, rfl, by show Own kTime 49 [] 0 wl.heap.size wo _ (P ++ []); rw [List.append_nil]; exact hown, hb⟩
                      case round =>
                        clear hown hb x0 z3k z4k hclr
                        obtain ⟨j, hj, rfl, hown, hb⟩ := hrel
                        by_cases hlt2 : j < nb
                        · obtain ⟨s, hs⟩ : ∃ s, bs[j]? = some s := ⟨_, List.getElem?_eq_getElem (by rw [hnb.out]; exact hlt2)⟩
                          obtain ⟨sb, so, rfl, hsw2, hsb, y0, y1⟩ := (hbs.later hb).start hs
                          obtain ⟨pb', po', e1, -, -, x0⟩ := (hps.later hb).int hpk.out
                          injection e1 with e1
                          injection e1 with e2 e3 _
                          subst e2 e3
                          have hj0 : (0 : Int) ≤ (j : Int) := by omega
                          have hjn : (j : Int) < (nb : Int) := by omega
                          have hpt := patT_snoc nl bs p hs
                          have hPl : (P ++ patT nl (bs.take j) p).length = LP + j := by
                            rw [List.length_append, hLP.out]
                            unfold patT
                            rw [List.length_map, List.length_take, hnb.out, Nat.min_eq_left hj]
                          obtain ⟨Q, hQ⟩ : ∃ Q, P ++ patT nl (bs.take j) p = Q := ⟨_, rfl⟩
                          have hQs : Hid (P ++ patT nl (bs.take (j + 1)) p = Q ++ [(p, s.1, s.2, nl)]) := hide (by rw [hpt, ← List.append_assoc, hQ])
                          rw [hQ] at hown hPl
                          obtain ⟨s1, s2⟩ := s
                          dsimp only at y0 y1 hQs
                          have z3j := cell_later hb z3
                          have z4j := cell_later hb z4
                          obtain ⟨A6, c6, rfl⟩ := hown.form
                          obtain ⟨L, hL⟩ : ∃ L, Q.length = L := ⟨_, rfl⟩
                          have hQl : Q.length ≤ 4000000000 := by omega
                          rw [hL] at hPl hown ⊢
                          replace hPl := hide hPl
                          have hlo : ∀ y, (Value.slice A6 L c6).ownBlock = some y → wl.heap.size ≤ y := fun y hy => (hown.lt y hy).1
                          have hclr : cb < wl.heap.size := hcll
                          have nc : Hid (some cb ≠ (Value.slice A6 L c6).ownBlock) := hide fun e => by have := hlo cb e.symm; omega
                          have np : Hid (some pb ≠ (Value.slice A6 L c6).ownBlock) := hide fun e => by have := hlo pb e.symm; have : pb < wl.heap.size := hpw; omega
                          have ns : Hid (some sb ≠ (Value.slice A6 L c6).ownBlock) := hide fun e => by have := hlo sb e.symm; have : sb < wl.heap.size := hsw2; omega
                          have hC : Cn5 cb 3 (.int .i64 nl) cb 4 (.slice (some ⟨pb, po, none⟩) n4 c4) pb (po + k) (.int .i64 p) sb (so + j * 2) (.int .i64 s1) sb (so + j * 2 + 1) (.int .i64 s2) wr := ⟨z3j, z4j, x0, y0, y1⟩
                          have hcr : cb < wr.heap.size := World.block_lt_of_cell? _ _ z3j
                          clear hs hQ hpt z3j z4j x0 y0 y1 hL
                          go_upto_region 22 with fail
                          obtain ⟨r0, r1, r2, r3, r4⟩ := id hC
                          have hCd := hC.drew
                          go_region_held3 (fun W' => W'.cell? ⟨cb, 3, none⟩ = some (.int .i64 nl) ∧ W'.cell? ⟨cb, 4, none⟩ = some (.slice (some ⟨pb, po, none⟩) n4 c4) ∧ W'.cell? ⟨pb, po + k, none⟩ = some (.int .i64 p) ∧ W'.cell? ⟨sb, so + j * 2, none⟩ = some (.int .i64 s1) ∧ W'.cell? ⟨sb, so + j * 2 + 1, none⟩ = some (.int .i64 s2)) (first | ((repeat (first | (with_reducible assumption) | (with_reducible refine Cn5.alloc ?_ _) | (with_reducible refine Cn5.drew ?_) | (with_reducible refine Cn5.set ?_ ?_ ?_ ?_ ?_ ?_ _) | omega)); done)) (first | (refine step_own (S := Cn5 cb 3 (.int .i64 nl) cb 4 (.slice (some ⟨pb, po, none⟩) n4 c4) pb (po + k) (.int .i64 p) sb (so + j * 2) (.int .i64 s1) sb (so + j * 2 + 1) (.int .i64 s2)) (K := kTime) (t := 49) (ts := []) (B0 := 0) (B := wl.heap.size) (v := .slice A6 L c6) (l := Q) rfl (.tmp 71) (.tmp 90) rfl apd_times (by decide) (by rfl) (by repeat (first | (with_reducible assumption) | (with_reducible refine Own.alloc ?_ _) | (with_reducible refine Own.drew ?_))) hQl (by decide) _ _ (by rfl) (p, s1, s2, nl) [.int .i64 p, .int .i64 s1, .int .i64 s2, .int .i64 nl] (rep_of_time p s1 s2 nl) (World.news_of_block (cs := #[.int .i64 p, .int .i64 s1, .int .i64 s2, .int .i64 nl]) (t := 49) (fr := (0, 0)) (by first | exact heap_alloc_new _ _ | exact heap_new2 _ _ _)) (by decide) (Nat.zero_le _) (Below.size (w := wl) (by repeat (first | (with_reducible assumption) | (with_reducible refine ext_alloc ?_ _) | (with_reducible refine ext_drew ?_)))) (fun W' hg => Cn5.grown (by repeat (first | (with_reducible assumption) | (with_reducible refine Cn5.alloc ?_ _) | (with_reducible refine Cn5.drew ?_))) hg nc.out nc.out np.out ns.out ns.out) ?_; intro gA capA w5 hown5 hgrow hs5))
                          all_goals
                            have hb5 : Below wl.heap.size wl w5 := below_grown (by repeat (first | (with_reducible assumption) | (with_reducible refine ext_alloc ?_ _) | (with_reducible refine ext_drew ?_))) hgrow hlo
                            clear hC hCd hs5 hgrow hown
                            go_wp2
                            go_roundw
                            case rel => exact ⟨j + 1, by omega, by go_num, by rw [hQs.out]; exact hown5, hb5⟩
                            case measure => simp [intOf]; omega
                        · obtain rfl : j = nb := by omega
                          have hall : bs.take j = bs := by rw [← hnb.out]; exact List.take_length
                          rw [hall] at hown
                          rw [← hft.out] at hown
                          have hji : ¬ (j : Int) < (j : Int) := by omega
                          have hlen2 : ((ps.take (k + 1)).flatMap (patT nl bs)).length ≤ 4096 := by
                            rw [hft.out, List.length_append, hLP.out]
                            unfold patT
                            rw [List.length_map, hnb.out]
                            omega
                          clear hall hft
                          go_wp2_with fail
                          go_roundw
                          case rel => exact ⟨k + 1, by omega, by go_num, hown, hlen2, hb⟩
                          case measure => simp [intOf]; omega
                  · obtain rfl : k = n4 := by omega
                    have hall : ps.take k = ps := by rw [← hn4.out]; exact List.take_length
                    rw [hall] at hown hlen
                    have hki : ¬ (k : Int) < (k : Int) := by omega
                    have hres := hide (hsmall.out (by omega))
                    go_wp2_with fail
                    go_ret
                    exact ⟨_, rfl, by rw [hres.out]; exact hown.lower hbl.size, ext_trans hbl hb⟩)
    · have h0i : ¬ (n8 : Int) = 0 := by omega
      have h0j : ((n8 : Int) == 0) = false := by simp; omega
      go_upto_region 13 with (go_at_call 56; (with_reducible refine hval.mono ?_); rintro e w1 ⟨rfl, hb1⟩; have hC1 := hC.later hb1; have k0 := cell_later hb1 g0; have k1 := cell_later hb1 g1; have k2 := cell_later hb1 g2; have k3 := cell_later hb1 g3; have z3 := hC1.c3; have z4 := hC1.c4; have z8 := hC1.c8; dsimp only at z3 z4 z8; have hbw := ext_trans hb0 hb1; have a41 := a4W.later hb1; have a81 := a8W.later hb1; have hcl1 := World.block_lt_of_cell? _ _ z3; have hgl1 := World.block_lt_of_cell? _ _ k0)
      all_goals try (exfalso; omega)
      have hne : ¬ ss = [] := fun h => by have := h8.out; rw [h] at this; simp at this; omega
      have hbb := hbig.out ss (by unfold begins; rw [if_neg hne])
      have hbig2 := hide hbb.1
      have hsmall := hide hbb.2
      have hbs := a81.lo
      have hps := a41.lo
      have hbl := hbw
      have hbm := m8
      obtain ⟨bs, hbs0⟩ : ∃ bs, ss = bs := ⟨_, rfl⟩
      rw [hbs0] at hbs hbig2 hsmall h8
      have hnb := h8
      have hcll := hcl1
      obtain ⟨nb, hnbb⟩ : ∃ nb, nb = n8 := ⟨_, rfl⟩
      subst hnbb
      obtain ⟨wl, hren⟩ : ∃ wl, wl = w1 := ⟨_, rfl⟩
      subst hren
      clear hbb hbig hne hbs0 k0 k1 k2 k3 a41 a81 hC1 hbw hcl1 hgl1 h0 hval
      (
            go_wp2_with fail
            go_loopw [8, 9] (fun v i wr => ∃ k : Nat, k ≤ n4 ∧ i = .int .i64 k ∧ Own kTime 49 [] 0 wl.heap.size wr v ((ps.take k).flatMap (patT nl bs)) ∧ ((ps.take k).flatMap (patT nl bs)).length ≤ 4096 ∧ Below wl.heap.size wl wr) (fun _ i _ => n4 - (intOf i).toNat)
            case atStart => exact ⟨0, Nat.zero_le _, rfl, Own.nil, by simp, Below.refl _ _⟩
            case round =>
              obtain ⟨k, hk, rfl, hown, hlen, hb⟩ := hrel
              have z3k := cell_later hb z3
              have z4k := cell_later hb z4
              have hclr : cb < wr.heap.size := World.block_lt_of_cell? _ _ z3k
              by_cases hlt : k < n4
              · obtain ⟨p, hp⟩ : ∃ p, ps[k]? = some p := ⟨_, List.getElem?_eq_getElem (by rw [hn4.out]; exact hlt)⟩
                obtain ⟨pb, po, rfl, hpw, hpb, x0⟩ := (hps.later hb).int hp
                have hk0 : (0 : Int) ≤ (k : Int) := by omega
                have hkn : (k : Int) < (n4 : Int) := by omega
                have hft := hide (flatK_at nl bs ps hp)
                have hwhole := flat_whole nl bs ps (k := k) (by rw [hn4.out]; exact hlt)
                have hsmallk : k = 0 ∨ nb ≤ ((ps.take k).flatMap (patT nl bs)).length := by
                  rcases Nat.eq_zero_or_pos k with h | h
                  · exact Or.inl h
                  · exact Or.inr (by rw [← hnb.out]; exact flat_le nl bs ps (by rw [hn4.out]; exact hk) h)
                have hz0 : k = 0 → ((ps.take k).flatMap (patT nl bs)).length = 0 := fun h => by rw [h]; simp
                rw [hnb.out] at hwhole
                obtain ⟨P, hP⟩ : ∃ P, (ps.take k).flatMap (patT nl bs) = P := ⟨_, rfl⟩
                rw [hP] at hown hlen hft hwhole hsmallk hz0
                obtain ⟨A9, c9, rfl⟩ := hown.form
                have hsum : P.length + nb ≤ 9223372036854775807 := by
                  rcases hsmallk with h | h
                  · have := hz0 h; omega
                  · omega
                obtain ⟨LP, hLP⟩ : ∃ LP, P.length = LP := ⟨_, rfl⟩
                rw [hLP] at hown hlen hwhole hsum ⊢
                have hsw : IntKind.i64.wrap ((LP : Int) + (nb : Int)) = (LP : Int) + (nb : Int) := IntWalk.i64_in _ (by omega)
                replace hLP := hide hLP
                have hpk := hide hp
                clear hP hp hsmallk hz0
                by_cases hbig : 4096 < LP + nb
                · have hbi : (4096 : Int) < (LP : Int) + (nb : Int) := by omega
                  have hres := hide (hbig2.out (by omega))
                  clear hown
                  go_wp2_with fail
                  go_ret
                  exact ⟨_, rfl, by rw [hres.out]; exact Own.nil, ext_trans hbl hb⟩
                · have hbi : ¬ (4096 : Int) < (LP : Int) + (nb : Int) := by omega
                  go_wp2_with fail
                  obtain ⟨wo, hwo⟩ : ∃ wo, wo = wr := ⟨_, rfl⟩
                  subst hwo
                  go_loopw [8, 10] (fun v i wr => ∃ j : Nat, j ≤ nb ∧ i = .int .i64 j ∧ Own kTime 49 [] 0 wl.heap.size wr v (P ++ patT nl (bs.take j) p) ∧ Below wl.heap.size wl wr) (fun _ i _ => nb - (intOf i).toNat)
                  case atStart => exact ⟨0, Nat.zero_le _, rfl, by show Own kTime 49 [] 0 wl.heap.size wo _ (P ++ []); rw [List.append_nil]; exact hown, hb⟩
                  case round =>
                    clear hown hb x0 z3k z4k hclr
                    obtain ⟨j, hj, rfl, hown, hb⟩ := hrel
                    by_cases hlt2 : j < nb
                    · obtain ⟨s, hs⟩ : ∃ s, bs[j]? = some s := ⟨_, List.getElem?_eq_getElem (by rw [hnb.out]; exact hlt2)⟩
                      obtain ⟨sb, so, rfl, hsw2, hsb, y0, y1⟩ := (hbs.later hb).start hs
                      obtain ⟨pb', po', e1, -, -, x0⟩ := (hps.later hb).int hpk.out
                      injection e1 with e1
                      injection e1 with e2 e3 _
                      subst e2 e3
                      have hj0 : (0 : Int) ≤ (j : Int) := by omega
                      have hjn : (j : Int) < (nb : Int) := by omega
                      have hpt := patT_snoc nl bs p hs
                      have hPl : (P ++ patT nl (bs.take j) p).length = LP + j := by
                        rw [List.length_append, hLP.out]
                        unfold patT
                        rw [List.length_map, List.length_take, hnb.out, Nat.min_eq_left hj]
                      obtain ⟨Q, hQ⟩ : ∃ Q, P ++ patT nl (bs.take j) p = Q := ⟨_, rfl⟩
                      have hQs : Hid (P ++ patT nl (bs.take (j + 1)) p = Q ++ [(p, s.1, s.2, nl)]) := hide (by rw [hpt, ← List.append_assoc, hQ])
                      rw [hQ] at hown hPl
                      obtain ⟨s1, s2⟩ := s
                      dsimp only at y0 y1 hQs
                      have z3j := cell_later hb z3
                      have z4j := cell_later hb z4
                      obtain ⟨A6, c6, rfl⟩ := hown.form
                      obtain ⟨L, hL⟩ : ∃ L, Q.length = L := ⟨_, rfl⟩
                      have hQl : Q.length ≤ 4000000000 := by omega
                      rw [hL] at hPl hown ⊢
                      replace hPl := hide hPl
                      have hlo : ∀ y, (Value.slice A6 L c6).ownBlock = some y → wl.heap.size ≤ y := fun y hy => (hown.lt y hy).1
                      have hclr : cb < wl.heap.size := hcll
                      have nc : Hid (some cb ≠ (Value.slice A6 L c6).ownBlock) := hide fun e => by have := hlo cb e.symm; omega
                      have np : Hid (some pb ≠ (Value.slice A6 L c6).ownBlock) := hide fun e => by have := hlo pb e.symm; have : pb < wl.heap.size := hpw; omega
                      have ns : Hid (some sb ≠ (Value.slice A6 L c6).ownBlock) := hide fun e => by have := hlo sb e.symm; have : sb < wl.heap.size := hsw2; omega
                      have hC : Cn5 cb 3 (.int .i64 nl) cb 4 (.slice (some ⟨pb, po, none⟩) n4 c4) pb (po + k) (.int .i64 p) sb (so + j * 2) (.int .i64 s1) sb (so + j * 2 + 1) (.int .i64 s2) wr := ⟨z3j, z4j, x0, y0, y1⟩
                      have hcr : cb < wr.heap.size := World.block_lt_of_cell? _ _ z3j
                      clear hs hQ hpt z3j z4j x0 y0 y1 hL
                      go_upto_region 22 with fail
                      obtain ⟨r0, r1, r2, r3, r4⟩ := id hC
                      have hCd := hC.drew
                      go_region_held3 (fun W' => W'.cell? ⟨cb, 3, none⟩ = some (.int .i64 nl) ∧ W'.cell? ⟨cb, 4, none⟩ = some (.slice (some ⟨pb, po, none⟩) n4 c4) ∧ W'.cell? ⟨pb, po + k, none⟩ = some (.int .i64 p) ∧ W'.cell? ⟨sb, so + j * 2, none⟩ = some (.int .i64 s1) ∧ W'.cell? ⟨sb, so + j * 2 + 1, none⟩ = some (.int .i64 s2)) (first | ((repeat (first | (with_reducible assumption) | (with_reducible refine Cn5.alloc ?_ _) | (with_reducible refine Cn5.drew ?_) | (with_reducible refine Cn5.set ?_ ?_ ?_ ?_ ?_ ?_ _) | omega)); done)) (first | (refine step_own (S := Cn5 cb 3 (.int .i64 nl) cb 4 (.slice (some ⟨pb, po, none⟩) n4 c4) pb (po + k) (.int .i64 p) sb (so + j * 2) (.int .i64 s1) sb (so + j * 2 + 1) (.int .i64 s2)) (K := kTime) (t := 49) (ts := []) (B0 := 0) (B := wl.heap.size) (v := .slice A6 L c6) (l := Q) rfl (.tmp 71) (.tmp 90) rfl apd_times (by decide) (by rfl) (by repeat (first | (with_reducible assumption) | (with_reducible refine Own.alloc ?_ _) | (with_reducible refine Own.drew ?_))) hQl (by decide) _ _ (by rfl) (p, s1, s2, nl) [.int .i64 p, .int .i64 s1, .int .i64 s2, .int .i64 nl] (rep_of_time p s1 s2 nl) (World.news_of_block (cs := #[.int .i64 p, .int .i64 s1, .int .i64 s2, .int .i64 nl]) (t := 49) (fr := (0, 0)) (by first | exact heap_alloc_new _ _ | exact heap_new2 _ _ _)) (by decide) (Nat.zero_le _) (Below.size (w := wl) (by repeat (first | (with_reducible assumption) | (with_reducible refine ext_alloc ?_ _) | (with_reducible refine ext_drew ?_)))) (fun W' hg => Cn5.grown (by repeat (first | (with_reducible assumption) | (with_reducible refine Cn5.alloc ?_ _) | (with_reducible refine Cn5.drew ?_))) hg nc.out nc.out np.out ns.out ns.out) ?_; intro gA capA w5 hown5 hgrow hs5))
                      all_goals
                        have hb5 : Below wl.heap.size wl w5 := below_grown (by repeat (first | (with_reducible assumption) | (with_reducible refine ext_alloc ?_ _) | (with_reducible refine ext_drew ?_))) hgrow hlo
                        clear hC hCd hs5 hgrow hown
                        go_wp2
                        go_roundw
                        case rel => exact ⟨j + 1, by omega, by go_num, by rw [hQs.out]; exact hown5, hb5⟩
                        case measure => simp [intOf]; omega
                    · obtain rfl : j = nb := by omega
                      have hall : bs.take j = bs := by rw [← hnb.out]; exact List.take_length
                      rw [hall] at hown
                      rw [← hft.out] at hown
                      have hji : ¬ (j : Int) < (j : Int) := by omega
                      have hlen2 : ((ps.take (k + 1)).flatMap (patT nl bs)).length ≤ 4096 := by
                        rw [hft.out, List.length_append, hLP.out]
                        unfold patT
                        rw [List.length_map, hnb.out]
                        omega
                      clear hall hft
                      go_wp2_with fail
                      go_roundw
                      case rel => exact ⟨k + 1, by omega, by go_num, hown, hlen2, hb⟩
                      case measure => simp [intOf]; omega
              · obtain rfl : k = n4 := by omega
                have hall : ps.take k = ps := by rw [← hn4.out]; exact List.take_length
                rw [hall] at hown hlen
                have hki : ¬ (k : Int) < (k : Int) := by omega
                have hres := hide (hsmall.out (by omega))
                go_wp2_with fail
                go_ret
                exact ⟨_, rfl, by rw [hres.out]; exact hown.lower hbl.size, ext_trans hbl hb⟩)
end Go.Proofs.YtimcdikeajbabaaGreatDoor

namespace Go.Proofs.YtimcdikeajbabaaGreatDoor
open Go.RowKit
set_option maxRecDepth 100000

section
variable {α : Type} (less : α → α → Bool) (dflt : α)
/-- Where x goes among the first k. -/
def posG (x : α) (out : List α) : Nat → Nat
  | 0 => 0
  | k + 1 => if less x (out.getD k dflt) = true then posG x out k else k + 1
def insG (out : List α) (x : α) : List α := out.take (posG less dflt x out out.length) ++ x :: out.drop (posG less dflt x out out.length)
def ascG (zs : List α) : List α := zs.foldl (insG less dflt) []
end
section
variable {α : Type} {less : α → α → Bool} {dflt : α}
theorem posG_le (x : α) (out : List α) : ∀ k, posG less dflt x out k ≤ k
  | 0 => Nat.le_refl _
  | k + 1 => by rw [posG]; split; exact Nat.le_trans (posG_le x out k) (Nat.le_succ k); exact Nat.le_refl _
theorem posG_above (x : α) (out : List α) : ∀ k j, posG less dflt x out k ≤ j → j < k → less x (out.getD j dflt) = true
  | 0, j, _, h => by omega
  | k + 1, j, h1, h2 => by
    rw [posG] at h1
    by_cases hl : less x (out.getD k dflt) = true
    · rw [if_pos hl] at h1
      by_cases e : j = k
      · rw [e]; exact hl
      · exact posG_above x out k j h1 (by omega)
    · rw [if_neg hl] at h1; omega
theorem posG_below (x : α) (out : List α) : ∀ k, 0 < posG less dflt x out k → less x (out.getD (posG less dflt x out k - 1) dflt) = false
  | 0, h => by simp [posG] at h
  | k + 1, h => by
    rw [posG] at h ⊢
    by_cases hl : less x (out.getD k dflt) = true
    · rw [if_pos hl] at h ⊢; exact posG_below x out k h
    · rw [if_neg hl] at h ⊢; simpa using hl
theorem insG_len (out : List α) (x : α) : (insG less dflt out x).length = out.length + 1 := by
  unfold insG
  have := posG_le (less := less) (dflt := dflt) x out out.length
  simp only [List.length_append, List.length_take, List.length_cons, List.length_drop]
  omega
theorem ascG_len (zs : List α) : (ascG less dflt zs).length = zs.length := by
  unfold ascG
  have key : ∀ (zs out : List α), (zs.foldl (insG less dflt) out).length = out.length + zs.length := by
    intro zs
    induction zs with
    | nil => intro out; rfl
    | cons z zs ih => intro out; rw [List.foldl_cons, ih, insG_len, List.length_cons]; omega
  simpa using key zs []
theorem insG_perm (out : List α) (x : α) : (insG less dflt out x).Perm (x :: out) := by
  unfold insG
  refine List.perm_middle.trans ?_
  rw [List.take_append_drop]
theorem getD_atG {out : List α} {j : Nat} (h : j < out.length) : out.getD j dflt = out[j] := by rw [List.getD_eq_getElem?_getD, List.getElem?_eq_getElem h]; rfl
/-- x does not come behind y. -/
def LeG (less : α → α → Bool) (x y : α) : Prop := less y x = false
theorem insG_sorted (htr : ∀ x y z, less y x = false → less z y = false → less z x = false) (hof : ∀ x y, less x y = true → less y x = false) {out : List α} {x : α} (h : out.Pairwise (LeG less)) : (insG less dflt out x).Pairwise (LeG less) := by
  obtain ⟨k, hk⟩ : ∃ k, posG less dflt x out out.length = k := ⟨_, rfl⟩
  have hkl : k ≤ out.length := by rw [← hk]; exact posG_le _ _ _
  unfold insG
  rw [hk, List.pairwise_append, List.pairwise_cons]
  have hlow : ∀ y ∈ out.take k, LeG less y x := by
    intro y hy
    obtain ⟨j, hj⟩ := List.getElem?_of_mem hy
    rw [List.getElem?_take] at hj
    split at hj
    · rename_i hjk
      obtain ⟨hjl, e⟩ := List.getElem?_eq_some_iff.1 hj
      have hb := posG_below (less := less) (dflt := dflt) x out out.length (by rw [hk]; omega)
      rw [hk, getD_atG (by omega)] at hb
      by_cases e2 : j = k - 1
      · subst e2; rw [← e]; exact hb
      · refine htr y _ x (?_ : LeG less y _) hb
        rw [← e]
        exact List.pairwise_iff_getElem.1 h j (k - 1) hjl (by omega) (by omega)
    · cases hj
  refine ⟨h.sublist (List.take_sublist _ _), ⟨fun y hy => ?_, h.sublist (List.drop_sublist _ _)⟩, fun a ha b hb => ?_⟩
  · obtain ⟨j, hj⟩ := List.getElem?_of_mem hy
    rw [List.getElem?_drop] at hj
    obtain ⟨hjl, e⟩ := List.getElem?_eq_some_iff.1 hj
    have ha := posG_above (less := less) (dflt := dflt) x out out.length (k + j) (by rw [hk]; omega) hjl
    rw [getD_atG hjl, e] at ha
    exact hof _ _ ha
  · rcases List.mem_cons.1 hb with rfl | hb
    · exact hlow a ha
    · rw [← List.take_append_drop k out, List.pairwise_append] at h
      exact h.2.2 a ha b hb
theorem ascG_perm (zs : List α) : (ascG less dflt zs).Perm zs := by
  have key : ∀ (zs out : List α), (zs.foldl (insG less dflt) out).Perm (zs ++ out) := by
    intro zs
    induction zs with
    | nil => intro out; exact List.Perm.refl _
    | cons z zs ih =>
      intro out
      rw [List.foldl_cons]
      refine (ih _).trans ?_
      exact ((insG_perm out z).append_left zs).trans List.perm_middle
  have := key zs []
  rwa [List.append_nil] at this
theorem ascG_sorted (htr : ∀ x y z, less y x = false → less z y = false → less z x = false) (hof : ∀ x y, less x y = true → less y x = false) (zs : List α) : (ascG less dflt zs).Pairwise (LeG less) := by
  have key : ∀ (zs out : List α), out.Pairwise (LeG less) → (zs.foldl (insG less dflt) out).Pairwise (LeG less) := by
    intro zs
    induction zs with
    | nil => intro out h; exact h
    | cons z zs ih => intro out h; rw [List.foldl_cons]; exact ih _ (insG_sorted htr hof h)
  exact key zs [] .nil
/-- Two lists of the same data in order are one, where nothing but itself is level with a datum. -/
theorem sorted_eqG (ha : ∀ x y, less y x = false → less x y = false → x = y) {l m : List α} (hp : l.Perm m) (hl : l.Pairwise (LeG less)) (hm : m.Pairwise (LeG less)) : l = m :=
  List.Perm.eq_of_pairwise (le := LeG less) (fun a b _ _ h1 h2 => ha a b h1 h2) hl hm hp
end
/-! Lists without doubles. -/
section
variable {α : Type} [DecidableEq α] (dflt : α)
/-- The first k differ. -/
def freshTo (l : List α) : Nat → Bool
  | 0 => true
  | k + 1 => freshTo l k && !decide (l.getD k dflt ∈ l.take k)
variable {dflt}
theorem freshTo_iff (l : List α) : ∀ k, k ≤ l.length → (freshTo dflt l k = true ↔ (l.take k).Nodup)
  | 0, _ => by simp [freshTo]
  | k + 1, h => by
    have e : l.take (k + 1) = l.take k ++ [l.getD k dflt] := by
      rw [List.take_add_one, List.getElem?_eq_getElem (by omega), getD_atG (by omega)]; rfl
    rw [freshTo, e, Bool.and_eq_true, freshTo_iff l k (by omega), List.nodup_append]
    simp only [Bool.not_eq_true', decide_eq_false_iff_not, List.nodup_cons, List.not_mem_nil, not_false_eq_true, List.nodup_nil, and_self, List.mem_singleton, true_and]
    constructor
    · rintro ⟨h1, h2⟩
      exact ⟨h1, fun a ha b hb e => h2 (by rw [← hb, ← e]; exact ha)⟩
    · rintro ⟨h1, h2⟩
      exact ⟨h1, fun hm => h2 _ hm _ rfl rfl⟩
theorem freshTo_all (l : List α) : freshTo dflt l l.length = true ↔ l.Nodup := by
  rw [freshTo_iff l l.length (Nat.le_refl _), List.take_length]
/-- Neighbours differ. -/
def nextDiff : List α → Bool
  | [] => true
  | [_] => true
  | a :: b :: r => !decide (a = b) && nextDiff (b :: r)
/-- Where the data stand in order, neighbours differ exactly if all do. -/
theorem nextDiff_iff {R : α → α → Prop} (ha : ∀ x y, R x y → R y x → x = y) : ∀ (l : List α), l.Pairwise R → (nextDiff l = true ↔ l.Nodup)
  | [], _ => by simp [nextDiff]
  | [a], _ => by simp [nextDiff]
  | a :: b :: r, h => by
    have ih := nextDiff_iff ha (b :: r) (List.pairwise_cons.1 h).2
    rw [nextDiff, Bool.and_eq_true, ih, show (a :: b :: r).Nodup ↔ a ∉ b :: r ∧ (b :: r).Nodup from List.nodup_cons]
    simp only [Bool.not_eq_true', decide_eq_false_iff_not]
    constructor
    · rintro ⟨h1, h2⟩
      refine ⟨fun hm => ?_, h2⟩
      rcases List.mem_cons.1 hm with e | hm
      · exact h1 e
      · have hab := (List.pairwise_cons.1 h).1 b (by simp)
        have hba := (List.pairwise_cons.1 (List.pairwise_cons.1 h).2).1 a hm
        exact h1 (ha a b hab hba)
    · rintro ⟨h1, h2⟩
      exact ⟨fun e => h1 (by rw [e]; simp), h2⟩
end
end Go.Proofs.YtimcdikeajbabaaGreatDoor

namespace Go.Proofs.YtimcdikeajbabaaGreatDoor
open Go.RowKit
set_option maxRecDepth 100000

/-! Sets of weeks between strokes. -/
def slashOf (s : ByteArray) : List ByteArray := Lib.splitB ⟨#[47]⟩ 0 (Lib.countB s ⟨#[47]⟩) s
def patV (n : Int) (z : ByteArray) : Int := ((parseV z n).1 : Int)
def patE (n : Int) (z : ByteArray) : Int := ((parseV z n).2 : Int)
/-- The error of sets of weeks. -/
def patsRE (n : Int) (zs : List ByteArray) : Int :=
  if firstE (patE n) zs ≠ 0 then firstE (patE n) zs else if 8 < zs.length then 2 else if freshTo (0 : Int) (zs.map (patV n)) zs.length = false then 11 else 0
/-! Starts. -/
def spOf (z : ByteArray) : ByteArray := ⟨(Lib.cut z.data.toList [32]).1.toArray⟩
def spBehind (z : ByteArray) : ByteArray := ⟨(Lib.cut z.data.toList [32]).2.1.toArray⟩
def spTwo (z : ByteArray) : Bool := (Lib.cut z.data.toList [32]).2.2
/-- A start and its error. -/
def startV (d sl len : Int) (z : ByteArray) : (Int × Int) × Int :=
  if spTwo z = false ∨ dayI (spOf z) < 0 ∨ numS 2 (spBehind z) = none then ((0, 0), 4) else
  if possB d sl len (dayI (spOf z), (((numS 2 (spBehind z)).getD 0 : Nat) : Int) - 1) = true then ((dayI (spOf z), (((numS 2 (spBehind z)).getD 0 : Nat) : Int) - 1), 0) else ((0, 0), 14)
def startP (d sl len : Int) (z : ByteArray) : Int × Int := (startV d sl len z).1
def startE (d sl len : Int) (z : ByteArray) : Int := (startV d sl len z).2
/-- The error of starts. -/
def startsRE (d sl len : Int) (zs : List ByteArray) : Int :=
  if firstE (startE d sl len) zs ≠ 0 then firstE (startE d sl len) zs else if 24 < zs.length then 2 else if freshTo (0, 0) (zs.map (startP d sl len)) zs.length = false then 11 else 0
abbrev ascP (l : List (Int × Int)) : List (Int × Int) := ascG lessB (0, 0) l
theorem lessB_iff (a b : Int × Int) : lessB a b = true ↔ a.1 < b.1 ∨ (a.1 = b.1 ∧ a.2 < b.2) := by unfold lessB; simp
theorem lessB_no (a b : Int × Int) : lessB a b = false ↔ b.1 < a.1 ∨ (a.1 = b.1 ∧ b.2 ≤ a.2) := by unfold lessB; simp; omega
theorem lessB_trans (x y z : Int × Int) (h1 : lessB y x = false) (h2 : lessB z y = false) : lessB z x = false := by
  rw [lessB_no] at *; omega
theorem lessB_of (x y : Int × Int) (h : lessB x y = true) : lessB y x = false := by
  rw [lessB_iff] at h; rw [lessB_no]; omega
theorem lessB_anti (x y : Int × Int) (h1 : lessB y x = false) (h2 : lessB x y = false) : x = y := by
  rw [lessB_no] at h1 h2
  exact Prod.ext (by omega) (by omega)
theorem ascP_sorted (l : List (Int × Int)) : (ascP l).Pairwise (LeG lessB) := ascG_sorted lessB_trans lessB_of l
theorem ascP_eq {l m : List (Int × Int)} (hp : m.Perm l) (hm : m.Pairwise (LeG lessB)) : m = ascP l :=
  sorted_eqG lessB_anti (hp.trans (ascG_perm l).symm) hm (ascP_sorted l)
theorem ascP_next (l : List (Int × Int)) : nextDiff (ascP l) = freshTo (0, 0) l l.length := by
  rw [Bool.eq_iff_iff, nextDiff_iff (R := LeG lessB) (fun x y h1 h2 => lessB_anti x y h1 h2) _ (ascP_sorted l), freshTo_all]
  exact (ascG_perm l).nodup_iff
end Go.Proofs.YtimcdikeajbabaaGreatDoor
