/- Walk of timetableref12.Valid. Conditions: the requests' cells; the lists are no longer than lists can be. Walk of timetableref12.Write. Conditions: the requests' cells; what the program's variables hold. -/
import Derived.Test.YtpojkgfckepoeaaGreatDoorShelfS
import Derived.Test.YtpojkgfckepoeaaGreatDoorRows
import Derived.WalkKit
import Derived.WalkSpells
import Derived.WalkLawsBesides
import Derived.BigGuardPart
import Derived.Lib.Hide
import Derived.Laws.BitsAllLaws
import Derived.Laws.BitsLemmas
import Derived.Lib.LaidTab
import Derived.Test.YtpojkgfckepoeaaGreatDoorShelf
import Derived.Lib.ConvBytes
import Derived.Deep.QuietTactic
import Derived.BigQuiet
import Derived.Laws.ResultCell
import Derived.RegionTactic
import Derived.BigRegion
import Derived.Deep.RegionHeld3
import Derived.Deep.DeepCutAuto
import Derived.Lib.SmallJoins
import Derived.Lib.SplitLaws
import Derived.Lib.CountLaws
import Derived.Lib.IndexMore
import Derived.Lib.Split
import Derived.Lib.Join
import Derived.Lib.ItoaNum
import Derived.Laws.AppendOwn
import Derived.Test.YtpojkgfckepoeaaGreatDoorShelfT
import Derived.Lib.ItoaLen
import Derived.Lib.AppendIntMem
import Derived.Deep.AppendLies
import Derived.Lib.PathFns
import Derived.Maps.Range
import Derived.Lib.OwnBridge
import Derived.Sort.OwnSorted
import Derived.Sort.Walk0
import Derived.Test.YtpojkgfckepoeaaGreatDoorCards
import Derived.Test.YtpojkgfckepoeaaGreatDoorTie
import Derived.ProofKit
import Derived.OpenShut
import Derived.LaidMore
import Derived.Lay
import Derived.SevenTiedAt
import Derived.Stop.Joined
import Derived.Stop.LaidErr
import Derived.Deep.DeepHandedRow
import Derived.Lib.LaidU8
import Derived.LaidSub
import Derived.Deep.Slices
import Derived.Deep.Fields
import Derived.ChangeSame
import Derived.Maps.OwnSet
import Derived.Deep.RegionLaw
import Derived.Deep.RegionLawGrows
import Derived.StringKeys
import Derived.Sort.LotA
import Derived.Test.YtpojkgfckepoeaaGreatDoorXLater
import Derived.Test.YtpojkgfckepoeaaGreatDoorXQStudR
import Derived.Test.YtpojkgfckepoeaaGreatDoorXQWrite
import Derived.Test.YtpojkgfckepoeaaGreatDoorXJoinR
namespace Go.Proofs.YtpojkgfckepoeaaGreatDoor
open Go.RowKit
set_option maxRecDepth 100000

set_option maxHeartbeats 16000000 in
theorem r12val_walk (A : Option Addr) (l : List Req) (c : Nat) (w : World) (hc : l.length ≤ 9223372036854775807) (hm : ReqShort l) (h : At kReq AnyB w A l) :
    Calls Tryz.prog 13 #[.slice A l.length c] w fun e w' => e = .returned (.int .i64 (validQ l : Nat)) ∧ Below w.heap.size w w' := by
  obtain ⟨N, hN⟩ : ∃ N, l.length = N := ⟨_, rfl⟩
  obtain ⟨V, hV⟩ : ∃ V, validQ l = V := ⟨_, rfl⟩
  have hsl : Hid ((studs l).length = N) := hide (by rw [← hN]; exact List.length_map _)
  rw [hV]
  unfold validQ at hV
  rw [hN] at hc hV ⊢
  by_cases h4 : 400 < N
  · rw [if_pos h4] at hV
    subst hV
    have h4i : (400 : Int) < (N : Int) := by omega
    clear h hm hN hsl h4
    go_enter Tryz.func13, Tryz.ntmps13
    go_wp2_with fail
    go_ret
    exact ⟨rfl, Below.refl _ _⟩
  · rw [if_neg h4] at hV
    have h4i : ¬ (400 : Int) < (N : Int) := by omega
    have hN4 : N ≤ 400 := by omega
    replace hV := hide hV
    replace hN := hide hN
    replace hm := hide hm
    clear h4
    go_enter Tryz.func13, Tryz.ntmps13
    go_wp2_with fail
    go_loopw [3, 4] (fun u v wr => ∃ i : Nat, i ≤ N ∧ v = .int .i64 i ∧ Hid (reqErr l i = 0) ∧ Own kStr 9 [] 0 w.heap.size wr u (freshS ((studs l).take i)) ∧ Below w.heap.size w wr) (fun _ v _ => N - (intOf v).toNat)
    case atStart => exact ⟨0, Nat.zero_le _, rfl, hide rfl, Own.nil, Below.refl _ _⟩
    case round =>
      obtain ⟨i, hi, rfl, ho, hown, hb⟩ := hrel
      by_cases hlt : i < N
      · obtain ⟨x0, hx0⟩ : ∃ x, l[i]? = some x := ⟨_, List.getElem?_eq_getElem (by rw [hN.out]; exact hlt)⟩
        have hat := h.later hb
        obtain ⟨kb, off, F, c3, rfl, -, hkb, ⟨q0, q1, q2, q3⟩, l3, a3⟩ := hat.req hx0
        obtain ⟨m1, m3⟩ := hm.out x0 (List.mem_of_getElem? hx0)
        have hsn := studs_take hx0
        have hidx := idxQ_lt hx0
        have hdup : ∀ e, e ≠ 0 → reqE x0 (l.take i) = e → Hid (V = e) := fun e he h2 => hide (by rw [← hV.out]; exact req_end hx0 ho.out h2 he hlt)
        have hnxt : reqE x0 (l.take i) = 0 → Hid (reqErr l (i + 1) = 0) := fun h2 => hide (req_on hx0 ho.out h2)
        have hfin : ∀ e, e ≠ 0 → reqEx x0 = e → Hid (V = e) := fun e he h2 => hdup e he (by unfold reqE; rw [h2, if_pos he])
        have hlast : reqEx x0 = 0 → reqE x0 (l.take i) = if hasQ (l.take i) x0.1 x0.2.1 = true then 11 else if 64 < (freshS ((studs l).take i ++ [x0.1])).length then 2 else 0 := fun h2 => by
          unfold reqE
          rw [h2, if_neg (by simp), studs_snoc]
          unfold studs
          rw [List.map_take]
        obtain ⟨z, co, m, ts⟩ := x0
        dsimp only at q0 q1 q2 q3 l3 a3 m1 m3 hsn hidx hlast
        obtain ⟨M, hM⟩ : ∃ M, ts.length = M := ⟨_, rfl⟩
        have hreqx : reqEx (z, co, m, ts) = if codeB z = false then 10 else if codeB co = false then 10 else if m < 1 then 3 else if 9 < m then 3 else if 8 < M then 2 else insE co ts M := by unfold reqEx; dsimp only; rw [hM]
        rw [hM] at q3 l3 m3
        have hi0 : (0 : Int) ≤ (i : Int) := by omega
        have hi1 : (i : Int) < (N : Int) := by omega
        have hbn : Below wr.heap.size wr (wr.alloc (.cells #[.string z, .string co, .int .i64 m, .slice F M c3] 61)) := ext_alloc (Below.refl _ _) _
        have y0 : (wr.alloc (.cells #[.string z, .string co, .int .i64 m, .slice F M c3] 61)).cell? ⟨wr.heap.size, 0, none⟩ = some (.string z) := by simp
        have y1 : (wr.alloc (.cells #[.string z, .string co, .int .i64 m, .slice F M c3] 61)).cell? ⟨wr.heap.size, 1, none⟩ = some (.string co) := by simp
        have y2 : (wr.alloc (.cells #[.string z, .string co, .int .i64 m, .slice F M c3] 61)).cell? ⟨wr.heap.size, 2, none⟩ = some (.int .i64 m) := by simp
        have y3 : (wr.alloc (.cells #[.string z, .string co, .int .i64 m, .slice F M c3] 61)).cell? ⟨wr.heap.size, 3, none⟩ = some (.slice F M c3) := by simp
        have hF5 := a3.later hbn
        have hat5 := hat.later hbn
        have hown5 := hown.later hbn
        have hb5 := ext_trans hb hbn
        have hcz := hide (fun (U : World) => r3valid_walk z U)
        have hcc := hide (fun (U : World) => r3valid_walk co U)
        replace hM := hide hM
        clear hx0 hat a3 hown hbn
        go_upto_region 8 with fail
        clear q0 q1 q2 q3
        obtain ⟨x, hxx⟩ : ∃ x, wr.heap.size = x := ⟨_, rfl⟩
        obtain ⟨W5, hW5⟩ : ∃ W5, wr.alloc (.cells #[.string z, .string co, .int .i64 m, .slice F M c3] 61) = W5 := ⟨_, rfl⟩
        rw [hxx] at y0 y1 y2 y3 hkb ⊢
        rw [hW5] at y0 y1 y2 y3 hF5 hat5 hown5 hb5 ⊢
        clear hxx hW5
        have hxl := World.block_lt_of_cell? _ _ y0
        cases hv : codeB z with
        | false =>
          have hend := hfin 10 (by decide) (by rw [hreqx, hv]; rfl)
          rw [hv] at hcz
          clear hfin hdup hnxt hlast hreqx hv hF5 hat5 hown5 h
          go_wp2_with (go_at_call 42; refine (hcz.out _).mono ?_; rintro e w4 ⟨rfl, rfl⟩)
          go_ret
          exact ⟨by rw [hend.out]; rfl, hb5⟩
        | true =>
          rw [hv, if_neg (by simp)] at hreqx
          rw [hv] at hcz
          cases hv2 : codeB co with
          | false =>
            have hend := hfin 10 (by decide) (by rw [hreqx, hv2]; rfl)
            rw [hv2] at hcc
            clear hfin hdup hnxt hlast hreqx hv hv2 hF5 hat5 hown5 h
            go_wp2_with (first | (go_at_call 42; with_reducible refine (hcz.out _).mono ?_; rintro e w4 ⟨rfl, rfl⟩) | (go_at_call 42; with_reducible refine (hcc.out _).mono ?_; rintro e w4 ⟨rfl, rfl⟩))
            go_ret
            exact ⟨by rw [hend.out]; rfl, hb5⟩
          | true =>
            rw [hv2, if_neg (by simp)] at hreqx
            rw [hv2] at hcc
            clear hv hv2
            go_upto_region 10 with (first | (go_at_call 42; with_reducible refine (hcz.out _).mono ?_; rintro e w4 ⟨rfl, rfl⟩) | (go_at_call 42; with_reducible refine (hcc.out _).mono ?_; rintro e w4 ⟨rfl, rfl⟩))
            clear hcz hcc
            by_cases h1 : m < 1
            · have hend := hfin 3 (by decide) (by rw [hreqx, if_pos h1])
              clear hfin hdup hnxt hlast hreqx hF5 hat5 hown5 h
              go_wp2_with fail
              go_ret
              exact ⟨by rw [hend.out]; rfl, hb5⟩
            · rw [if_neg h1] at hreqx
              by_cases h9 : 9 < m
              · have hend := hfin 3 (by decide) (by rw [hreqx, if_pos h9])
                clear hfin hdup hnxt hlast hreqx hF5 hat5 hown5 h
                go_wp2_with fail
                go_ret
                exact ⟨by rw [hend.out]; rfl, hb5⟩
              · rw [if_neg h9] at hreqx
                go_upto_region 12 with fail
                clear h1 h9 y2
                by_cases h8 : 8 < M
                · have h8i : (8 : Int) < (M : Int) := by omega
                  have hend := hfin 2 (by decide) (by rw [hreqx, if_pos h8])
                  clear hfin hdup hnxt hlast hreqx hF5 hat5 hown5 h h8
                  go_wp2_with fail
                  go_ret
                  exact ⟨by rw [hend.out]; rfl, hb5⟩
                · have h8i : ¬ (8 : Int) < (M : Int) := by omega
                  rw [if_neg h8] at hreqx
                  have hlist : ∀ e, e ≠ 0 → insE co ts M = e → Hid (V = e) := fun e he h2 => hfin e he (hreqx.trans h2)
                  have hlast2 : insE co ts M = 0 → _ := fun h2 => hlast (hreqx.trans h2)
                  replace hlist := hide hlist
                  replace hlast2 := hide hlast2
                  replace hdup := hide hdup
                  replace hnxt := hide hnxt
                  clear hfin hlast hreqx h8
                  go_wp2_with fail
                  go_loopw [6] (fun v wj => ∃ j : Nat, j ≤ M ∧ v = .int .i64 j ∧ Hid (insE co ts j = 0) ∧ Below W5.heap.size W5 wj) (fun v _ => M - (intOf v).toNat)
                  case atStart => exact ⟨0, Nat.zero_le _, rfl, hide rfl, Below.refl _ _⟩
                  case round =>
                    rename World => wj
                    clear hb
                    obtain ⟨j, hj, rfl, hoj, hbj⟩ := hrel
                    have g0j := cell_later hbj y0
                    have g1j := cell_later hbj y1
                    have g3j := cell_later hbj y3
                    clear y0 y1 y3
                    by_cases hjl : j < M
                    · obtain ⟨y, hy⟩ : ∃ y, ts[j]? = some y := ⟨_, List.getElem?_eq_getElem (by rw [hM.out]; exact hjl)⟩
                      have hFj := hF5.later hbj
                      obtain ⟨fb, fo, rfl, -, hfb, ky⟩ := hFj.str hy
                      have hj0 : (0 : Int) ≤ (j : Int) := by omega
                      have hj1 : (j : Int) < (M : Int) := by omega
                      have hjc : (j : Int) ≤ (c3 : Int) := by omega
                      have hcy := hide (fun (U : World) => r3valid_walk y U)
                      have hEj := insE_next hy hoj.out
                      have heq := toList_eqD y co
                      obtain ⟨d, hd⟩ : ∃ d, decide (0 ≤ idxS y (ts.take j)) = d := ⟨_, rfl⟩
                      have hcon := hide (fun (n : Later wj) => calls_same (v := .bool d) (n := n) (by
                        have := r2has_walk (some ⟨fb, fo, none⟩) (ts.take j) c3 y n.val (by rw [List.length_take]; omega) ((hFj.take).later n.keeps).any
                        rw [List.length_take, hM.out, Nat.min_eq_left hj, hd] at this
                        exact this))
                      have hk1 : ∀ n : Later wj, n.val.cell? ⟨x, 3, none⟩ = some (.slice (some ⟨fb, fo, none⟩) M c3) := fun n => cell_later n.keeps g3j
                      have hk3 : ∀ n : Later wj, n.val.cell? ⟨x, 1, none⟩ = some (.string co) := fun n => cell_later n.keeps g1j
                      have hk2 : ∀ n : Later wj, n.val.cell? ⟨fb, fo + j, none⟩ = some (.string y) := fun n => cell_later n.keeps ky
                      have hany := later_any wj
                      have hhit : ∀ e, e ≠ 0 → insE co ts (j + 1) = e → Hid (V = e) := fun e he h2 => hlist.out e he (by rw [insE_hit (by rw [h2]; exact he) M hjl, h2])
                      cases hvy : codeB y with
                      | false =>
                        have hend := hhit 10 (by decide) (by rw [hEj, hvy]; rfl)
                        rw [hvy] at hcy
                        clear hhit hEj hvy hcon hy hF5 hFj hat5 hown5 hlist hlast2 hdup hnxt hk1 hk2 hk3 hany heq
                        go_wp2_with (go_at_call 42; refine (hcy.out _).mono ?_; rintro e w4 ⟨rfl, rfl⟩)
                        go_ret
                        exact ⟨by rw [hend.out]; rfl, ext_trans hb5 hbj⟩
                      | true =>
                        rw [hvy] at hcy hEj
                        rw [if_neg (by simp)] at hEj
                        go_upto_region 19 with (go_at_call 42; refine (hcy.out _).mono ?_; rintro e w4 ⟨rfl, rfl⟩)
                        clear hcy hvy
                        by_cases hyc : y = co
                        · have hend := hhit 11 (by decide) (by rw [hEj, if_pos (Or.inl hyc)])
                          rw [decide_eq_true hyc] at heq
                          clear hhit hEj hcon hy hF5 hFj hat5 hown5 hlist hlast2 hdup hnxt hyc hd
                          refine wp_region_later (by kernel_rfl) (by kernel_rfl) ?_
                          repeat (go_big_quiet_step (fail))
                          refine wpQuiet_nil ?_
                          clear hk1 hk2 hk3 hany
                          rintro _ ⟨n8, rfl⟩
                          have hb8 := n8.keeps
                          generalize n8.val = w8 at *
                          go_wp2_with fail
                          go_ret
                          exact ⟨by rw [hend.out]; rfl, ext_trans hb5 (ext_trans hbj hb8)⟩
                        · rw [decide_eq_false hyc] at heq
                          cases d with
                          | true =>
                            have hend := hhit 11 (by decide) (by rw [hEj, if_pos (Or.inr (of_decide_eq_true hd))])
                            clear hhit hEj hy hF5 hFj hat5 hown5 hlist hlast2 hdup hnxt hyc hd
                            refine wp_region_later (by kernel_rfl) (by kernel_rfl) ?_
                            repeat (go_big_quiet_step ((go_at_call 43; with_reducible exact hcon.out _)))
                            refine wpQuiet_nil ?_
                            clear hcon hk1 hk2 hk3 hany
                            rintro _ ⟨n8, rfl⟩
                            have hb8 := n8.keeps
                            generalize n8.val = w8 at *
                            go_wp2_with fail
                            go_ret
                            exact ⟨by rw [hend.out]; rfl, ext_trans hb5 (ext_trans hbj hb8)⟩
                          | false =>
                            have hnx : Hid (insE co ts (j + 1) = 0) := hide (by rw [hEj, if_neg (fun h => h.elim hyc (of_decide_eq_false hd))])
                            clear hhit hEj hy hF5 hFj hat5 hown5 hlist hlast2 hdup hnxt hyc hd
                            refine wp_region_later (by kernel_rfl) (by kernel_rfl) ?_
                            repeat (go_big_quiet_step ((go_at_call 43; with_reducible exact hcon.out _)))
                            refine wpQuiet_nil ?_
                            clear hcon hk1 hk2 hk3 hany
                            rintro _ ⟨n8, rfl⟩
                            have hb8 := n8.keeps
                            generalize n8.val = w8 at *
                            go_wp2_with fail
                            go_roundw
                            case rel => exact ⟨j + 1, by omega, by go_num, hnx, ext_trans hbj hb8⟩
                            case measure => simp [intOf]; omega
                    · obtain rfl : j = M := by omega
                      have hE := hlast2.out hoj.out
                      have hatj := hat5.later hbj
                      have hownj := hown5.later hbj
                      have hbjw := ext_trans hb5 hbj
                      obtain ⟨A6, c6, rfl, -, hat6⟩ := hownj.any
                      have hfind := r12find_walk (some ⟨kb, off, none⟩) l c z co wj (by rw [hN.out]; omega) hatj
                      have hhas := r2has_walk A6 (freshS ((studs l).take i)) c6 z wj (by have := hownj.le; omega) hat6.any
                      obtain ⟨ix, hix⟩ : ∃ ix, idxQ z co l = ix := ⟨_, rfl⟩
                      rw [hix] at hidx hfind
                      rw [hN.out] at hfind
                      have hml : ((studs l).take i).length ≤ 4000000000 := by rw [List.length_take, hsl.out]; omega
                      have hfl := fresh_len ((studs l).take i)
                      have hsn' : freshS ((studs l).take (i + 1)) = if 0 ≤ idxS z (freshS ((studs l).take i)) then freshS ((studs l).take i) else freshS ((studs l).take i) ++ [z] := by rw [hsn, freshS_snoc]
                      rw [← hsn] at hE
                      rw [hsn'] at hE
                      obtain ⟨fr, hfr⟩ : ∃ fr, freshS ((studs l).take i) = fr := ⟨_, rfl⟩
                      rw [hfr] at hhas hownj hfl hE hsn' hat6 ⊢
                      have hfl9 : fr.length ≤ 4000000000 := by omega
                      obtain ⟨P, hP⟩ : ∃ P, fr.length = P := ⟨_, rfl⟩
                      have hP9 : P ≤ 4000000000 := by omega
                      rw [hP] at hhas hownj ⊢
                      replace hfr := hide hfr
                      replace hP := hide hP
                      replace hsn' := hide hsn'
                      clear hF5 hat5 hown5 hatj hlist hlast2 hml hfl hsn hb5 hbj hoj hix hat6
                      by_cases hil : ix < (i : Int)
                      · have hend := hdup.out 11 (by decide) (by rw [hE, if_pos (hidx.1 hil)])
                        clear hE hidx hhas hownj hdup hnxt
                        go_wp2_with (go_at_call 44; refine hfind.mono ?_; rintro e w4 ⟨rfl, rfl⟩)
                        go_ret
                        exact ⟨by rw [hend.out]; rfl, hbjw⟩
                      · rw [if_neg (fun hh => hil (hidx.2 hh))] at hE
                        clear hidx
                        by_cases hd : 0 ≤ idxS z fr
                        · rw [if_pos hd] at hE hsn'
                          rw [decide_eq_true hd] at hhas
                          rw [hP.out] at hE
                          clear hd
                          by_cases h64 : 64 < P
                          · have h64i : (64 : Int) < (P : Int) := by omega
                            have hend := hdup.out 2 (by decide) (by rw [hE, if_pos h64])
                            clear hE hownj hdup hnxt h64
                            go_wp2_with (first | (go_at_call 44; refine hfind.mono ?_; rintro e w4 ⟨rfl, rfl⟩) | (go_at_call 43; refine hhas.mono ?_; rintro e w5 ⟨rfl, rfl⟩))
                            go_ret
                            exact ⟨by rw [hend.out]; rfl, hbjw⟩
                          · have h64i : ¬ (64 : Int) < (P : Int) := by omega
                            have hnx := hnxt.out (by rw [hE, if_neg h64])
                            clear hE hdup hnxt h64
                            go_wp2_with (first | (go_at_call 44; refine hfind.mono ?_; rintro e w4 ⟨rfl, rfl⟩) | (go_at_call 43; refine hhas.mono ?_; rintro e w5 ⟨rfl, rfl⟩))
                            go_roundw
                            case rel => exact ⟨i + 1, by omega, by go_num, hnx, by rw [hsn'.out]; exact hownj, hbjw⟩
                            case measure => first | (simp [intOf]; done) | (simp [intOf]; omega)
                        · rw [if_neg hd] at hE hsn'
                          rw [decide_eq_false hd] at hhas
                          rw [List.length_append, List.length_singleton, hP.out] at hE
                          clear hd
                          go_upto_region 24 with (first | (go_at_call 44; refine hfind.mono ?_; rintro e w4 ⟨rfl, rfl⟩) | (go_at_call 43; refine hhas.mono ?_; rintro e w5 ⟨rfl, rfl⟩))
                          have hwz := hbjw.size
                          go_wp2_with (at_builtin; refine wpList_own rfl _ _ rfl apd_strs (by decide) rfl (hownj.alloc _) ?c1 (by decide) ⟨wj.heap.size, 0, none⟩ 1 rfl z [.string z] rfl (World.news_of_block (cs := #[.string z]) (t := 9) (fr := (0, 0)) (heap_alloc_new _ _)) (by decide) (Nat.zero_le _) ?c2 ?_)
                          case c1 => exact hfl9
                          case c2 => rw [World.size_alloc]; omega
                          intro v' w4 hown4 hgrow
                          have hb4 := (hownj.alloc _).below_grown (ext_alloc hbjw _) (Nat.le_refl _) hgrow
                          obtain ⟨A7, c7, rfl⟩ := hown4.form
                          rw [List.length_append, List.length_singleton, hP.out] at hown4 ⊢
                          obtain ⟨P1, hP1⟩ : ∃ P1, P + 1 = P1 := ⟨_, rfl⟩
                          rw [hP1] at hown4 hE ⊢
                          clear hownj hgrow hwz
                          by_cases h64 : 64 < P1
                          · have h64i : (64 : Int) < (P1 : Int) := by omega
                            have hend := hdup.out 2 (by decide) (by rw [hE, if_pos h64])
                            clear hE hown4 hdup hnxt h64 hP1
                            go_wp2_with fail
                            go_ret
                            exact ⟨by rw [hend.out]; rfl, hb4⟩
                          · have h64i : ¬ (64 : Int) < (P1 : Int) := by omega
                            have hnx := hnxt.out (by rw [hE, if_neg h64])
                            clear hE hdup hnxt h64 hP1
                            go_wp2_with fail
                            go_roundw
                            case rel => exact ⟨i + 1, by omega, by go_num, hnx, by rw [hsn'.out]; exact hown4, hb4⟩
                            case measure => first | (simp [intOf]; done) | (simp [intOf]; omega)
      · obtain rfl : i = N := by omega
        have hVV : Hid (V = 0) := hide (by rw [← hV.out]; exact ho.out)
        have hii : ¬ (i : Int) < (i : Int) := by omega
        clear h hown
        go_wp2_with fail
        go_ret
        exact ⟨by rw [hVV.out]; rfl, hb⟩
end Go.Proofs.YtpojkgfckepoeaaGreatDoor

namespace Go.Proofs.YtpojkgfckepoeaaGreatDoor
open Go.RowKit
set_option maxRecDepth 100000

set_option maxHeartbeats 8000000 in
theorem r12write_walk (A : Option Addr) (l : List Req) (cap : Nat) (w : World) (hS : Std w) (hc : l.length ≤ 9223372036854775807) (hm : ReqShort l) (hL : At kReq AnyB w A l) :
    Calls Tryz.prog 9 #[.slice A l.length cap] w fun e w' => QWriteIs l w e w' := by
  have hval := r12val_walk A l cap w hc hm hL
  by_cases hv : validQ l = 0
  · obtain ⟨h16, hpart⟩ := validQ_parts hv
    have hr : Hid (rowsQ l = l.map rowQ) := hide (if_pos hv)
    obtain ⟨N, hN⟩ : ∃ N, l.length = N := ⟨_, rfl⟩
    rw [hv] at hval
    rw [hN] at hval h16 hc ⊢
    replace hN := hide hN
    replace hpart := hide hpart
    replace hv := hide hv
    clear hm
    go_enter Tryz.func9, Tryz.ntmps9
    go_wp2_with fail
    refine hval.mono ?_
    rintro e w1 ⟨rfl, hbw⟩
    have hL1 := (hL.later hbw).lo
    have hS1 := hS.after hbw
    clear hval hL
    go_wp2_with fail
    go_loopw [5, 6] (fun v i wr => ∃ j : Nat, j ≤ N ∧ i = .int .i64 j ∧ Own (kSlice kStr) 40 [9] 0 w1.heap.size wr v ((l.take j).map rowQ) ∧ Below w1.heap.size w1 wr) (fun _ i _ => N - (intOf i).toNat)
    case atStart => exact ⟨0, Nat.zero_le _, rfl, Own.nil, Below.refl _ _⟩
    case round =>
      obtain ⟨j, hj, rfl, hown, hb⟩ := hrel
      by_cases hlt : j < N
      · obtain ⟨x, hx⟩ : ∃ x, l[j]? = some x := ⟨_, List.getElem?_eq_getElem (by rw [hN.out]; exact hlt)⟩
        obtain ⟨-, -, hs1, hs2, hf8, -⟩ := reqEx_parts (reqE_parts (hpart.out j x hx)).1
        obtain ⟨rb, off, A3, c3, rfl, hrb1, hrb, ⟨q0, q1, q2, q3⟩, l3, a3⟩ := (hL1.below hb).req hx
        have hsn : Hid ((l.take (j + 1)).map rowQ = (l.take j).map rowQ ++ [rowQ x]) := by
          refine hide ?_
          rw [List.take_add_one, hx]; simp
        have hl9 : ((l.take j).map rowQ).length ≤ 4000000000 := by rw [List.length_map, List.length_take]; omega
        obtain ⟨lists, hlists⟩ : ∃ lists, (l.take j).map rowQ = lists := ⟨_, rfl⟩
        rw [hlists] at hown hsn hl9
        obtain ⟨z, bl, sn, fs⟩ := x
        dsimp only at q0 q1 q2 q3 l3 a3 hs1 hs2 hf8
        have hz := hb.size
        have hu9 : Hid (∀ y, u5.ownBlock = some y → w1.heap.size ≤ y ∧ y < wr.heap.size) := hide hown.lt
        have hcI := fun (V : World) => decimalN_walk 2 sn.toNat (by omega) (by omega) V
        rw [Int.toNat_of_nonneg (by omega)] at hcI
        have hcC := r3join_walk A3 fs c3 wr a3.any (by omega)
        obtain ⟨dn, hdn⟩ : ∃ dn, decB sn.toNat = dn := ⟨_, rfl⟩
        obtain ⟨⟨jn, tf⟩, hjv⟩ : ∃ r, joinV fs = r := ⟨_, rfl⟩
        have htf : (joinV fs).2 = tf := by rw [hjv]
        have hrow : Hid (rowQ (z, bl, sn, fs) = [z, bl, dn, tf]) := by rw [← hdn, ← htf]; exact hide rfl
        rw [hdn] at hcI
        rw [hjv] at hcC
        obtain ⟨nf, hnf⟩ : ∃ nf, fs.length = nf := ⟨_, rfl⟩
        rw [hnf] at hcC q3
        replace hcI := hide hcI
        replace hcC := hide hcC
        have hj0 : (0 : Int) ≤ (j : Int) := by omega
        have hj1 : (j : Int) < (N : Int) := by omega
        clear hx hlists hdn htf hjv hnf a3 l3
        go_upto_region 9 with (go_at_call 36; (with_reducible refine hcC.out.mono ?_); rintro e Wx ⟨rfl, hxx⟩)
        have hownx := hown.later hxx
        have hC : Cn3 rb (off + j * 4) (.string z) rb (off + j * 4 + 1) (.string bl) rb (off + j * 4 + 2) (.int .i64 sn) Wx := ⟨cell_later hxx q0, cell_later hxx q1, cell_later hxx q2⟩
        have hbx : Below w1.heap.size w1 Wx := ext_trans hb hxx
        have hxl : rb < Wx.heap.size := Nat.lt_of_lt_of_le hrb hxx.size
        have hI := hide (fun (V : World) (hV : Below Wx.heap.size Wx V) => (hcI.out V).mono fun _ _ ⟨he, hb⟩ => (⟨he, ext_trans hV hb, hC.later (ext_trans hV hb), hownx.later (ext_trans hV hb), ext_trans hbx (ext_trans hV hb)⟩ : _ = Ending.returned (.string dn) ∧ Below Wx.heap.size Wx _ ∧ Cn3 rb (off + j * 4) (.string z) rb (off + j * 4 + 1) (.string bl) rb (off + j * 4 + 2) (.int .i64 sn) _ ∧ Own (kSlice kStr) 40 [9] 0 w1.heap.size _ u5 lists ∧ Below w1.heap.size w1 _))
        have nx : Hid (some rb ≠ u5.ownBlock) := hide fun e => by have := (hu9.out rb e.symm).1; omega
        obtain ⟨p0, p1, p2⟩ := id hC
        have hCd := hC.drew
        have hrefl := Below.refl Wx.heap.size Wx
        clear hcI hcC hxx q0 q1 q2 q3 hown
        go_region_held3 (fun W' => W'.cell? ⟨rb, off + j * 4, none⟩ = some (.string z) ∧ W'.cell? ⟨rb, off + j * 4 + 1, none⟩ = some (.string bl) ∧ W'.cell? ⟨rb, off + j * 4 + 2, none⟩ = some (.int .i64 sn)) (first | ((repeat (first | (with_reducible assumption) | (with_reducible refine Cn3.alloc ?_ _) | (with_reducible refine Cn3.drew ?_) | (with_reducible refine Cn3.set ?_ ?_ ?_ ?_ _) | omega)); done)) (first | (go_at_call 37; refine (hI.out _ (by repeat (first | (with_reducible assumption) | (with_reducible refine ext_alloc ?_ _) | (with_reducible refine ext_drew ?_)))).mono ?_; rintro e w2 ⟨rfl, hb2, hx2, ho2, hbw2⟩) | (refine step_own (S := Cn3 rb (off + j * 4) (.string z) rb (off + j * 4 + 1) (.string bl) rb (off + j * 4 + 2) (.int .i64 sn)) (K := kSlice kStr) (t := 40) (ts := [9]) (B0 := 0) (B := w1.heap.size) (v := u5) (l := lists) rfl (.tmp 29) (.tmp 48) rfl apd_lists (by decide) (by rfl) (by repeat (first | (with_reducible assumption) | (with_reducible refine Own.alloc ?_ _) | (with_reducible refine Own.drew ?_))) hl9 (by decide) _ _ (by rfl) [z, bl, dn, tf] [.slice (some ⟨_, 0, none⟩) 4 4] (rep_lit_strs (cs := #[.string z, .string bl, .string dn, .string tf]) (t := 9) [z, bl, dn, tf] (by first | exact heap_alloc_new _ _ | exact block_after (heap_alloc_new _ _) | exact block_after (block_after (heap_alloc_new _ _))) rfl rfl (Below.size (w := w1) (by repeat (first | (with_reducible assumption) | (with_reducible refine ext_alloc ?_ _) | (with_reducible refine ext_drew ?_)))) (by decide)) (World.news_of_block (cs := #[.slice (some ⟨_, 0, none⟩) 4 4]) (t := 40) (fr := (0, 0)) (by first | exact heap_alloc_new _ _ | exact heap_new2 _ _ _)) (by decide) (Nat.zero_le _) (Below.size (w := w1) (by repeat (first | (with_reducible assumption) | (with_reducible refine ext_alloc ?_ _) | (with_reducible refine ext_drew ?_)))) (fun W' hg => Cn3.grown (by repeat (first | (with_reducible assumption) | (with_reducible refine Cn3.alloc ?_ _) | (with_reducible refine Cn3.drew ?_))) hg nx.out nx.out nx.out) ?_; intro gA capA w5 ho5 hg5 hs5))
        all_goals
          have hb5 : Below w1.heap.size w1 w5 := below_grown (by repeat (first | (with_reducible assumption) | (with_reducible refine ext_alloc ?_ _) | (with_reducible refine ext_drew ?_))) hg5 (fun y hy => (hu9.out y hy).1)
          clear hI hC hCd hrefl hg5 hs5
          go_wp2
          go_roundw
          case rel => exact ⟨j + 1, by omega, by go_num, by rw [hsn.out, hrow.out]; exact ho5, hb5⟩
          case measure => simp [intOf]; omega
      · obtain rfl : j = N := by omega
        have hall : Hid (l.take j = l) := hide (by rw [← hN.out]; exact List.take_length)
        rw [hall.out] at hown
        have hfin := hide (hown.lower hbw.size)
        have hbn := ext_trans hbw hb
        clear hall hown
        go_wp2
        go_ret2
        exact ⟨u5, by rw [hv.out]; rfl, by rw [hr.out]; exact hfin.out, hbn⟩
  · have hr : Hid (rowsQ l = []) := hide (if_neg hv)
    obtain ⟨V, hV⟩ : ∃ V, validQ l = V := ⟨_, rfl⟩
    rw [hV] at hval hv
    have hv2 : ((V : Int) != 0) = true := by simp; omega
    have hvi : ¬ (V : Int) = 0 := by omega
    replace hV := hide hV
    obtain ⟨N, hN⟩ : ∃ N, l.length = N := ⟨_, rfl⟩
    rw [hN] at hval ⊢
    clear hv hN hL hc hm
    go_enter Tryz.func9, Tryz.ntmps9
    go_wp2_with fail
    refine hval.mono ?_
    rintro e w1 ⟨rfl, hb1⟩
    clear hval
    go_wp2
    go_ret2
    exact ⟨_, by rw [hV.out]; rfl, by rw [hr.out]; exact Own.nil, hb1⟩
end Go.Proofs.YtpojkgfckepoeaaGreatDoor
