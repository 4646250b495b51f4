/- Walks of requests.request and requests.Valid. Conditions: the requests' cells; the lists are no longer than lists can be. Three objects made; a field's text. No condition. Walk of timetableref12.Same at equal lists. Conditions: the cells. Walk of timetableref12.Students. Conditions: the requests' cells; at most 1000000000 requests. -/
import Derived.Test.YtpojkgfckepoeaaGreatDoorShelfS
import Derived.Test.YtpojkgfckepoeaaGreatDoorRows
import Derived.WalkKit
import Derived.WalkSpells
import Derived.WalkLawsBesides
import Derived.BigGuardPart
import Derived.Lib.Hide
import Derived.Laws.BitsAllLaws
import Derived.Laws.BitsLemmas
import Derived.Lib.LaidTab
import Derived.Test.YtpojkgfckepoeaaGreatDoorShelf
import Derived.Lib.ConvBytes
import Derived.Deep.QuietTactic
import Derived.BigQuiet
import Derived.Laws.ResultCell
import Derived.RegionTactic
import Derived.BigRegion
import Derived.Deep.RegionHeld3
import Derived.Deep.DeepCutAuto
import Derived.Lib.SmallJoins
import Derived.Lib.SplitLaws
import Derived.Lib.CountLaws
import Derived.Lib.IndexMore
import Derived.Lib.Split
import Derived.Lib.Join
import Derived.Lib.ItoaNum
import Derived.Laws.AppendOwn
import Derived.Test.YtpojkgfckepoeaaGreatDoorShelfT
import Derived.Lib.ItoaLen
import Derived.Lib.AppendIntMem
import Derived.Deep.AppendLies
import Derived.Lib.PathFns
import Derived.Maps.Range
import Derived.Lib.OwnBridge
import Derived.Sort.OwnSorted
import Derived.Sort.Walk0
import Derived.Test.YtpojkgfckepoeaaGreatDoorCards
import Derived.Test.YtpojkgfckepoeaaGreatDoorTie
import Derived.ProofKit
import Derived.OpenShut
import Derived.LaidMore
import Derived.Lay
import Derived.SevenTiedAt
import Derived.Stop.Joined
import Derived.Stop.LaidErr
import Derived.Deep.DeepHandedRow
import Derived.Lib.LaidU8
import Derived.LaidSub
import Derived.Deep.Slices
import Derived.Deep.Fields
import Derived.ChangeSame
import Derived.Maps.OwnSet
import Derived.Deep.RegionLaw
import Derived.Deep.RegionLawGrows
import Derived.StringKeys
import Derived.Sort.LotA
import Derived.Test.YtpojkgfckepoeaaGreatDoorXStuds
import Derived.Test.YtpojkgfckepoeaaGreatDoorXLater
import Derived.Test.YtpojkgfckepoeaaGreatDoorXSameL
import Derived.Test.YtpojkgfckepoeaaGreatDoorXJoinR
import Derived.Test.YtpojkgfckepoeaaGreatDoorXMetP
import Derived.Test.YtpojkgfckepoeaaGreatDoorXCmpR
namespace Go.Proofs.YtpojkgfckepoeaaGreatDoor
open Go.RowKit
set_option maxRecDepth 100000

theorem insE_next {co : ByteArray} {l : List ByteArray} {j : Nat} {y : ByteArray} (hy : l[j]? = some y) (h0 : insE co l j = 0) : insE co l (j + 1) = if codeB y = false then 10 else if y = co ∨ 0 ≤ idxS y (l.take j) then 11 else 0 := by
  rw [insE, if_neg (by rw [h0]; simp)]
  have : l.getD j ⟨#[]⟩ = y := by rw [List.getD_eq_getElem?_getD, hy]; rfl
  rw [this]
theorem toList_eqD (a b : ByteArray) : (a.toList == b.toList) = decide (a = b) := by
  by_cases e : a = b
  · subst e; simp
  · rw [decide_eq_false e]
    exact beq_false_of_ne fun h => e (met_inj (by rw [← toList_dataL, ← toList_dataL]; exact h))
set_option maxHeartbeats 8000000 in
theorem request_walk (z co : ByteArray) (m : Int) (F : Option Addr) (l : List ByteArray) (c : Nat) (w : World) (hl : l.length ≤ 9223372036854775807) (hlc : l.length ≤ c) (h : At kStr AnyB w F l) :
    Calls Tryz.prog 40 #[.agg #[.string z, .string co, .int .i64 m, .slice F l.length c]] w fun e w' => e = .returned (.int .i64 (reqEx (z, co, m, l) : Nat)) ∧ Below w.heap.size w w' := by
  obtain ⟨V, hV⟩ : ∃ V, reqEx (z, co, m, l) = V := ⟨_, rfl⟩
  rw [hV]
  unfold reqEx at hV
  dsimp only at hV
  have hbn : Below w.heap.size w (w.alloc (.cells #[.string z, .string co, .int .i64 m, .slice F l.length c] 61)) := ext_alloc (Below.refl _ _) _
  have q0 : (w.alloc (.cells #[.string z, .string co, .int .i64 m, .slice F l.length c] 61)).cell? ⟨w.heap.size, 0, none⟩ = some (.string z) := by simp
  have q1 : (w.alloc (.cells #[.string z, .string co, .int .i64 m, .slice F l.length c] 61)).cell? ⟨w.heap.size, 1, none⟩ = some (.string co) := by simp
  have q2 : (w.alloc (.cells #[.string z, .string co, .int .i64 m, .slice F l.length c] 61)).cell? ⟨w.heap.size, 2, none⟩ = some (.int .i64 m) := by simp
  have q3 : (w.alloc (.cells #[.string z, .string co, .int .i64 m, .slice F l.length c] 61)).cell? ⟨w.heap.size, 3, none⟩ = some (.slice F l.length c) := by simp
  have hF := h.later hbn
  obtain ⟨M, hM⟩ : ∃ M, l.length = M := ⟨_, rfl⟩
  rw [hM] at hl hlc hbn q0 q1 q2 q3 hF hV ⊢
  clear h
  obtain ⟨W, hW⟩ : ∃ W, w.alloc (.cells #[.string z, .string co, .int .i64 m, .slice F M c] 61) = W := ⟨_, rfl⟩
  obtain ⟨x, hx⟩ : ∃ x, w.heap.size = x := ⟨_, rfl⟩
  rw [hW] at hbn q0 q1 q2 q3 hF
  rw [hx] at q0 q1 q2 q3
  have hxl := World.block_lt_of_cell? _ _ q0
  have hcz := hide (fun (U : World) => cvalid_walk z U)
  have hcc := hide (fun (U : World) => cvalid_walk co U)
  replace hM := hide hM
  replace hW := hide hW
  replace hx := hide hx
  go_enter Tryz.func40, Tryz.ntmps40
  go_upto_region 1 with fail
  rw [hW.out, hx.out]
  cases hv : codeB z with
  | false =>
    rw [if_pos hv] at hV
    rw [hv] at hcz
    subst hV
    clear hF hv hcc
    go_wp2_with (go_at_call 71; refine (hcz.out _).mono ?_; rintro e w4 ⟨rfl, rfl⟩)
    go_ret
    exact ⟨rfl, hbn⟩
  | true =>
    rw [if_neg (by rw [hv]; simp)] at hV
    rw [hv] at hcz
    cases hv2 : codeB co with
    | false =>
      rw [if_pos hv2] at hV
      rw [hv2] at hcc
      subst hV
      clear hF hv hv2
      go_wp2_with (first | (go_at_call 71; with_reducible refine (hcz.out _).mono ?_; rintro e w4 ⟨rfl, rfl⟩) | (go_at_call 71; with_reducible refine (hcc.out _).mono ?_; rintro e w4 ⟨rfl, rfl⟩))
      go_ret
      exact ⟨rfl, hbn⟩
    | true =>
      rw [if_neg (by rw [hv2]; simp)] at hV
      rw [hv2] at hcc
      clear hv hv2
      go_upto_region 3 with (first | (go_at_call 71; with_reducible refine (hcz.out _).mono ?_; rintro e w4 ⟨rfl, rfl⟩) | (go_at_call 71; with_reducible refine (hcc.out _).mono ?_; rintro e w4 ⟨rfl, rfl⟩))
      clear hcz hcc q0
      by_cases h1 : m < 1
      · rw [if_pos h1] at hV
        subst hV
        clear hF
        go_wp2_with fail
        go_ret
        exact ⟨rfl, hbn⟩
      · rw [if_neg h1] at hV
        by_cases h9 : 9 < m
        · rw [if_pos h9] at hV
          subst hV
          clear hF
          go_wp2_with fail
          go_ret
          exact ⟨rfl, hbn⟩
        · rw [if_neg h9] at hV
          go_upto_region 5 with fail
          clear q2 h1 h9
          by_cases h8 : 8 < M
          · rw [if_pos h8] at hV
            have h8i : (8 : Int) < (M : Int) := by omega
            subst hV
            clear hF
            go_wp2_with fail
            go_ret
            exact ⟨rfl, hbn⟩
          · rw [if_neg h8] at hV
            have h8i : ¬ (8 : Int) < (M : Int) := by omega
            replace hV := hide hV
            go_wp2_with fail
            go_loop [33] (fun v => ∃ j : Nat, j ≤ M ∧ v = .int .i64 j ∧ Hid (insE co l j = 0)) (fun v => M - (intOf v).toNat)
            case atStart => exact ⟨0, Nat.zero_le _, rfl, hide rfl⟩
            case round =>
              obtain ⟨j, hj, rfl, hoj⟩ := hrel
              by_cases hjl : j < M
              · obtain ⟨y, hy⟩ : ∃ y, l[j]? = some y := ⟨_, List.getElem?_eq_getElem (by rw [hM.out]; exact hjl)⟩
                obtain ⟨fb, fo, rfl, -, hfb, ky⟩ := hF.str hy
                have hj0 : (0 : Int) ≤ (j : Int) := by omega
                have hj1 : (j : Int) < (M : Int) := by omega
                have hjc : (j : Int) ≤ (c : Int) := by omega
                have hcy := hide (fun (U : World) => cvalid_walk y U)
                have hEj := insE_next hy hoj.out
                have hcon := scontains_walk (some ⟨fb, fo, none⟩) (l.take j) c y W (by rw [List.length_take]; omega) hF.take.any
                rw [List.length_take, hM.out, Nat.min_eq_left hj] at hcon
                have hhit : ∀ e, e ≠ 0 → insE co l (j + 1) = e → Hid (V = e) := fun e he h2 => hide (by rw [← hV.out, insE_hit (by rw [h2]; exact he) M hjl, h2])
                have heq := toList_eqD y co
                cases hvy : codeB y with
                | false =>
                  have hend := hhit 10 (by decide) (by rw [hEj, hvy]; rfl)
                  rw [hvy] at hcy
                  clear hhit hEj hvy hcon hy hF heq
                  go_wp2_with (go_at_call 71; refine (hcy.out _).mono ?_; rintro e w4 ⟨rfl, rfl⟩)
                  go_ret
                  exact ⟨by rw [hend.out]; rfl, hbn⟩
                | true =>
                  rw [hvy] at hcy hEj
                  rw [if_neg (by simp)] at hEj
                  by_cases hyc : y = co
                  · have hend := hhit 11 (by decide) (by rw [hEj, if_pos (Or.inl hyc)])
                    rw [decide_eq_true hyc] at heq
                    clear hhit hEj hvy hcon hy hF hyc
                    go_wp2_with (go_at_call 71; refine (hcy.out _).mono ?_; rintro e w4 ⟨rfl, rfl⟩)
                    go_ret
                    exact ⟨by rw [hend.out]; rfl, hbn⟩
                  · rw [decide_eq_false hyc] at heq
                    cases hd : decide (0 ≤ idxS y (l.take j)) with
                    | true =>
                      have hend := hhit 11 (by decide) (by rw [hEj, if_pos (Or.inr (of_decide_eq_true hd))])
                      rw [hd] at hcon
                      clear hhit hEj hvy hy hF hyc hd
                      go_wp2_with (first | (go_at_call 71; refine (hcy.out _).mono ?_; rintro e w4 ⟨rfl, rfl⟩) | (go_at_call 66; refine hcon.mono ?_; rintro e w4 ⟨rfl, rfl⟩))
                      go_ret
                      exact ⟨by rw [hend.out]; rfl, hbn⟩
                    | false =>
                      have hnx : Hid (insE co l (j + 1) = 0) := hide (by rw [hEj, if_neg (fun h => h.elim hyc (of_decide_eq_false hd))])
                      rw [hd] at hcon
                      clear hhit hEj hvy hy hF hyc hd
                      go_wp2_with (first | (go_at_call 71; refine (hcy.out _).mono ?_; rintro e w4 ⟨rfl, rfl⟩) | (go_at_call 66; refine hcon.mono ?_; rintro e w4 ⟨rfl, rfl⟩))
                      go_round
                      case rel => exact ⟨j + 1, by omega, by go_num, hnx⟩
                      case measure => simp [intOf]; omega
              · obtain rfl : j = M := by omega
                have hVV : Hid (V = 0) := hide (by rw [← hV.out]; exact hoj.out)
                clear hF
                go_wp2_with fail
                go_ret
                exact ⟨by rw [hVV.out]; rfl, hbn⟩
/-- The requests' lists and texts are no longer than they can be. -/
def ReqShort (l : List Req) : Prop := ∀ x ∈ l, x.1.size ≤ 9223372036854775807 ∧ x.2.2.2.length ≤ 9223372036854775807
set_option maxHeartbeats 8000000 in
theorem qval_walk (A : Option Addr) (l : List Req) (c : Nat) (w : World) (hlc : l.length ≤ c) (hc : l.length ≤ 9223372036854775807) (hm : ReqShort l) (h : At kReq AnyB w A l) :
    Calls Tryz.prog 12 #[.slice A l.length c] w fun e w' => e = .returned (.int .i64 (validQ l : Nat)) ∧ Below w.heap.size w w' := by
  obtain ⟨N, hN⟩ : ∃ N, l.length = N := ⟨_, rfl⟩
  obtain ⟨V, hV⟩ : ∃ V, validQ l = V := ⟨_, rfl⟩
  have hsl : Hid ((studs l).length = N) := hide (by rw [← hN]; exact List.length_map _)
  rw [hV]
  unfold validQ at hV
  rw [hN] at hlc hc hV ⊢
  by_cases h4 : 400 < N
  · rw [if_pos h4] at hV
    subst hV
    have h4i : (400 : Int) < (N : Int) := by omega
    clear h hm hN hsl h4
    go_enter Tryz.func12, Tryz.ntmps12
    go_wp2_with fail
    go_ret
    exact ⟨rfl, Below.refl _ _⟩
  · rw [if_neg h4] at hV
    have h4i : ¬ (400 : Int) < (N : Int) := by omega
    have hN4 : N ≤ 400 := by omega
    have hb0 : Below w.heap.size w (w.alloc (.map #[] 0)) := ext_alloc (Below.refl _ _) _
    have hm0 := cnt_made w
    have hmm := @run_makeMap Tryz.prog
    have hL := h.lo
    obtain ⟨W, hW⟩ : ∃ W, w.alloc (.map #[] 0) = W := ⟨_, rfl⟩
    obtain ⟨mb, hmb⟩ : ∃ mb, w.heap.size = mb := ⟨_, rfl⟩
    rw [hW, hmb] at hm0
    rw [hW] at hb0
    have hmW := hm0.lt
    have hWz : W.heap.size = mb + 1 := by rw [← hW, World.size_alloc, hmb]
    replace hV := hide hV
    replace hN := hide hN
    replace hm := hide hm
    replace hW := hide hW
    replace hmb := hide hmb
    clear h h4
    go_enter Tryz.func12, Tryz.ntmps12
    go_upto_region 4 with fail
    rw [hW.out, hmb.out]
    clear hmm
    go_wp2_with fail
    go_loopw [13] (fun v wr => ∃ i : Nat, i ≤ N ∧ v = .int .i64 i ∧ Hid (reqErr l i = 0) ∧ CntAt wr mb ((studs l).take i) ∧ Below mb W wr) (fun v _ => N - (intOf v).toNat)
    case atStart => exact ⟨0, Nat.zero_le _, rfl, hide rfl, hm0, Below.refl _ _⟩
    case round =>
      obtain ⟨i, hi, rfl, ho, hcn, hbr⟩ := hrel
      have hbw : Below w.heap.size w wr := hb0.trans (by rw [hmb.out]; exact hbr)
      by_cases hlt : i < N
      · obtain ⟨x0, hx0⟩ : ∃ x, l[i]? = some x := ⟨_, List.getElem?_eq_getElem (by rw [hN.out]; exact hlt)⟩
        have hat := hL.below hbw
        obtain ⟨kb, off, F, c3, rfl, hkb', hkb, ⟨q0, q1, q2, q3⟩, l3, a3⟩ := hat.req hx0
        obtain ⟨m1, m3⟩ := hm.out x0 (List.mem_of_getElem? hx0)
        have hsn := studs_take hx0
        obtain ⟨z, co, m, ts⟩ := x0
        dsimp only at q0 q1 q2 q3 l3 a3 m1 m3 hsn
        obtain ⟨nt, hnt⟩ : ∃ nt, ts.length = nt := ⟨_, rfl⟩
        have hbn : Below wr.heap.size wr (wr.alloc (.cells #[.string z, .string co, .int .i64 m, .slice F ts.length c3] 61)) := ext_alloc (Below.refl _ _) _
        have hreq := request_walk z co m F ts c3 (wr.alloc (.cells #[.string z, .string co, .int .i64 m, .slice F ts.length c3] 61)) m3 l3 (a3.any.later hbn)
        have y0 : (wr.alloc (.cells #[.string z, .string co, .int .i64 m, .slice F ts.length c3] 61)).cell? ⟨wr.heap.size, 0, none⟩ = some (.string z) := by simp
        have y1 : (wr.alloc (.cells #[.string z, .string co, .int .i64 m, .slice F ts.length c3] 61)).cell? ⟨wr.heap.size, 1, none⟩ = some (.string co) := by simp
        have y2 : (wr.alloc (.cells #[.string z, .string co, .int .i64 m, .slice F ts.length c3] 61)).cell? ⟨wr.heap.size, 2, none⟩ = some (.int .i64 m) := by simp
        have y3 : (wr.alloc (.cells #[.string z, .string co, .int .i64 m, .slice F ts.length c3] 61)).cell? ⟨wr.heap.size, 3, none⟩ = some (.slice F ts.length c3) := by simp
        have hcn5 := hcn.later hbn
        rw [hnt] at q3 hbn hreq y0 y1 y2 y3 hcn5
        obtain ⟨ce, hce⟩ : ∃ ce, reqEx (z, co, m, ts) = ce := ⟨_, rfl⟩
        rw [hce] at hreq
        have hi0 : (0 : Int) ≤ (i : Int) := by omega
        have hi1 : (i : Int) < (N : Int) := by omega
        have hbw5 := ext_trans hbw hbn
        have hbr5 : Below mb W (wr.alloc (.cells #[.string z, .string co, .int .i64 m, .slice F nt c3] 61)) := hbr.trans (hbn.mono (Nat.le_trans (Nat.le_of_lt hmW) hbr.size))
        have hxm : mb < wr.heap.size := Nat.lt_of_lt_of_le hmW hbr.size
        clear hat a3 hbn l3 m3 hcn
        go_upto_region 7 with fail
        clear q0 q1 q2 q3
        obtain ⟨x, hxx⟩ : ∃ x, wr.heap.size = x := ⟨_, rfl⟩
        obtain ⟨W5, hW5⟩ : ∃ W5, wr.alloc (.cells #[.string z, .string co, .int .i64 m, .slice F nt c3] 61) = W5 := ⟨_, rfl⟩
        rw [hxx] at y0 y1 y2 y3 hxm hkb ⊢
        rw [hW5] at y0 y1 y2 y3 hreq hcn5 hbw5 hbr5 ⊢
        replace hxx := hide hxx
        replace hW5 := hide hW5
        have hxl := World.block_lt_of_cell? _ _ y0
        by_cases hce0 : ce = 0
        · subst hce0
          go_wp2_with fail
          refine hreq.mono ?_
          clear hreq
          rintro e w6 ⟨rfl, hb6⟩
          replace y0 := cell_later hb6 y0
          replace y1 := cell_later hb6 y1
          replace y2 := cell_later hb6 y2
          replace y3 := cell_later hb6 y3
          have hcn6 := hcn5.later hb6
          have hbw6 := ext_trans hbw5 hb6
          have hbr6 : Below mb W w6 := hbr5.trans (hb6.mono (by omega))
          have hxl6 := World.block_lt_of_cell? _ _ y0
          have hlk := cnt_look hcn6 z m1
          have hml : ((studs l).take i).length ≤ 4000000000000000000 := by rw [List.length_take, hsl.out]; omega
          have hcl := countS_le z ((studs l).take i)
          have hwc : IntKind.i64.wrap (((countS z ((studs l).take i) : Nat) : Int) + 1) = ((countS z ((studs l).take i) : Nat) : Int) + 1 := IntWalk.i64_in _ (by omega)
          have hsn' : Hid ((studs l).take (i + 1) = (studs l).take i ++ [z]) := hide hsn
          obtain ⟨ss, hss⟩ : ∃ ss, (studs l).take i = ss := ⟨_, rfl⟩
          rw [hss] at hcn6 hlk hml hcl hwc hsn'
          have hmx : mb ≠ x := by omega
          clear hcn5 hbw5 hbr5 hb6 hsn hcl
          go_upto_region 11 with (at_mapUpdate; refine wpList_cnt rfl _ _ _ rfl rfl hcn6 hml rfl m1 rfl ?_; intro w10 hm10 hg10)
          have hb10 : Below w.heap.size w w10 := Below.grown hbw6 hg10 hbw6.size (fun y e => by injection e with e; rw [hmb.out]; omega)
          have hbr10 : Below mb W w10 := Below.grown hbr6 hg10 (by omega) (fun y e => by injection e with e; omega)
          replace y0 := hg10.cell y0 (fun e => hmx (by injection e with e; exact e.symm))
          replace y1 := hg10.cell y1 (fun e => hmx (by injection e with e; exact e.symm))
          replace y2 := hg10.cell y2 (fun e => hmx (by injection e with e; exact e.symm))
          replace y3 := hg10.cell y3 (fun e => hmx (by injection e with e; exact e.symm))
          have hlen10 := hg10.size
          have hx10 := World.block_lt_of_cell? _ _ y0
          rw [← hsn'.out] at hm10
          have hE : reqE (z, co, m, ts) (l.take i) = if hasQ (l.take i) z co = true then 11 else if 64 < (freshS ((studs l).take (i + 1))).length then 2 else 0 := by
            unfold reqE
            rw [hce, if_neg (by simp)]
            have : studs (l.take i ++ [(z, co, m, ts)]) = (studs l).take (i + 1) := by rw [studs_snoc, hsn'.out, ← hss]; unfold studs; rw [List.map_take]
            rw [this]
          clear hlk hwc hml hcn6 hbw6 hbr6 hg10 hss hce
          have hat10 := hL.below hb10
          have hic : (i : Int) ≤ (c : Int) := by omega
          have hlt2 : (l.take i).length = i := by rw [List.length_take, hN.out]; omega
          obtain ⟨dd, hd⟩ : ∃ dd, hasQ (l.take i) z co = dd := ⟨_, rfl⟩
          rw [hd] at hE
          have hcall := hide (fun (v : Later w10) => calls_later (v := .bool dd) (n := v) (by
            have := qhas_walk (some ⟨kb, off, none⟩) (l.take i) c z co m F nt c3 v.val (by rw [hlt2]; omega) ((hat10.any.take).later v.keeps)
            rw [hlt2, hd] at this
            exact this))
          have g0 : ∀ v : Later w10, v.val.cell? ⟨x, 0, none⟩ = some (.string z) := fun v => cell_later v.keeps y0
          have g1 : ∀ v : Later w10, v.val.cell? ⟨x, 1, none⟩ = some (.string co) := fun v => cell_later v.keeps y1
          have g2 : ∀ v : Later w10, v.val.cell? ⟨x, 2, none⟩ = some (.int .i64 m) := fun v => cell_later v.keeps y2
          have g3 : ∀ v : Later w10, v.val.cell? ⟨x, 3, none⟩ = some (.slice F nt c3) := fun v => cell_later v.keeps y3
          have hany := later_any w10
          clear hat10 hlt2 hd y0 y1 y2 y3
          go_frame
          refine wp_region_later (by kernel_rfl) (by kernel_rfl) ?_
          repeat (go_big_quiet_step ((go_at_call 41; with_reducible exact hcall.out _)))
          refine wpQuiet_nil ?_
          clear hcall g0 g1 g2 g3 hany
          rintro _ ⟨n8, rfl⟩
          have hb8 := n8.keeps
          generalize n8.val = w8 at *
          have hbw8 := ext_trans hb10 hb8
          have hbr8 : Below mb W w8 := hbr10.trans (hb8.mono (by omega))
          have hm8 := hm10.later hb8
          clear hb10 hbr10 hb8 hm10
          cases dd with
          | true =>
            have hend : Hid (V = 11) := hide (by
              rw [← hV.out]
              exact req_end hx0 ho.out (by rw [hE]; rfl) (by decide) hlt)
            clear hx0 hE ho
            go_wp2_with fail
            go_ret
            exact ⟨by rw [hend.out]; rfl, hbw8⟩
          | false =>
            rw [if_neg (by simp)] at hE
            obtain ⟨q, hq⟩ : ∃ q, (freshS ((studs l).take (i + 1))).length = q := ⟨_, rfl⟩
            rw [hq] at hE
            have hlen : ∀ ty, (Builtin.len_ #[70] ty #[.map (some mb)]).run Tryz.prog w8 = .ok (.int .i64 (q : Nat)) w8 := fun ty => by have := cnt_len hm8 ty; rw [hq] at this; exact this
            clear hq
            by_cases h64 : 64 < q
            · have h64i : (64 : Int) < (q : Int) := by omega
              have hend : Hid (V = 2) := hide (by
                rw [← hV.out]
                exact req_end hx0 ho.out (by rw [hE, if_pos h64]) (by decide) hlt)
              clear hx0 hE ho hm8
              go_wp2_with fail
              go_ret
              exact ⟨by rw [hend.out]; rfl, hbw8⟩
            · have h64i : ¬ (64 : Int) < (q : Int) := by omega
              have hnx : Hid (reqErr l (i + 1) = 0) := hide (req_on hx0 ho.out (by rw [hE, if_neg h64]))
              clear hx0 hE ho
              go_wp2_with fail
              go_roundw
              case rel => exact ⟨i + 1, by omega, by go_num, hnx, hm8, hbr8⟩
              case measure => first | (simp [intOf]; done) | (simp [intOf]; omega)
        · have hend : Hid (V = ce) := hide (by
            rw [← hV.out]
            exact req_end hx0 ho.out (by unfold reqE; rw [hce, if_pos hce0]) hce0 hlt)
          have hci : ¬ (ce : Int) = 0 := by omega
          clear hx0 hce ho hce0 hcn5
          go_wp2_with fail
          refine hreq.mono ?_
          clear hreq
          rintro e w6 ⟨rfl, hb6⟩
          have hbw6 := ext_trans hbw5 hb6
          clear y0 y1 y2 y3 hbw5 hbr5 hb6
          go_wp2_with fail
          go_ret
          exact ⟨by rw [hend.out]; rfl, hbw6⟩
      · obtain rfl : i = N := by omega
        have hVV : Hid (V = 0) := hide (by rw [← hV.out]; exact ho.out)
        have hii : ¬ (i : Int) < (i : Int) := by omega
        clear hL hcn
        go_wp2_with fail
        go_ret
        exact ⟨by rw [hVV.out]; rfl, hbw⟩
end Go.Proofs.YtpojkgfckepoeaaGreatDoor

namespace Go.Proofs.YtpojkgfckepoeaaGreatDoor
open Go.RowKit
set_option maxRecDepth 100000

theorem textC_at {fs : List Fld} {k : Nat} (h : k < fs.length) : (fs[k]'h).1 = textAt fs k := by
  unfold textAt; rw [List.getD_eq_getElem?_getD, List.getElem?_eq_getElem h]; rfl
theorem heap3c (w : World) (o1 o2 o3 : Obj) : (((w.alloc o1).alloc o2).alloc o3).heap[w.heap.size]? = some o1 ∧ (((w.alloc o1).alloc o2).alloc o3).heap[w.heap.size + 1]? = some o2 ∧ (((w.alloc o1).alloc o2).alloc o3).heap[w.heap.size + 2]? = some o3 := by
  have s1 : (w.alloc o1).heap.size = w.heap.size + 1 := World.size_alloc _ _
  have s2 : ((w.alloc o1).alloc o2).heap.size = w.heap.size + 2 := by rw [World.size_alloc, s1]
  refine ⟨?_, ?_, heap_new3 _ _ _ _⟩
  · rw [Below.heap_alloc _ _ _ (by omega), Below.heap_alloc _ _ _ (by omega)]; exact heap_alloc_new _ _
  · rw [Below.heap_alloc _ _ _ (by omega)]; exact heap_new2 _ _ _
end Go.Proofs.YtpojkgfckepoeaaGreatDoor

namespace Go.Proofs.YtpojkgfckepoeaaGreatDoor
open Go.RowKit
set_option maxRecDepth 100000

set_option maxHeartbeats 8000000 in
theorem r12Same_walk (A A' : Option Addr) (l : List Req) (c c' : Nat) (w : World) (hn : l.length ≤ 9223372036854775807) (hm : ∀ x ∈ l, x.2.2.2.length ≤ 9223372036854775807) (h1 : At kReq AnyB w A l) (h2 : At kReq AnyB w A' l) :
    Calls Tryz.prog 15 #[.slice A l.length c, .slice A' l.length c'] w fun e w' => e = .returned (.bool true) ∧ Below w.heap.size w w' := by
  obtain ⟨n, hnn⟩ : ∃ n, l.length = n := ⟨_, rfl⟩
  rw [hnn] at hn ⊢
  replace hnn := hide hnn
  replace hm := hide hm
  go_enter Tryz.func15, Tryz.ntmps15
  go_wp2
  go_loopw [5] (fun i wr => ∃ j : Nat, j ≤ n ∧ i = .int .i64 j ∧ Below w.heap.size w wr) (fun i _ => n - (intOf i).toNat)
  case atStart => exact ⟨0, Nat.zero_le _, rfl, Below.refl _ _⟩
  case round =>
    obtain ⟨j, hj, rfl, hb⟩ := hrel
    by_cases hlt : j < n
    · obtain ⟨⟨z, co, m, xs⟩, hx⟩ : ∃ x, l[j]? = some x := ⟨_, List.getElem?_eq_getElem (by rw [hnn.out]; exact hlt)⟩
      have hxl := hm.out _ (List.mem_of_getElem? hx)
      obtain ⟨b1, o1, F1, c1, rfl, -, hb1, ⟨a0, a1, a2, a3⟩, -, t1⟩ := (h1.later hb).req hx
      obtain ⟨b2, o2, F2, c2, rfl, -, hb2, ⟨e0, e1, e2, e3⟩, -, t2⟩ := (h2.later hb).req hx
      dsimp only at a0 a1 a2 a3 e0 e1 e2 e3 t1 t2 hxl
      have hj0 : (0 : Int) ≤ (j : Int) := by omega
      have hj1 : (j : Int) < (n : Int) := by omega
      obtain ⟨k, hk⟩ : ∃ k, xs.length = k := ⟨_, rfl⟩
      have hcall0 := hide (fun (W : World) (hW : Below wr.heap.size wr W) => r2SameS_walk F1 F2 xs c1 c2 W hxl (t1.later hW) (t2.later hW))
      rw [hk] at a3 e3 hcall0
      clear hk
      have hSL : Cn8 b1 ((o1 + j * 4)) (.string z) b1 ((o1 + j * 4 + 1)) (.string co) b1 ((o1 + j * 4 + 2)) (.int .i64 m) b1 ((o1 + j * 4 + 3)) (.slice F1 k c1) b2 ((o2 + j * 4)) (.string z) b2 ((o2 + j * 4 + 1)) (.string co) b2 ((o2 + j * 4 + 2)) (.int .i64 m) b2 ((o2 + j * 4 + 3)) (.slice F2 k c2) wr := ⟨a0, a1, a2, a3, e0, e1, e2, e3⟩
      have hcall := hide (fun (W : World) (hW : Below wr.heap.size wr W) => (hcall0.out W hW).mono fun e w' ⟨he, hb⟩ => (⟨he, ext_trans hW hb, hSL.later (ext_trans hW hb)⟩ : e = Ending.returned (.bool true) ∧ Below wr.heap.size wr w' ∧ Cn8 b1 ((o1 + j * 4)) (.string z) b1 ((o1 + j * 4 + 1)) (.string co) b1 ((o1 + j * 4 + 2)) (.int .i64 m) b1 ((o1 + j * 4 + 3)) (.slice F1 k c1) b2 ((o2 + j * 4)) (.string z) b2 ((o2 + j * 4 + 1)) (.string co) b2 ((o2 + j * 4 + 2)) (.int .i64 m) b2 ((o2 + j * 4 + 3)) (.slice F2 k c2) w'))
      have hSd := hSL.drew
      have hrefl := Below.refl wr.heap.size wr
      clear h1 h2 hx t1 t2 hcall0 hxl
      go_wp2_with fail
      go_region_held3 (fun W' => W'.cell? ⟨b1, (o1 + j * 4), none⟩ = some (.string z) ∧ W'.cell? ⟨b1, (o1 + j * 4 + 1), none⟩ = some (.string co) ∧ W'.cell? ⟨b1, (o1 + j * 4 + 2), none⟩ = some (.int .i64 m) ∧ W'.cell? ⟨b1, (o1 + j * 4 + 3), none⟩ = some (.slice F1 k c1) ∧ W'.cell? ⟨b2, (o2 + j * 4), none⟩ = some (.string z) ∧ W'.cell? ⟨b2, (o2 + j * 4 + 1), none⟩ = some (.string co) ∧ W'.cell? ⟨b2, (o2 + j * 4 + 2), none⟩ = some (.int .i64 m) ∧ W'.cell? ⟨b2, (o2 + j * 4 + 3), none⟩ = some (.slice F2 k c2)) (first | ((repeat (first | (with_reducible assumption) | (with_reducible refine Cn8.alloc ?_ _) | (with_reducible refine Cn8.drew ?_) | (with_reducible refine Cn8.set ?_ ?_ ?_ ?_ ?_ ?_ ?_ ?_ ?_ _) | omega)); done)) (first | (go_at_call 17; refine (hcall.out _ (by repeat (first | (with_reducible assumption) | (with_reducible refine ext_alloc ?_ _) | (with_reducible refine ext_drew ?_)))).mono ?_; rintro e w2 ⟨rfl, hb2, hc2⟩))
      all_goals
        have hbn := ext_trans hb hb2
        go_wp2
        go_roundw
        case rel => exact ⟨j + 1, by omega, by go_num, by first | exact ext_drew hbn | exact hbn⟩
        case measure => simp [intOf]; omega
    · obtain rfl : j = n := by omega
      go_wp2
      go_ret
      exact ⟨rfl, hb⟩
end Go.Proofs.YtpojkgfckepoeaaGreatDoor

namespace Go.Proofs.YtpojkgfckepoeaaGreatDoor
open Go.RowKit
set_option maxRecDepth 100000

/-- The students of a list of texts, in order. -/
def stR (ss : List ByteArray) : List ByteArray := ascN (freshS ss)
theorem stR_mem (ss : List ByteArray) (z : ByteArray) : 0 ≤ idxS z (stR ss) ↔ 0 ≤ idxS z ss := by
  rw [idx_memS, idx_memS]
  unfold stR ascN
  rw [(ascG_perm (freshS ss)).mem_iff, mem_fresh]
theorem stR_len (ss : List ByteArray) : (stR ss).length = (freshS ss).length := by unfold stR ascN; exact ascG_len _
theorem stR_snoc (ss : List ByteArray) (z : ByteArray) : stR (ss ++ [z]) = if 0 ≤ idxS z (stR ss) then stR ss else insG lessN ⟨#[]⟩ (stR ss) z := by
  have hm : 0 ≤ idxS z (stR ss) ↔ 0 ≤ idxS z (freshS ss) := by rw [stR_mem, idx_memS, idx_memS, mem_fresh]
  unfold stR at hm ⊢
  rw [freshS_snoc]
  by_cases h : 0 ≤ idxS z (freshS ss)
  · rw [if_pos h, if_pos (hm.2 h)]
  · rw [if_neg h, if_neg (fun h' => h (hm.1 h'))]
    exact ascG_snoc _ _
theorem posG_same {x : ByteArray} {out : List ByteArray} {k : Nat} (h : lessN x (out.getD k ⟨#[]⟩) = true) : posG lessN ⟨#[]⟩ x out (k + 1) = posG lessN ⟨#[]⟩ x out k := by rw [posG, if_pos h]
theorem posG_stop {x : ByteArray} {out : List ByteArray} {k : Nat} (h : lessN x (out.getD k ⟨#[]⟩) = false) : posG lessN ⟨#[]⟩ x out (k + 1) = k + 1 := by rw [posG, h]; rfl
set_option maxHeartbeats 8000000 in
theorem r12studs_walk (A : Option Addr) (l : List Req) (c : Nat) (w : World) (hn : l.length ≤ 1000000000) (hz : ∀ x ∈ l, x.1.size ≤ 9223372036854775807) (h : At kReq AnyB w A l) :
    Calls Tryz.prog 19 #[.slice A l.length c] w fun e w' => ∃ v, e = .returned v ∧ Own kStr 9 [] 0 w.heap.size w' v (studsV l) ∧ Below w.heap.size w w' := by
  obtain ⟨N, hN⟩ : ∃ N, l.length = N := ⟨_, rfl⟩
  have hsl : Hid ((studs l).length = N) := hide (by rw [← hN]; exact List.length_map _)
  rw [hN] at hn ⊢
  replace hN := hide hN
  replace hz := hide hz
  go_enter Tryz.func19, Tryz.ntmps19
  go_wp2_with fail
  go_loopw [3, 4] (fun v u wr => ∃ i : Nat, i ≤ N ∧ u = .int .i64 i ∧ Own kStr 9 [] 0 w.heap.size wr v (stR ((studs l).take i)) ∧ Below w.heap.size w wr) (fun _ u _ => N - (intOf u).toNat)
  case atStart => exact ⟨0, Nat.zero_le _, rfl, Own.nil, Below.refl _ _⟩
  case round =>
    obtain ⟨i, hi, rfl, hown, hb⟩ := hrel
    by_cases hlt : i < N
    · obtain ⟨x0, hx0⟩ : ∃ x, l[i]? = some x := ⟨_, List.getElem?_eq_getElem (by rw [hN.out]; exact hlt)⟩
      have hxz := hz.out x0 (List.mem_of_getElem? hx0)
      have hsn := studs_take hx0
      obtain ⟨zb, zo, F, cF, rfl, -, hzl, ⟨z0, -, -, -⟩, -, -⟩ := (h.later hb).req hx0
      obtain ⟨x, co, m, ts⟩ := x0
      dsimp only at z0 hsn hxz
      have hnx : stR ((studs l).take (i + 1)) = if 0 ≤ idxS x (stR ((studs l).take i)) then stR ((studs l).take i) else insG lessN ⟨#[]⟩ (stR ((studs l).take i)) x := by rw [hsn, stR_snoc]
      have hoz : ∀ y ∈ stR ((studs l).take i), y.size ≤ 9223372036854775807 := fun y hy => by
        have hy := (mem_fresh _ _).1 ((ascG_perm (freshS ((studs l).take i))).mem_iff.1 hy)
        obtain ⟨r, hr, rfl⟩ := List.mem_map.1 (List.mem_of_mem_take hy)
        exact hz.out r hr
      have hol2 : (stR ((studs l).take i)).length ≤ 1000000000 := by
        rw [stR_len]
        refine Nat.le_trans (fresh_len _) ?_
        rw [List.length_take, hsl.out]
        omega
      obtain ⟨out, hout⟩ : ∃ out, stR ((studs l).take i) = out := ⟨_, rfl⟩
      rw [hout] at hown hnx hoz hol2
      obtain ⟨A3, c3, rfl, hcap, hat⟩ := hown.any
      obtain ⟨j, hol⟩ : ∃ j, out.length = j := ⟨_, rfl⟩
      have hhas := r2has_walk A3 out c3 x wr (by omega) hat.any
      rw [hol] at hown hcap hhas hol2 ⊢
      have hj0 : (0 : Int) ≤ (i : Int) := by omega
      have hj1 : (i : Int) < (N : Int) := by omega
      replace hol := hide hol
      clear hx0 hsn
      by_cases hm : 0 ≤ idxS x out
      · rw [if_pos hm, ← hout] at hnx
        rw [decide_eq_true hm] at hhas
        replace hnx := hide hnx
        replace hout := hide hout
        clear hm hat hoz hcap
        go_wp2_with (go_at_call 43; refine hhas.mono ?_; rintro e w5 ⟨rfl, rfl⟩)
        go_roundw
        case rel => exact ⟨i + 1, by omega, by go_num, by rw [hnx.out, hout.out]; exact hown, hb⟩
        case measure => first | (simp [intOf]; done) | (simp [intOf]; omega)
      · rw [if_neg hm] at hnx
        rw [decide_eq_false hm] at hhas
        replace hnx := hide hnx
        replace hoz := hide hoz
        clear hm hout
        go_wp2_with (go_at_call 43; refine hhas.mono ?_; rintro e w5 ⟨rfl, rfl⟩)
        clear hhas z0
        rename World => wo
        have hze := hb.size
        go_loopw [6] (fun v wi => ∃ k : Nat, k ≤ j ∧ v = .int .i64 k ∧ Hid (posG lessN ⟨#[]⟩ x out j = posG lessN ⟨#[]⟩ x out k) ∧ Below wo.heap.size wo wi) (fun v _ => (intOf v).toNat)
        case atStart => exact ⟨j, Nat.le_refl _, rfl, hide rfl, Below.refl _ _⟩
        case round =>
          obtain ⟨k, hk, rfl, hps, hbi⟩ := hrel
          by_cases hk0 : 0 < k
          · obtain ⟨k, rfl⟩ : ∃ k', k = k' + 1 := ⟨k - 1, by omega⟩
            obtain ⟨y, hy⟩ : ∃ y, out[k]? = some y := ⟨_, List.getElem?_eq_getElem (by rw [hol.out]; omega)⟩
            obtain ⟨ob, oo, rfl, -, hobl, y0⟩ := (hat.any.later hbi).str hy
            have hyd : out.getD k ⟨#[]⟩ = y := by rw [List.getD_eq_getElem?_getD, hy]; rfl
            have hyz := hoz.out y (List.mem_of_getElem? hy)
            have hcmp := r3compare_walk x y wr hxz hyz
            obtain ⟨cv, hcv⟩ : ∃ cv, compareV x.data.toList y.data.toList = cv := ⟨_, rfl⟩
            have hlv : lessN x y = decide (cv < 0) := by rw [← hcv]; rfl
            rw [hcv] at hcmp
            obtain ⟨k1, hk1e⟩ : ∃ k1, k + 1 = k1 := ⟨_, rfl⟩
            have hk1 : (0 : Int) < (k1 : Int) := by omega
            have hkw : IntKind.i64.wrap ((k1 : Int) - 1) = (k : Int) := by rw [IntKind.wrap_i64]; omega
            have hk2 : (0 : Int) ≤ (k : Int) := by omega
            have hk3 : (k : Int) < (j : Int) := by omega
            by_cases hcv0 : cv < 0
            · have hnp : Hid (posG lessN ⟨#[]⟩ x out j = posG lessN ⟨#[]⟩ x out k) := hide (hps.out.trans (posG_same (by rw [hyd, hlv]; exact decide_eq_true hcv0)))
              rw [hk1e]
              replace hk1e := hide hk1e
              clear hy hyd hlv hps hcv hk0
              go_wp2_with (go_at_call 32; refine hcmp.mono ?_; rintro e w7 ⟨rfl, hb7⟩)
              all_goals try (exfalso; omega)
              go_roundw
              case rel => exact ⟨k, by omega, by go_num, hnp, ext_trans hbi hb7⟩
              case measure => first | (simp [intOf]; done) | (simp [intOf]; have := hk1e.out; omega)
            · have hpp : Hid (posG lessN ⟨#[]⟩ x out j = k1) := hide (by rw [← hk1e]; exact hps.out.trans (posG_stop (by rw [hyd, hlv]; exact decide_eq_false hcv0)))
              rw [hk1e] at hk ⊢
              replace hk1e := hide hk1e
              clear hy hyd hlv hps hcv hk0
              go_upto_region 10 with (go_at_call 32; refine hcmp.mono ?_; rintro e wz ⟨rfl, hb7⟩)
              all_goals try (exfalso; omega)
              have hbz : Below wo.heap.size wo wz := ext_trans hbi hb7
              have hownz := hown.later hbz
              have hbw : Below w.heap.size w wz := ext_trans hb hbz
              have hwj : wo.heap.size ≤ wz.heap.size := hbz.size
              clear y0 hobl hkw hk2 hk3 hk1 hcmp hcv0 hb7 hbi hbz
              obtain ⟨q, hqe⟩ : ∃ q, k1 = q := ⟨_, rfl⟩
              rw [hqe] at hpp hk ⊢
              clear hqe hk1e
              obtain ⟨A3q, hA3q⟩ : ∃ A3q, some (⟨ob, oo, none⟩ : Addr) = A3q := ⟨_, rfl⟩
              rw [hA3q] at hown hownz hat ⊢
              clear hA3q
              (
                have hq0 : (0 : Int) ≤ (q : Int) := by omega
                have hq1 : (q : Int) ≤ (j : Int) := by omega
                have hqc : (q : Int) ≤ (c3 : Int) := by omega
                have hfr := hownz.front hk
                clear hown hat hb
                have hWo : Below wz.heap.size wz ((wz.alloc (.cells #[.string x] 9)).drew) := ext_drew (ext_alloc (Below.refl _ _) _)
                have hone : Own kStr 9 [] 0 wz.heap.size ((wz.alloc (.cells #[.string x] 9)).drew) (.slice (some ⟨wz.heap.size, 0, none⟩) 1 1) [x] :=
                  (Own.lit (K := kStr) (heap_alloc_new wz (.cells #[.string x] 9)) [x] [[.string x]] rfl rfl (by simp) (fun j x vs hj hv => by
                    match j, hj, hv with
                    | 0, hj, hv => simp at hj hv; subst hj hv; rfl
                    | j + 1, hj, _ => simp at hj) (Nat.le_refl _)).drew
                have hfz := hfr.later hWo
                have hfl : ∀ y, (Value.slice A3q q c3).ownBlock = some y → w.heap.size ≤ y ∧ y < wz.heap.size := fun y hy => hfr.lt y hy
                have hsz : wz.heap.size ≤ ((wz.alloc (.cells #[.string x] 9)).drew).heap.size := hWo.size
                by_cases hqj : q = j
                · subst hqj
                  have hql : (out.take q).length = q := by rw [List.length_take, hol.out]; omega
                  have hl1 : (out.take q).length + 1 ≤ 4000000000 := by rw [hql]; omega
                  have hfin : Hid (out.take q ++ [x] = stR ((studs l).take (i + 1))) := hide (by
                    have hd : out.drop q = [] := List.drop_eq_nil_of_le (by rw [hol.out]; exact Nat.le_refl _)
                    rw [hnx.out]
                    unfold insG
                    rw [hol.out, hpp.out, hd])
                  cases A3q with
                  | none =>
                    go_region_law (refine step_own_app (P := Tryz.prog) (t2 := 40) (t := 9) (B := w.heap.size) (As := none) (ns := q) (cs := c3) (l := out.take q) (F := some ⟨wz.heap.size, 0, none⟩) (es := [x]) (k := 1) (c := 1) (bytes := 16) rfl (.tmp 39) (.tmp 45) rfl apd_strs (by simp [Act.eval]; done) hfz rfl (by decide) (by simp [Act.eval]; done) hone.any'.any hl1 (by decide) (Nat.le_trans hbw.size hsz) ?_; intro g5 c5 w5 ho5 hgr5 hgl5)
                    have hbf : Below w.heap.size w w5 := below_grown (ext_trans hbw hWo) hgr5 (fun y hy => (hfl y hy).1)
                    rw [hql, hfin.out] at ho5
                    clear hgr5 hgl5 hfin hfl hfz hone hfr hownz hWo hnx hpp
                    go_wp2_with fail
                    go_roundw
                    case rel => exact ⟨i + 1, by omega, by go_num, ho5, hbf⟩
                    case measure => first | (simp [intOf]; done) | (simp [intOf]; omega)
                  | some ad =>
                    by_cases hcq : c3 = q
                    · subst hcq
                      go_region_law (refine step_own_app (P := Tryz.prog) (t2 := 40) (t := 9) (B := w.heap.size) (As := some ad) (ns := c3) (cs := c3) (l := out.take c3) (F := some ⟨wz.heap.size, 0, none⟩) (es := [x]) (k := 1) (c := 1) (bytes := 16) rfl (.tmp 39) (.tmp 45) rfl apd_strs (by simp [Act.eval]; done) hfz rfl (by decide) (by simp [Act.eval]; done) hone.any'.any hl1 (by decide) (Nat.le_trans hbw.size hsz) ?_; intro g5 c5 w5 ho5 hgr5 hgl5)
                      have hbf : Below w.heap.size w w5 := below_grown (ext_trans hbw hWo) hgr5 (fun y hy => (hfl y hy).1)
                      rw [hql, hfin.out] at ho5
                      clear hgr5 hgl5 hfin hfl hfz hone hfr hownz hWo hnx hpp
                      go_wp2_with fail
                      go_roundw
                      case rel => exact ⟨i + 1, by omega, by go_num, ho5, hbf⟩
                      case measure => first | (simp [intOf]; done) | (simp [intOf]; omega)
                    · go_region_law (refine step_own_app (P := Tryz.prog) (t2 := 40) (t := 9) (B := w.heap.size) (As := some ad) (ns := q) (cs := c3) (l := out.take q) (F := some ⟨wz.heap.size, 0, none⟩) (es := [x]) (k := 1) (c := 1) (bytes := 16) rfl (.tmp 39) (.tmp 45) rfl apd_strs (by simp [Act.eval]; done) hfz rfl (by decide) (by simp [Act.eval]; done) hone.any'.any hl1 (by decide) (Nat.le_trans hbw.size hsz) ?_; intro g5 c5 w5 ho5 hgr5 hgl5)
                      have hbf : Below w.heap.size w w5 := below_grown (ext_trans hbw hWo) hgr5 (fun y hy => (hfl y hy).1)
                      rw [hql, hfin.out] at ho5
                      clear hgr5 hgl5 hfin hfl hfz hone hfr hownz hWo hnx hpp
                      go_wp2_with fail
                      go_roundw
                      case rel => exact ⟨i + 1, by omega, by go_num, ho5, hbf⟩
                      case measure => first | (simp [intOf]; done) | (simp [intOf]; omega)
                · have hcq : ¬ c3 = q := by omega
                  obtain ⟨g3, hg3, hgl⟩ : ∃ g3, A3q = some ⟨g3, 0, none⟩ ∧ g3 < wz.heap.size := by
                    obtain ⟨vss, -, e2, -⟩ := hownz
                    rcases e2.2 with ⟨e, h0⟩ | ⟨g3, cap, cur, e, hB, hg3, -⟩
                    · exfalso; have := hol.out; omega
                    · injection e with e
                      exact ⟨g3, e, blk_lt hg3⟩
                  cases hg3
                  have hdr := (hownz.any'.any.drop_str (k := q)).later hWo
                  rw [Nat.zero_add] at hdr
                  have hdl : (out.drop q).length = j - q := by rw [List.length_drop, hol.out]
                  have hql : (out.take q).length = q := by rw [List.length_take, hol.out]; omega
                  have hpos : 0 < j - q := by omega
                  have hw7 := hbw.size
                  have hfin : Hid (out.take q ++ ([x] ++ out.drop q) = stR ((studs l).take (i + 1))) := hide (by
                    rw [hnx.out]
                    unfold insG
                    rw [hol.out, hpp.out]; rfl)
                  have hl0 : ([x] : List ByteArray).length + (j - q) ≤ 4000000000 := by show 1 + (j - q) ≤ _; omega
                  have hl1 : ∀ a b : ByteArray, ((out.take q).length : Nat) + (1 + (j - q)) ≤ 4000000000 := fun _ _ => by rw [hql]; omega
                  have hle : ([x] ++ out.drop q).length = 1 + (j - q) := by rw [List.length_append]; exact congrArg (1 + ·) hdl
                  go_region_law (first | (refine step_own_app (P := Tryz.prog) (t2 := 40) (t := 9) (B := wz.heap.size) (As := some ⟨wz.heap.size, 0, none⟩) (ns := 1) (cs := 1) (l := [x]) (F := some ⟨g3, q, none⟩) (es := out.drop q) (k := j - q) (c := c3 - q) (bytes := 16) rfl (.tmp 41) (.tmp 44) rfl apd_strs (by simp [Act.eval]; done) hone hdl hpos (by simp [Act.eval]; done) hdr hl0 (by decide) hsz ?_; intro g4 c4 w4 ho4 hgr4 hgl4; have hf4 := hfz.kept hgr4 (Or.inr (fun e => by simp [Value.ownBlock] at e; omega)) (fun y hy => ⟨Nat.zero_le _, fun h => by obtain ⟨-, cs, t', -, ht⟩ := h; simp at ht⟩)) | (refine step_own_app (P := Tryz.prog) (t2 := 40) (t := 9) (B := w.heap.size) (As := some ⟨g3, 0, none⟩) (ns := q) (cs := c3) (l := out.take q) (F := some ⟨g4, 0, none⟩) (es := [x] ++ out.drop q) (k := 1 + (j - q)) (c := c4) (bytes := 16) rfl (.tmp 39) (.tmp 45) rfl apd_strs (by simp [Act.eval]; done) hf4 hle (by omega) (by simp [Act.eval]; done) ho4.any'.any (hl1 x x) (by decide) (Nat.le_trans (Nat.le_trans hw7 hsz) hgr4.size) ?_; intro g5 c5 w5 ho5 hgr5 hgl5))
                  have hbf : Below w.heap.size w w5 := below_grown (below_grown (ext_trans hbw hWo) hgr4 (fun y hy => by simp [Value.ownBlock] at hy; omega)) hgr5 (fun y hy => (hfl y hy).1)
                  rw [hql, hfin.out] at ho5
                  have hqe : q + (1 + (j - q)) = j + 1 := by omega
                  rw [hqe] at ho5 ⊢
                  clear hgr5 hgr4 hgl4 hgl5 ho4 hf4 hfin hfl hfz hone hdr hfr hownz hWo hnx hpp
                  go_wp2_with fail
                  go_roundw
                  case rel => exact ⟨i + 1, by omega, by go_num, ho5, hbf⟩
                  case measure => first | (simp [intOf]; done) | (simp [intOf]; omega))
          · have hpp : Hid (posG lessN ⟨#[]⟩ x out j = k) := hide (by
              have e : k = 0 := by omega
              rw [hps.out, e]; rfl)
            have hk1 : ¬ (0 : Int) < (k : Int) := by omega
            clear hps
            go_upto_region 10 with fail
            obtain ⟨wz, hwz⟩ : ∃ wz, wr = wz := ⟨_, rfl⟩
            subst hwz
            rename World => wz
            have hbz : Below wo.heap.size wo wz := hbi
            have hownz := hown.later hbz
            have hbw : Below w.heap.size w wz := ext_trans hb hbz
            clear hk1 hk0 hbi hbz
            obtain ⟨q, hqe⟩ : ∃ q, k = q := ⟨_, rfl⟩
            rw [hqe] at hpp hk ⊢
            clear hqe
            obtain ⟨A3q, hA3q⟩ : ∃ A3q, A3 = A3q := ⟨_, rfl⟩
            rw [hA3q] at hown hownz hat ⊢
            clear hA3q
            (
              have hq0 : (0 : Int) ≤ (q : Int) := by omega
              have hq1 : (q : Int) ≤ (j : Int) := by omega
              have hqc : (q : Int) ≤ (c3 : Int) := by omega
              have hfr := hownz.front hk
              clear hown hat hb
              have hWo : Below wz.heap.size wz ((wz.alloc (.cells #[.string x] 9)).drew) := ext_drew (ext_alloc (Below.refl _ _) _)
              have hone : Own kStr 9 [] 0 wz.heap.size ((wz.alloc (.cells #[.string x] 9)).drew) (.slice (some ⟨wz.heap.size, 0, none⟩) 1 1) [x] :=
                (Own.lit (K := kStr) (heap_alloc_new wz (.cells #[.string x] 9)) [x] [[.string x]] rfl rfl (by simp) (fun j x vs hj hv => by
                  match j, hj, hv with
                  | 0, hj, hv => simp at hj hv; subst hj hv; rfl
                  | j + 1, hj, _ => simp at hj) (Nat.le_refl _)).drew
              have hfz := hfr.later hWo
              have hfl : ∀ y, (Value.slice A3q q c3).ownBlock = some y → w.heap.size ≤ y ∧ y < wz.heap.size := fun y hy => hfr.lt y hy
              have hsz : wz.heap.size ≤ ((wz.alloc (.cells #[.string x] 9)).drew).heap.size := hWo.size
              by_cases hqj : q = j
              · subst hqj
                have hql : (out.take q).length = q := by rw [List.length_take, hol.out]; omega
                have hl1 : (out.take q).length + 1 ≤ 4000000000 := by rw [hql]; omega
                have hfin : Hid (out.take q ++ [x] = stR ((studs l).take (i + 1))) := hide (by
                  have hd : out.drop q = [] := List.drop_eq_nil_of_le (by rw [hol.out]; exact Nat.le_refl _)
                  rw [hnx.out]
                  unfold insG
                  rw [hol.out, hpp.out, hd])
                cases A3q with
                | none =>
                  go_region_law (refine step_own_app (P := Tryz.prog) (t2 := 40) (t := 9) (B := w.heap.size) (As := none) (ns := q) (cs := c3) (l := out.take q) (F := some ⟨wz.heap.size, 0, none⟩) (es := [x]) (k := 1) (c := 1) (bytes := 16) rfl (.tmp 39) (.tmp 45) rfl apd_strs (by simp [Act.eval]; done) hfz rfl (by decide) (by simp [Act.eval]; done) hone.any'.any hl1 (by decide) (Nat.le_trans hbw.size hsz) ?_; intro g5 c5 w5 ho5 hgr5 hgl5)
                  have hbf : Below w.heap.size w w5 := below_grown (ext_trans hbw hWo) hgr5 (fun y hy => (hfl y hy).1)
                  rw [hql, hfin.out] at ho5
                  clear hgr5 hgl5 hfin hfl hfz hone hfr hownz hWo hnx hpp
                  go_wp2_with fail
                  go_roundw
                  case rel => exact ⟨i + 1, by omega, by go_num, ho5, hbf⟩
                  case measure => first | (simp [intOf]; done) | (simp [intOf]; omega)
                | some ad =>
                  by_cases hcq : c3 = q
                  · subst hcq
                    go_region_law (refine step_own_app (P := Tryz.prog) (t2 := 40) (t := 9) (B := w.heap.size) (As := some ad) (ns := c3) (cs := c3) (l := out.take c3) (F := some ⟨wz.heap.size, 0, none⟩) (es := [x]) (k := 1) (c := 1) (bytes := 16) rfl (.tmp 39) (.tmp 45) rfl apd_strs (by simp [Act.eval]; done) hfz rfl (by decide) (by simp [Act.eval]; done) hone.any'.any hl1 (by decide) (Nat.le_trans hbw.size hsz) ?_; intro g5 c5 w5 ho5 hgr5 hgl5)
                    have hbf : Below w.heap.size w w5 := below_grown (ext_trans hbw hWo) hgr5 (fun y hy => (hfl y hy).1)
                    rw [hql, hfin.out] at ho5
                    clear hgr5 hgl5 hfin hfl hfz hone hfr hownz hWo hnx hpp
                    go_wp2_with fail
                    go_roundw
                    case rel => exact ⟨i + 1, by omega, by go_num, ho5, hbf⟩
                    case measure => first | (simp [intOf]; done) | (simp [intOf]; omega)
                  · go_region_law (refine step_own_app (P := Tryz.prog) (t2 := 40) (t := 9) (B := w.heap.size) (As := some ad) (ns := q) (cs := c3) (l := out.take q) (F := some ⟨wz.heap.size, 0, none⟩) (es := [x]) (k := 1) (c := 1) (bytes := 16) rfl (.tmp 39) (.tmp 45) rfl apd_strs (by simp [Act.eval]; done) hfz rfl (by decide) (by simp [Act.eval]; done) hone.any'.any hl1 (by decide) (Nat.le_trans hbw.size hsz) ?_; intro g5 c5 w5 ho5 hgr5 hgl5)
                    have hbf : Below w.heap.size w w5 := below_grown (ext_trans hbw hWo) hgr5 (fun y hy => (hfl y hy).1)
                    rw [hql, hfin.out] at ho5
                    clear hgr5 hgl5 hfin hfl hfz hone hfr hownz hWo hnx hpp
                    go_wp2_with fail
                    go_roundw
                    case rel => exact ⟨i + 1, by omega, by go_num, ho5, hbf⟩
                    case measure => first | (simp [intOf]; done) | (simp [intOf]; omega)
              · have hcq : ¬ c3 = q := by omega
                obtain ⟨g3, hg3, hgl⟩ : ∃ g3, A3q = some ⟨g3, 0, none⟩ ∧ g3 < wz.heap.size := by
                  obtain ⟨vss, -, e2, -⟩ := hownz
                  rcases e2.2 with ⟨e, h0⟩ | ⟨g3, cap, cur, e, hB, hg3, -⟩
                  · exfalso; have := hol.out; omega
                  · injection e with e
                    exact ⟨g3, e, blk_lt hg3⟩
                cases hg3
                have hdr := (hownz.any'.any.drop_str (k := q)).later hWo
                rw [Nat.zero_add] at hdr
                have hdl : (out.drop q).length = j - q := by rw [List.length_drop, hol.out]
                have hql : (out.take q).length = q := by rw [List.length_take, hol.out]; omega
                have hpos : 0 < j - q := by omega
                have hw7 := hbw.size
                have hfin : Hid (out.take q ++ ([x] ++ out.drop q) = stR ((studs l).take (i + 1))) := hide (by
                  rw [hnx.out]
                  unfold insG
                  rw [hol.out, hpp.out]; rfl)
                have hl0 : ([x] : List ByteArray).length + (j - q) ≤ 4000000000 := by show 1 + (j - q) ≤ _; omega
                have hl1 : ∀ a b : ByteArray, ((out.take q).length : Nat) + (1 + (j - q)) ≤ 4000000000 := fun _ _ => by rw [hql]; omega
                have hle : ([x] ++ out.drop q).length = 1 + (j - q) := by rw [List.length_append]; exact congrArg (1 + ·) hdl
                go_region_law (first | (refine step_own_app (P := Tryz.prog) (t2 := 40) (t := 9) (B := wz.heap.size) (As := some ⟨wz.heap.size, 0, none⟩) (ns := 1) (cs := 1) (l := [x]) (F := some ⟨g3, q, none⟩) (es := out.drop q) (k := j - q) (c := c3 - q) (bytes := 16) rfl (.tmp 41) (.tmp 44) rfl apd_strs (by simp [Act.eval]; done) hone hdl hpos (by simp [Act.eval]; done) hdr hl0 (by decide) hsz ?_; intro g4 c4 w4 ho4 hgr4 hgl4; have hf4 := hfz.kept hgr4 (Or.inr (fun e => by simp [Value.ownBlock] at e; omega)) (fun y hy => ⟨Nat.zero_le _, fun h => by obtain ⟨-, cs, t', -, ht⟩ := h; simp at ht⟩)) | (refine step_own_app (P := Tryz.prog) (t2 := 40) (t := 9) (B := w.heap.size) (As := some ⟨g3, 0, none⟩) (ns := q) (cs := c3) (l := out.take q) (F := some ⟨g4, 0, none⟩) (es := [x] ++ out.drop q) (k := 1 + (j - q)) (c := c4) (bytes := 16) rfl (.tmp 39) (.tmp 45) rfl apd_strs (by simp [Act.eval]; done) hf4 hle (by omega) (by simp [Act.eval]; done) ho4.any'.any (hl1 x x) (by decide) (Nat.le_trans (Nat.le_trans hw7 hsz) hgr4.size) ?_; intro g5 c5 w5 ho5 hgr5 hgl5))
                have hbf : Below w.heap.size w w5 := below_grown (below_grown (ext_trans hbw hWo) hgr4 (fun y hy => by simp [Value.ownBlock] at hy; omega)) hgr5 (fun y hy => (hfl y hy).1)
                rw [hql, hfin.out] at ho5
                have hqe : q + (1 + (j - q)) = j + 1 := by omega
                rw [hqe] at ho5 ⊢
                clear hgr5 hgr4 hgl4 hgl5 ho4 hf4 hfin hfl hfz hone hdr hfr hownz hWo hnx hpp
                go_wp2_with fail
                go_roundw
                case rel => exact ⟨i + 1, by omega, by go_num, ho5, hbf⟩
                case measure => first | (simp [intOf]; done) | (simp [intOf]; omega))
    · obtain rfl : i = N := by omega
      have hall : Hid (stR ((studs l).take i) = studsV l) := hide (by rw [← hsl.out, List.take_length]; rfl)
      rw [hall.out] at hown
      go_wp2_with fail
      go_ret
      exact ⟨_, rfl, hown, hb⟩
end Go.Proofs.YtpojkgfckepoeaaGreatDoor
