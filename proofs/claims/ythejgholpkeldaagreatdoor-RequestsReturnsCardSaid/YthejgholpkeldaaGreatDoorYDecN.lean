/- Walks of requests.request and requests.Valid. Conditions: the requests' cells; the lists are no longer than lists can be. Plain: a number in decimal. No condition. Walks of strconv.Itoa and timetableref05.Decimal at numbers below 10000. Conditions: what the program's variables hold. -/
import Derived.Test.YthejgholpkeldaaGreatDoorShelfS
import Derived.Test.YthejgholpkeldaaGreatDoorRows
import Derived.WalkKit
import Derived.WalkSpells
import Derived.WalkLawsBesides
import Derived.BigGuardPart
import Derived.Lib.Hide
import Derived.Laws.BitsAllLaws
import Derived.Laws.BitsLemmas
import Derived.Lib.LaidTab
import Derived.Test.YthejgholpkeldaaGreatDoorShelf
import Derived.Lib.ConvBytes
import Derived.Deep.QuietTactic
import Derived.BigQuiet
import Derived.Laws.ResultCell
import Derived.RegionTactic
import Derived.BigRegion
import Derived.Deep.RegionHeld3
import Derived.Deep.DeepCutAuto
import Derived.Lib.SmallJoins
import Derived.Lib.SplitLaws
import Derived.Lib.CountLaws
import Derived.Lib.IndexMore
import Derived.Lib.Split
import Derived.Lib.Join
import Derived.Lib.ItoaNum
import Derived.Laws.AppendOwn
import Derived.Test.YthejgholpkeldaaGreatDoorShelfT
import Derived.Lib.ItoaLen
import Derived.Lib.AppendIntMem
import Derived.Deep.AppendLies
import Derived.Lib.PathFns
import Derived.Maps.Range
import Derived.Lib.OwnBridge
import Derived.Sort.OwnSorted
import Derived.Sort.Walk0
import Derived.Test.YthejgholpkeldaaGreatDoorCards
import Derived.Test.YthejgholpkeldaaGreatDoorTie
import Derived.ProofKit
import Derived.OpenShut
import Derived.LaidMore
import Derived.Lay
import Derived.SevenTiedAt
import Derived.Stop.Joined
import Derived.Stop.LaidErr
import Derived.Deep.DeepHandedRow
import Derived.Lib.LaidU8
import Derived.LaidSub
import Derived.Deep.Slices
import Derived.Deep.Fields
import Derived.ChangeSame
import Derived.Maps.OwnSet
import Derived.Deep.RegionLaw
import Derived.Deep.RegionLawGrows
import Derived.StringKeys
import Derived.Sort.LotA
import Derived.Test.YthejgholpkeldaaGreatDoorYPairs
import Derived.Test.YthejgholpkeldaaGreatDoorYStuds
import Derived.Test.YthejgholpkeldaaGreatDoorYSameL
namespace Go.Proofs.YthejgholpkeldaaGreatDoor
open Go.RowKit
set_option maxRecDepth 100000

theorem insE_next {co : ByteArray} {l : List ByteArray} {j : Nat} {y : ByteArray} (hy : l[j]? = some y) (h0 : insE co l j = 0) : insE co l (j + 1) = if codeB y = false then 10 else if y = co ∨ 0 ≤ idxS y (l.take j) then 11 else 0 := by
  rw [insE, if_neg (by rw [h0]; simp)]
  have : l.getD j ⟨#[]⟩ = y := by rw [List.getD_eq_getElem?_getD, hy]; rfl
  rw [this]
theorem toList_eqD (a b : ByteArray) : (a.toList == b.toList) = decide (a = b) := by
  by_cases e : a = b
  · subst e; simp
  · rw [decide_eq_false e]
    exact beq_false_of_ne fun h => e (met_inj (by rw [← toList_dataL, ← toList_dataL]; exact h))
set_option maxHeartbeats 8000000 in
theorem request_walk (z co : ByteArray) (m : Int) (F : Option Addr) (l : List ByteArray) (c : Nat) (w : World) (hl : l.length ≤ 9223372036854775807) (hlc : l.length ≤ c) (h : At kStr AnyB w F l) :
    Calls Tryz.prog 58 #[.agg #[.string z, .string co, .int .i64 m, .slice F l.length c]] w fun e w' => e = .returned (.int .i64 (reqEx (z, co, m, l) : Nat)) ∧ Below w.heap.size w w' := by
  obtain ⟨V, hV⟩ : ∃ V, reqEx (z, co, m, l) = V := ⟨_, rfl⟩
  rw [hV]
  unfold reqEx at hV
  dsimp only at hV
  have hbn : Below w.heap.size w (w.alloc (.cells #[.string z, .string co, .int .i64 m, .slice F l.length c] 53)) := ext_alloc (Below.refl _ _) _
  have q0 : (w.alloc (.cells #[.string z, .string co, .int .i64 m, .slice F l.length c] 53)).cell? ⟨w.heap.size, 0, none⟩ = some (.string z) := by simp
  have q1 : (w.alloc (.cells #[.string z, .string co, .int .i64 m, .slice F l.length c] 53)).cell? ⟨w.heap.size, 1, none⟩ = some (.string co) := by simp
  have q2 : (w.alloc (.cells #[.string z, .string co, .int .i64 m, .slice F l.length c] 53)).cell? ⟨w.heap.size, 2, none⟩ = some (.int .i64 m) := by simp
  have q3 : (w.alloc (.cells #[.string z, .string co, .int .i64 m, .slice F l.length c] 53)).cell? ⟨w.heap.size, 3, none⟩ = some (.slice F l.length c) := by simp
  have hF := h.later hbn
  obtain ⟨M, hM⟩ : ∃ M, l.length = M := ⟨_, rfl⟩
  rw [hM] at hl hlc hbn q0 q1 q2 q3 hF hV ⊢
  clear h
  obtain ⟨W, hW⟩ : ∃ W, w.alloc (.cells #[.string z, .string co, .int .i64 m, .slice F M c] 53) = W := ⟨_, rfl⟩
  obtain ⟨x, hx⟩ : ∃ x, w.heap.size = x := ⟨_, rfl⟩
  rw [hW] at hbn q0 q1 q2 q3 hF
  rw [hx] at q0 q1 q2 q3
  have hxl := World.block_lt_of_cell? _ _ q0
  have hcz := hide (fun (U : World) => cvalid_walk z U)
  have hcc := hide (fun (U : World) => cvalid_walk co U)
  replace hM := hide hM
  replace hW := hide hW
  replace hx := hide hx
  go_enter Tryz.func58, Tryz.ntmps58
  go_upto_region 1 with fail
  rw [hW.out, hx.out]
  cases hv : codeB z with
  | false =>
    rw [if_pos hv] at hV
    rw [hv] at hcz
    subst hV
    clear hF hv hcc
    go_wp2_with (go_at_call 84; refine (hcz.out _).mono ?_; rintro e w4 ⟨rfl, rfl⟩)
    go_ret
    exact ⟨rfl, hbn⟩
  | true =>
    rw [if_neg (by rw [hv]; simp)] at hV
    rw [hv] at hcz
    cases hv2 : codeB co with
    | false =>
      rw [if_pos hv2] at hV
      rw [hv2] at hcc
      subst hV
      clear hF hv hv2
      go_wp2_with (first | (go_at_call 84; with_reducible refine (hcz.out _).mono ?_; rintro e w4 ⟨rfl, rfl⟩) | (go_at_call 84; with_reducible refine (hcc.out _).mono ?_; rintro e w4 ⟨rfl, rfl⟩))
      go_ret
      exact ⟨rfl, hbn⟩
    | true =>
      rw [if_neg (by rw [hv2]; simp)] at hV
      rw [hv2] at hcc
      clear hv hv2
      go_upto_region 3 with (first | (go_at_call 84; with_reducible refine (hcz.out _).mono ?_; rintro e w4 ⟨rfl, rfl⟩) | (go_at_call 84; with_reducible refine (hcc.out _).mono ?_; rintro e w4 ⟨rfl, rfl⟩))
      clear hcz hcc q0
      by_cases h1 : m < 1
      · rw [if_pos h1] at hV
        subst hV
        clear hF
        go_wp2_with fail
        go_ret
        exact ⟨rfl, hbn⟩
      · rw [if_neg h1] at hV
        by_cases h9 : 9 < m
        · rw [if_pos h9] at hV
          subst hV
          clear hF
          go_wp2_with fail
          go_ret
          exact ⟨rfl, hbn⟩
        · rw [if_neg h9] at hV
          go_upto_region 5 with fail
          clear q2 h1 h9
          by_cases h8 : 8 < M
          · rw [if_pos h8] at hV
            have h8i : (8 : Int) < (M : Int) := by omega
            subst hV
            clear hF
            go_wp2_with fail
            go_ret
            exact ⟨rfl, hbn⟩
          · rw [if_neg h8] at hV
            have h8i : ¬ (8 : Int) < (M : Int) := by omega
            replace hV := hide hV
            go_wp2_with fail
            go_loop [33] (fun v => ∃ j : Nat, j ≤ M ∧ v = .int .i64 j ∧ Hid (insE co l j = 0)) (fun v => M - (intOf v).toNat)
            case atStart => exact ⟨0, Nat.zero_le _, rfl, hide rfl⟩
            case round =>
              obtain ⟨j, hj, rfl, hoj⟩ := hrel
              by_cases hjl : j < M
              · obtain ⟨y, hy⟩ : ∃ y, l[j]? = some y := ⟨_, List.getElem?_eq_getElem (by rw [hM.out]; exact hjl)⟩
                obtain ⟨fb, fo, rfl, -, hfb, ky⟩ := hF.str hy
                have hj0 : (0 : Int) ≤ (j : Int) := by omega
                have hj1 : (j : Int) < (M : Int) := by omega
                have hjc : (j : Int) ≤ (c : Int) := by omega
                have hcy := hide (fun (U : World) => cvalid_walk y U)
                have hEj := insE_next hy hoj.out
                have hcon := scontains_walk (some ⟨fb, fo, none⟩) (l.take j) c y W (by rw [List.length_take]; omega) hF.take.any
                rw [List.length_take, hM.out, Nat.min_eq_left hj] at hcon
                have hhit : ∀ e, e ≠ 0 → insE co l (j + 1) = e → Hid (V = e) := fun e he h2 => hide (by rw [← hV.out, insE_hit (by rw [h2]; exact he) M hjl, h2])
                have heq := toList_eqD y co
                cases hvy : codeB y with
                | false =>
                  have hend := hhit 10 (by decide) (by rw [hEj, hvy]; rfl)
                  rw [hvy] at hcy
                  clear hhit hEj hvy hcon hy hF heq
                  go_wp2_with (go_at_call 84; refine (hcy.out _).mono ?_; rintro e w4 ⟨rfl, rfl⟩)
                  go_ret
                  exact ⟨by rw [hend.out]; rfl, hbn⟩
                | true =>
                  rw [hvy] at hcy hEj
                  rw [if_neg (by simp)] at hEj
                  by_cases hyc : y = co
                  · have hend := hhit 11 (by decide) (by rw [hEj, if_pos (Or.inl hyc)])
                    rw [decide_eq_true hyc] at heq
                    clear hhit hEj hvy hcon hy hF hyc
                    go_wp2_with (go_at_call 84; refine (hcy.out _).mono ?_; rintro e w4 ⟨rfl, rfl⟩)
                    go_ret
                    exact ⟨by rw [hend.out]; rfl, hbn⟩
                  · rw [decide_eq_false hyc] at heq
                    cases hd : decide (0 ≤ idxS y (l.take j)) with
                    | true =>
                      have hend := hhit 11 (by decide) (by rw [hEj, if_pos (Or.inr (of_decide_eq_true hd))])
                      rw [hd] at hcon
                      clear hhit hEj hvy hy hF hyc hd
                      go_wp2_with (first | (go_at_call 84; refine (hcy.out _).mono ?_; rintro e w4 ⟨rfl, rfl⟩) | (go_at_call 67; refine hcon.mono ?_; rintro e w4 ⟨rfl, rfl⟩))
                      go_ret
                      exact ⟨by rw [hend.out]; rfl, hbn⟩
                    | false =>
                      have hnx : Hid (insE co l (j + 1) = 0) := hide (by rw [hEj, if_neg (fun h => h.elim hyc (of_decide_eq_false hd))])
                      rw [hd] at hcon
                      clear hhit hEj hvy hy hF hyc hd
                      go_wp2_with (first | (go_at_call 84; refine (hcy.out _).mono ?_; rintro e w4 ⟨rfl, rfl⟩) | (go_at_call 67; refine hcon.mono ?_; rintro e w4 ⟨rfl, rfl⟩))
                      go_round
                      case rel => exact ⟨j + 1, by omega, by go_num, hnx⟩
                      case measure => simp [intOf]; omega
              · obtain rfl : j = M := by omega
                have hVV : Hid (V = 0) := hide (by rw [← hV.out]; exact hoj.out)
                clear hF
                go_wp2_with fail
                go_ret
                exact ⟨by rw [hVV.out]; rfl, hbn⟩
/-- The requests' lists and texts are no longer than they can be. -/
def ReqShort (l : List Req) : Prop := ∀ x ∈ l, x.1.size ≤ 9223372036854775807 ∧ x.2.2.2.length ≤ 9223372036854775807
set_option maxHeartbeats 8000000 in
theorem qval_walk (A : Option Addr) (l : List Req) (c : Nat) (w : World) (hlc : l.length ≤ c) (hc : l.length ≤ 9223372036854775807) (hm : ReqShort l) (h : At kReq AnyB w A l) :
    Calls Tryz.prog 32 #[.slice A l.length c] w fun e w' => e = .returned (.int .i64 (validQ l : Nat)) ∧ Below w.heap.size w w' := by
  obtain ⟨N, hN⟩ : ∃ N, l.length = N := ⟨_, rfl⟩
  obtain ⟨V, hV⟩ : ∃ V, validQ l = V := ⟨_, rfl⟩
  have hsl : Hid ((studs l).length = N) := hide (by rw [← hN]; exact List.length_map _)
  rw [hV]
  unfold validQ at hV
  rw [hN] at hlc hc hV ⊢
  by_cases h4 : 400 < N
  · rw [if_pos h4] at hV
    subst hV
    have h4i : (400 : Int) < (N : Int) := by omega
    clear h hm hN hsl h4
    go_enter Tryz.func32, Tryz.ntmps32
    go_wp2_with fail
    go_ret
    exact ⟨rfl, Below.refl _ _⟩
  · rw [if_neg h4] at hV
    have h4i : ¬ (400 : Int) < (N : Int) := by omega
    have hN4 : N ≤ 400 := by omega
    have hb0 : Below w.heap.size w (w.alloc (.map #[] 0)) := ext_alloc (Below.refl _ _) _
    have hm0 := cnt_made w
    have hmm := @run_makeMap Tryz.prog
    have hL := h.lo
    obtain ⟨W, hW⟩ : ∃ W, w.alloc (.map #[] 0) = W := ⟨_, rfl⟩
    obtain ⟨mb, hmb⟩ : ∃ mb, w.heap.size = mb := ⟨_, rfl⟩
    rw [hW, hmb] at hm0
    rw [hW] at hb0
    have hmW := hm0.lt
    have hWz : W.heap.size = mb + 1 := by rw [← hW, World.size_alloc, hmb]
    replace hV := hide hV
    replace hN := hide hN
    replace hm := hide hm
    replace hW := hide hW
    replace hmb := hide hmb
    clear h h4
    go_enter Tryz.func32, Tryz.ntmps32
    go_upto_region 4 with fail
    rw [hW.out, hmb.out]
    clear hmm
    go_wp2_with fail
    go_loopw [13] (fun v wr => ∃ i : Nat, i ≤ N ∧ v = .int .i64 i ∧ Hid (reqErr l i = 0) ∧ CntAt wr mb ((studs l).take i) ∧ Below mb W wr) (fun v _ => N - (intOf v).toNat)
    case atStart => exact ⟨0, Nat.zero_le _, rfl, hide rfl, hm0, Below.refl _ _⟩
    case round =>
      obtain ⟨i, hi, rfl, ho, hcn, hbr⟩ := hrel
      have hbw : Below w.heap.size w wr := hb0.trans (by rw [hmb.out]; exact hbr)
      by_cases hlt : i < N
      · obtain ⟨x0, hx0⟩ : ∃ x, l[i]? = some x := ⟨_, List.getElem?_eq_getElem (by rw [hN.out]; exact hlt)⟩
        have hat := hL.below hbw
        obtain ⟨kb, off, F, c3, rfl, hkb', hkb, ⟨q0, q1, q2, q3⟩, l3, a3⟩ := hat.req hx0
        obtain ⟨m1, m3⟩ := hm.out x0 (List.mem_of_getElem? hx0)
        have hsn := studs_take hx0
        obtain ⟨z, co, m, ts⟩ := x0
        dsimp only at q0 q1 q2 q3 l3 a3 m1 m3 hsn
        obtain ⟨nt, hnt⟩ : ∃ nt, ts.length = nt := ⟨_, rfl⟩
        have hbn : Below wr.heap.size wr (wr.alloc (.cells #[.string z, .string co, .int .i64 m, .slice F ts.length c3] 53)) := ext_alloc (Below.refl _ _) _
        have hreq := request_walk z co m F ts c3 (wr.alloc (.cells #[.string z, .string co, .int .i64 m, .slice F ts.length c3] 53)) m3 l3 (a3.any.later hbn)
        have y0 : (wr.alloc (.cells #[.string z, .string co, .int .i64 m, .slice F ts.length c3] 53)).cell? ⟨wr.heap.size, 0, none⟩ = some (.string z) := by simp
        have y1 : (wr.alloc (.cells #[.string z, .string co, .int .i64 m, .slice F ts.length c3] 53)).cell? ⟨wr.heap.size, 1, none⟩ = some (.string co) := by simp
        have y2 : (wr.alloc (.cells #[.string z, .string co, .int .i64 m, .slice F ts.length c3] 53)).cell? ⟨wr.heap.size, 2, none⟩ = some (.int .i64 m) := by simp
        have y3 : (wr.alloc (.cells #[.string z, .string co, .int .i64 m, .slice F ts.length c3] 53)).cell? ⟨wr.heap.size, 3, none⟩ = some (.slice F ts.length c3) := by simp
        have hcn5 := hcn.later hbn
        rw [hnt] at q3 hbn hreq y0 y1 y2 y3 hcn5
        obtain ⟨ce, hce⟩ : ∃ ce, reqEx (z, co, m, ts) = ce := ⟨_, rfl⟩
        rw [hce] at hreq
        have hi0 : (0 : Int) ≤ (i : Int) := by omega
        have hi1 : (i : Int) < (N : Int) := by omega
        have hbw5 := ext_trans hbw hbn
        have hbr5 : Below mb W (wr.alloc (.cells #[.string z, .string co, .int .i64 m, .slice F nt c3] 53)) := hbr.trans (hbn.mono (Nat.le_trans (Nat.le_of_lt hmW) hbr.size))
        have hxm : mb < wr.heap.size := Nat.lt_of_lt_of_le hmW hbr.size
        clear hat a3 hbn l3 m3 hcn
        go_upto_region 7 with fail
        clear q0 q1 q2 q3
        obtain ⟨x, hxx⟩ : ∃ x, wr.heap.size = x := ⟨_, rfl⟩
        obtain ⟨W5, hW5⟩ : ∃ W5, wr.alloc (.cells #[.string z, .string co, .int .i64 m, .slice F nt c3] 53) = W5 := ⟨_, rfl⟩
        rw [hxx] at y0 y1 y2 y3 hxm hkb ⊢
        rw [hW5] at y0 y1 y2 y3 hreq hcn5 hbw5 hbr5 ⊢
        replace hxx := hide hxx
        replace hW5 := hide hW5
        have hxl := World.block_lt_of_cell? _ _ y0
        by_cases hce0 : ce = 0
        · subst hce0
          go_wp2_with fail
          refine hreq.mono ?_
          clear hreq
          rintro e w6 ⟨rfl, hb6⟩
          replace y0 := cell_later hb6 y0
          replace y1 := cell_later hb6 y1
          replace y2 := cell_later hb6 y2
          replace y3 := cell_later hb6 y3
          have hcn6 := hcn5.later hb6
          have hbw6 := ext_trans hbw5 hb6
          have hbr6 : Below mb W w6 := hbr5.trans (hb6.mono (by omega))
          have hxl6 := World.block_lt_of_cell? _ _ y0
          have hlk := cnt_look hcn6 z m1
          have hml : ((studs l).take i).length ≤ 4000000000000000000 := by rw [List.length_take, hsl.out]; omega
          have hcl := countS_le z ((studs l).take i)
          have hwc : IntKind.i64.wrap (((countS z ((studs l).take i) : Nat) : Int) + 1) = ((countS z ((studs l).take i) : Nat) : Int) + 1 := IntWalk.i64_in _ (by omega)
          have hsn' : Hid ((studs l).take (i + 1) = (studs l).take i ++ [z]) := hide hsn
          obtain ⟨ss, hss⟩ : ∃ ss, (studs l).take i = ss := ⟨_, rfl⟩
          rw [hss] at hcn6 hlk hml hcl hwc hsn'
          have hmx : mb ≠ x := by omega
          clear hcn5 hbw5 hbr5 hb6 hsn hcl
          go_upto_region 11 with (at_mapUpdate; refine wpList_cnt rfl _ _ _ rfl rfl hcn6 hml rfl m1 rfl ?_; intro w10 hm10 hg10)
          have hb10 : Below w.heap.size w w10 := Below.grown hbw6 hg10 hbw6.size (fun y e => by injection e with e; rw [hmb.out]; omega)
          have hbr10 : Below mb W w10 := Below.grown hbr6 hg10 (by omega) (fun y e => by injection e with e; omega)
          replace y0 := hg10.cell y0 (fun e => hmx (by injection e with e; exact e.symm))
          replace y1 := hg10.cell y1 (fun e => hmx (by injection e with e; exact e.symm))
          replace y2 := hg10.cell y2 (fun e => hmx (by injection e with e; exact e.symm))
          replace y3 := hg10.cell y3 (fun e => hmx (by injection e with e; exact e.symm))
          have hlen10 := hg10.size
          have hx10 := World.block_lt_of_cell? _ _ y0
          rw [← hsn'.out] at hm10
          have hE : reqE (z, co, m, ts) (l.take i) = if hasQ (l.take i) z co = true then 11 else if 64 < (freshS ((studs l).take (i + 1))).length then 2 else 0 := by
            unfold reqE
            rw [hce, if_neg (by simp)]
            have : studs (l.take i ++ [(z, co, m, ts)]) = (studs l).take (i + 1) := by rw [studs_snoc, hsn'.out, ← hss]; unfold studs; rw [List.map_take]
            rw [this]
          clear hlk hwc hml hcn6 hbw6 hbr6 hg10 hss hce
          have hat10 := hL.below hb10
          have hic : (i : Int) ≤ (c : Int) := by omega
          have hlt2 : (l.take i).length = i := by rw [List.length_take, hN.out]; omega
          obtain ⟨dd, hd⟩ : ∃ dd, hasQ (l.take i) z co = dd := ⟨_, rfl⟩
          rw [hd] at hE
          have hcall := hide (fun (v : Later w10) => calls_later (v := .bool dd) (n := v) (by
            have := qhas_walk (some ⟨kb, off, none⟩) (l.take i) c z co m F nt c3 v.val (by rw [hlt2]; omega) ((hat10.any.take).later v.keeps)
            rw [hlt2, hd] at this
            exact this))
          have g0 : ∀ v : Later w10, v.val.cell? ⟨x, 0, none⟩ = some (.string z) := fun v => cell_later v.keeps y0
          have g1 : ∀ v : Later w10, v.val.cell? ⟨x, 1, none⟩ = some (.string co) := fun v => cell_later v.keeps y1
          have g2 : ∀ v : Later w10, v.val.cell? ⟨x, 2, none⟩ = some (.int .i64 m) := fun v => cell_later v.keeps y2
          have g3 : ∀ v : Later w10, v.val.cell? ⟨x, 3, none⟩ = some (.slice F nt c3) := fun v => cell_later v.keeps y3
          have hany := later_any w10
          clear hat10 hlt2 hd y0 y1 y2 y3
          go_frame
          refine wp_region_later (by kernel_rfl) (by kernel_rfl) ?_
          repeat (go_big_quiet_step ((go_at_call 59; with_reducible exact hcall.out _)))
          refine wpQuiet_nil ?_
          clear hcall g0 g1 g2 g3 hany
          rintro _ ⟨n8, rfl⟩
          have hb8 := n8.keeps
          generalize n8.val = w8 at *
          have hbw8 := ext_trans hb10 hb8
          have hbr8 : Below mb W w8 := hbr10.trans (hb8.mono (by omega))
          have hm8 := hm10.later hb8
          clear hb10 hbr10 hb8 hm10
          cases dd with
          | true =>
            have hend : Hid (V = 11) := hide (by
              rw [← hV.out]
              exact req_end hx0 ho.out (by rw [hE]; rfl) (by decide) hlt)
            clear hx0 hE ho
            go_wp2_with fail
            go_ret
            exact ⟨by rw [hend.out]; rfl, hbw8⟩
          | false =>
            rw [if_neg (by simp)] at hE
            obtain ⟨q, hq⟩ : ∃ q, (freshS ((studs l).take (i + 1))).length = q := ⟨_, rfl⟩
            rw [hq] at hE
            have hlen : ∀ ty, (Builtin.len_ #[84] ty #[.map (some mb)]).run Tryz.prog w8 = .ok (.int .i64 (q : Nat)) w8 := fun ty => by have := cnt_len hm8 ty; rw [hq] at this; exact this
            clear hq
            by_cases h64 : 64 < q
            · have h64i : (64 : Int) < (q : Int) := by omega
              have hend : Hid (V = 2) := hide (by
                rw [← hV.out]
                exact req_end hx0 ho.out (by rw [hE, if_pos h64]) (by decide) hlt)
              clear hx0 hE ho hm8
              go_wp2_with fail
              go_ret
              exact ⟨by rw [hend.out]; rfl, hbw8⟩
            · have h64i : ¬ (64 : Int) < (q : Int) := by omega
              have hnx : Hid (reqErr l (i + 1) = 0) := hide (req_on hx0 ho.out (by rw [hE, if_neg h64]))
              clear hx0 hE ho
              go_wp2_with fail
              go_roundw
              case rel => exact ⟨i + 1, by omega, by go_num, hnx, hm8, hbr8⟩
              case measure => first | (simp [intOf]; done) | (simp [intOf]; omega)
        · have hend : Hid (V = ce) := hide (by
            rw [← hV.out]
            exact req_end hx0 ho.out (by unfold reqE; rw [hce, if_pos hce0]) hce0 hlt)
          have hci : ¬ (ce : Int) = 0 := by omega
          clear hx0 hce ho hce0 hcn5
          go_wp2_with fail
          refine hreq.mono ?_
          clear hreq
          rintro e w6 ⟨rfl, hb6⟩
          have hbw6 := ext_trans hbw5 hb6
          clear y0 y1 y2 y3 hbw5 hbr5 hb6
          go_wp2_with fail
          go_ret
          exact ⟨by rw [hend.out]; rfl, hbw6⟩
      · obtain rfl : i = N := by omega
        have hVV : Hid (V = 0) := hide (by rw [← hV.out]; exact ho.out)
        have hii : ¬ (i : Int) < (i : Int) := by omega
        clear hL hcn
        go_wp2_with fail
        go_ret
        exact ⟨by rw [hVV.out]; rfl, hbw⟩
end Go.Proofs.YthejgholpkeldaaGreatDoor

namespace Go.Proofs.YthejgholpkeldaaGreatDoor
open Go.RowKit
set_option maxRecDepth 100000

/-- A number in decimal. -/
def decB (n : Nat) : ByteArray := ⟨(Lib.itoa n).toArray⟩
end Go.Proofs.YthejgholpkeldaaGreatDoor

namespace Go.Proofs.YthejgholpkeldaaGreatDoor
open Go.RowKit
set_option maxRecDepth 100000

theorem itoaD_walk (n : Int) (h0 : 0 ≤ n) (h : n ≤ 9999) (w : World) (hS : Std w) :
    Calls Tryz.prog 38 #[.int .i64 n] w fun e w' => e = .returned (.string (decB n.toNat)) ∧ Below w.heap.size w w' := by
  obtain ⟨k, rfl⟩ := Int.eq_ofNat_of_zero_le h0
  refine (Tryz.strconv_Itoa k (by omega) (by omega) w hS.pow10).mono ?_
  rintro e w' ⟨rfl, k, os, rfl⟩
  exact ⟨rfl, Lib.below_grow w.heap.size w (Nat.le_refl _) k os⟩
end Go.Proofs.YthejgholpkeldaaGreatDoor
