/- Walk of timetableref10.Write. Conditions: the classes' cells; what the program's variables hold. What the reading of a class gives (plain). No walk. What the walk of the closure of coursefile.Lines leaves: a class written whole; the length's problem. No walk. -/
import Derived.Test.YtimcdikeajbabaaGreatDoorShelfS
import Derived.Test.YtimcdikeajbabaaGreatDoorRows
import Derived.WalkKit
import Derived.WalkSpells
import Derived.WalkLawsBesides
import Derived.BigGuardPart
import Derived.Lib.Hide
import Derived.Laws.BitsAllLaws
import Derived.Laws.BitsLemmas
import Derived.Lib.LaidTab
import Derived.Test.YtimcdikeajbabaaGreatDoorShelf
import Derived.Lib.ConvBytes
import Derived.Deep.QuietTactic
import Derived.BigQuiet
import Derived.Laws.ResultCell
import Derived.RegionTactic
import Derived.BigRegion
import Derived.Deep.RegionHeld3
import Derived.Deep.DeepCutAuto
import Derived.Lib.SmallJoins
import Derived.Lib.SplitLaws
import Derived.Lib.CountLaws
import Derived.Lib.IndexMore
import Derived.Lib.Split
import Derived.Lib.Join
import Derived.Lib.ItoaNum
import Derived.Laws.AppendOwn
import Derived.Test.YtimcdikeajbabaaGreatDoorShelfT
import Derived.Lib.ItoaLen
import Derived.Lib.AppendIntMem
import Derived.Deep.AppendLies
import Derived.Lib.PathFns
import Derived.Maps.Range
import Derived.Lib.OwnBridge
import Derived.Sort.OwnSorted
import Derived.Sort.Walk0
import Derived.Test.YtimcdikeajbabaaGreatDoorCards
import Derived.Test.YtimcdikeajbabaaGreatDoorTie
import Derived.ProofKit
import Derived.OpenShut
import Derived.LaidMore
import Derived.Lay
import Derived.SevenTiedAt
import Derived.Stop.Joined
import Derived.Stop.LaidErr
import Derived.Deep.DeepHandedRow
import Derived.Lib.LaidU8
import Derived.LaidSub
import Derived.Deep.Slices
import Derived.Deep.Fields
import Derived.ChangeSame
import Derived.Deep.RegionLaw
import Derived.Deep.RegionLawGrows
import Derived.Test.YtimcdikeajbabaaGreatDoorUDecN
import Derived.Test.YtimcdikeajbabaaGreatDoorUKValR
import Derived.Test.YtimcdikeajbabaaGreatDoorUJoinR
import Derived.Test.YtimcdikeajbabaaGreatDoorUStaffB
import Derived.Test.YtimcdikeajbabaaGreatDoorUSorted
import Derived.Test.YtimcdikeajbabaaGreatDoorUClsR
import Derived.Test.YtimcdikeajbabaaGreatDoorUGath
import Derived.Test.YtimcdikeajbabaaGreatDoorUROneP
import Derived.Test.YtimcdikeajbabaaGreatDoorUStartsC
namespace Go.Proofs.YtimcdikeajbabaaGreatDoor
open Go.RowKit
set_option maxRecDepth 100000

theorem nameR_walk (k : Nat) (hk : k < 7) (w : World) (hD : Dys w) :
    Calls Tryz.prog 53 #[.int .i64 k] w fun e w' => e = .returned (.string (dayB k)) ∧ Below w.heap.size w w' := by
  have hc := hD.cell k hk
  have hk0 : (0 : Int) ≤ (k : Int) := by omega
  have hk7 : (k : Int) < 7 := by omega
  clear hD
  go_enter Tryz.func53, Tryz.ntmps53
  go_wp2
  go_ret
  exact ⟨rfl, Below.refl _ _⟩
set_option maxHeartbeats 16000000 in
theorem r10write_walk (A : Option Addr) (l : List Cls) (c : Nat) (d sl b m n : Int) (w : World) (hS : Std w) (hWd : Wds w) (hD : Dys w) (hc : l.length ≤ 9223372036854775807) (hm : ClsShort l) (h : At kCls AnyB w A l) :
    Calls Tryz.prog 24 #[.slice A l.length c, .agg #[.int .i64 d, .int .i64 sl, .int .i64 b, .int .i64 m], .int .i64 n] w fun e w' => KWriteIs d sl b m n l w e w' := by
  have hb0 : Below w.heap.size w (w.alloc (.cells #[.int .i64 d, .int .i64 sl, .int .i64 b, .int .i64 m] 24)) := (by repeat (first | exact Below.refl _ _ | refine ext_alloc ?_ _ | refine ext_drewN ?_ _ | refine ext_drew ?_ | refine ext_trans ?_ (by assumption)))
  have hval := r10val_walk A l c d sl b m n _ hc hm (h.later hb0)
  by_cases hv : validK d sl b m n l = 0
  · obtain ⟨hwk, h24, hpart⟩ := validK_parts hv
    obtain ⟨-, d7, -, s24, -, n20⟩ := week_bd hwk
    have hr : Hid (rowsK d sl b m n l = l.map (rowK n)) := hide (if_pos hv)
    obtain ⟨N, hN⟩ : ∃ N, l.length = N := ⟨_, rfl⟩
    rw [hv] at hval
    rw [hN] at hval h24 ⊢
    replace hN := hide hN
    replace hpart := hide hpart
    replace hv := hide hv
    replace hm := hide hm
    go_enter Tryz.func24, Tryz.ntmps24
    go_wp2_with fail
    refine hval.mono ?_
    rintro e w1 ⟨rfl, hb1⟩
    have hbw := ext_trans hb0 hb1
    have hL1 := h.later hbw
    have hS1 := hS.after hbw
    have hW1 := hWd.after hbw hS
    have hD1 := hD.after hbw hS
    clear hval h hb0 hb1 hwk hS hWd hD
    go_wp2_with fail
    go_loopw [9, 10] (fun v i wr => ∃ j : Nat, j ≤ N ∧ i = .int .i64 j ∧ Own (kSlice kStr) 44 [9] 0 w1.heap.size wr v ((l.take j).map (rowK n)) ∧ Below w1.heap.size w1 wr) (fun _ i _ => N - (intOf i).toNat)
    case atStart => exact ⟨0, Nat.zero_le _, rfl, Own.nil, Below.refl _ _⟩
    case round =>
      obtain ⟨j, hj, rfl, hown, hb⟩ := hrel
      by_cases hlt : j < N
      · obtain ⟨x, hx⟩ : ∃ x, l[j]? = some x := ⟨_, List.getElem?_eq_getElem (by rw [hN.out]; exact hlt)⟩
        have hok := (hpart.out j x hx).1
        obtain ⟨kb, off, A4, c4, A6, c6, A7, c7, A8, c8, rfl, -, hkb, hq9, ⟨l4, l6, l7, l8⟩, a4, a6, a7, a8⟩ := (hL1.later hb).clsF hx
        obtain ⟨m4, m6, m7, m8⟩ := hm.out x (List.mem_of_getElem? hx)
        have hsn : Hid ((l.take (j + 1)).map (rowK n) = (l.take j).map (rowK n) ++ [rowK n x]) := by
          refine hide ?_
          rw [List.take_add_one, hx]; simp
        have hl9 : ((l.take j).map (rowK n)).length ≤ 4000000000 := by rw [List.length_map, List.length_take]; omega
        obtain ⟨lists, hlists⟩ : ∃ lists, (l.take j).map (rowK n) = lists := ⟨_, rfl⟩
        rw [hlists] at hown hsn hl9
        obtain ⟨-, -, -, hk3, hk4, hk5, hk6, hk7, hk8⟩ := hok
        obtain ⟨hp1, hp8, hpto⟩ := patsE_parts hk4
        obtain ⟨z, co, pa, nl, ps, mm, fs, st, ss⟩ := x
        unfold nineOf at hq9
        dsimp only at hq9 l4 l6 l7 l8 a4 a6 a7 a8 m4 m6 m7 m8 hk3 hk5 hk6 hk7 hk8 hp1 hp8 hpto
        obtain ⟨n4, e4⟩ : ∃ n4, ps.length = n4 := ⟨_, rfl⟩
        obtain ⟨n6, e6⟩ : ∃ n6, fs.length = n6 := ⟨_, rfl⟩
        obtain ⟨n7, e7⟩ : ∃ n7, st.length = n7 := ⟨_, rfl⟩
        obtain ⟨n8, e8⟩ : ∃ n8, ss.length = n8 := ⟨_, rfl⟩
        rw [e4] at hq9 l4 m4 hp1 hp8
        rw [e6] at hq9
        rw [e7] at hq9
        rw [e8] at hq9 l8 m8
        obtain ⟨q0, q1, q2, q3, q4, q5, q6, q7, q8⟩ := hq9
        dsimp only at q0 q1 q2 q3 q4 q5 q6 q7 q8
        have hj0 : (0 : Int) ≤ (j : Int) := by omega
        have hj1 : (j : Int) < (N : Int) := by omega
        have hz := hb.size
        have hu9 : Hid (∀ y, u9.ownBlock = some y → w1.heap.size ≤ y ∧ y < wr.heap.size) := hide hown.lt
        have hbn : Below wr.heap.size wr (wr.alloc (.cells #[.string z, .string co, .string pa, .int .i64 nl, .slice A4 n4 c4, .int .i64 mm, .slice A6 n6 c6, .slice A7 n7 c7, .slice A8 n8 c8] 47)) := ext_alloc (Below.refl _ _) _
        have hbx : CBox (wr.alloc (.cells #[.string z, .string co, .string pa, .int .i64 nl, .slice A4 n4 c4, .int .i64 mm, .slice A6 n6 c6, .slice A7 n7 c7, .slice A8 n8 c8] 47)) wr.heap.size ⟨z, co, pa, nl, A4, n4, c4, mm, A6, n6, c6, A7, n7, c7, A8, n8, c8⟩ := cbox_new wr ⟨z, co, pa, nl, A4, n4, c4, mm, A6, n6, c6, A7, n7, c7, A8, n8, c8⟩
        have a4n := a4.later hbn
        have a6n := a6.later hbn
        have a7n := a7.later hbn
        have a8n := a8.later hbn
        have hownn := hown.later hbn
        have hbw1 := ext_trans hb hbn
        replace e4 := hide e4
        replace e8 := hide e8
        replace hk6 := hide hk6
        replace hk7 := hide hk7
        replace hk8 := hide hk8
        replace hpto := hide hpto
        clear hx hlists hown a4 a6 a7 a8 hk4
        go_upto_region 9 with fail
        clear q0 q1 q2 q3 q4 q5 q6 q7 q8
        obtain ⟨xb, hxb⟩ : ∃ xb, wr.heap.size = xb := ⟨_, rfl⟩
        obtain ⟨Wx, hWx⟩ : ∃ Wx, wr.alloc (.cells #[.string z, .string co, .string pa, .int .i64 nl, .slice A4 n4 c4, .int .i64 mm, .slice A6 n6 c6, .slice A7 n7 c7, .slice A8 n8 c8] 47) = Wx := ⟨_, rfl⟩
        rw [hxb] at hbx hu9 hz ⊢
        rw [hWx] at hbx a4n a6n a7n a8n hownn hbw1 ⊢
        replace hxb := hide hxb
        replace hWx := hide hWx
        have hSx := hS1.after hbw1
        have hWx1 := hW1.after hbw1 hS1
        have hDx := hD1.after hbw1 hS1
        have y4 := hbx.c4
        dsimp only at y4
        have hxl := hbx.lt
        clear hbn hb
        go_wp2_with fail
        obtain ⟨wo, hwo⟩ : ∃ wo, wo = wr := ⟨_, rfl⟩
        subst hwo
        go_loopw [12, 14] (fun v i wr => ∃ k : Nat, k ≤ n4 ∧ i = .int .i64 k ∧ v = .string (joinZ 47 ((ps.take k).map (setB n))) ∧ Below Wx.heap.size Wx wr) (fun _ i _ => n4 - (intOf i).toNat)
        case atStart => exact ⟨0, Nat.zero_le _, rfl, by rw [List.take_zero, List.map_nil, joinZ_nil], Below.refl _ _⟩
        case round =>
          obtain ⟨k, hk, rfl, rfl, hb⟩ := hrel
          have yr := (hbx.later hb).c4
          dsimp only at yr
          have hxr : xb < wr.heap.size := Nat.lt_of_lt_of_le hxl hb.size
          by_cases hlt2 : k < n4
          · obtain ⟨p, hp⟩ : ∃ p, ps[k]? = some p := ⟨_, List.getElem?_eq_getElem (by rw [e4.out]; exact hlt2)⟩
            obtain ⟨pb, po, rfl, -, hpb, x0⟩ := (a4n.later hb).int hp
            have hk0 : (0 : Int) ≤ (k : Int) := by omega
            have hkn : (k : Int) < (n4 : Int) := by omega
            have hfm := r5Format_walk p n wr (hWx1.after hb hSx)
            have hts := hide ((congrArg (joinZ 47) (take_map (setB n) ps k p hp)).trans (joinZ_snoc 47 _ _))
            have hse : (⟨(fmtV p n).1.toArray⟩ : ByteArray) = setB n p := rfl
            rw [hse] at hfm
            have hsl : (setB n p).size ≤ 120 := by rw [← ba_len]; exact setB_len n20
            have hol : (joinZ 47 ((ps.take k).map (setB n))).size ≤ 1000 := by
              have h1 := joinZ_size 47 120 ((ps.take k).map (setB n)) (fun x hx => by
                obtain ⟨p, -, rfl⟩ := List.mem_map.1 hx
                rw [← ba_len]; exact setB_len n20)
              rw [List.length_map, List.length_take] at h1
              have : min k ps.length ≤ 8 := by rw [e4.out]; omega
              omega
            have hne : Hid (¬ (k = 0) → (ps.take k).map (setB n) ≠ []) := hide fun h0 e => by
              have := congrArg List.length e
              rw [List.length_map, List.length_take, e4.out] at this
              simp at this; omega
            have hO0 : k = 0 → joinZ 47 ((ps.take k).map (setB n)) = ⟨#[]⟩ := fun e => by subst e; rw [List.take_zero, List.map_nil, joinZ_nil]
            have hn0 : k = 0 → (ps.take k).map (setB n) = [] := fun e => by subst e; rw [List.take_zero, List.map_nil]
            obtain ⟨sb, hsb⟩ : ∃ sb, setB n p = sb := ⟨_, rfl⟩
            obtain ⟨O, hO⟩ : ∃ O, joinZ 47 ((ps.take k).map (setB n)) = O := ⟨_, rfl⟩
            rw [hsb] at hfm hts hsl
            rw [hO] at hts hol hO0 ⊢
            replace hp := hide hp
            clear hse hsb hO
            by_cases h0 : k = 0
            · have hO1 := hO0 h0
              have hn1 := hn0 h0
              subst hO1
              rw [if_pos hn1] at hts
              have hk3 : ¬ (0 : Int) < (k : Int) := by omega
              have hc1 : (9223372036854775807 < (⟨#[]⟩ : ByteArray).size + sb.size) = False := eq_false (by rw [show (⟨#[]⟩ : ByteArray).size = 0 from rfl]; omega)
              have hc2 : (9223372036854775807 < sb.size) = False := eq_false (by omega)
              clear hO0 hn0 hn1 hne hol
              replace h0 := hide h0
              go_wp2_with fail
              refine hfm.mono ?_
              rintro e w4 ⟨rfl, hb4⟩
              have hbn := ext_trans hb hb4
              clear hfm x0 hb hb4 yr
              go_wp2
              go_roundw
              case rel => exact ⟨k + 1, by omega, by go_num, by rw [hts.out]; exact congrArg Value.string (empty_app sb), hbn⟩
              case measure => simp [intOf]; omega
            · rw [if_neg (hne.out h0)] at hts
              have hk3 : (0 : Int) < (k : Int) := by omega
              have hc1 : (9223372036854775807 < O.size + 1) = False := eq_false (by omega)
              have hc2 : (9223372036854775807 < O.size + 1 + sb.size) = False := eq_false (by omega)
              clear hO0 hn0 hne
              replace h0 := hide h0
              go_wp2_with fail
              refine hfm.mono ?_
              rintro e w4 ⟨rfl, hb4⟩
              have hbn := ext_trans hb hb4
              clear hfm x0 hb hb4 yr
              go_wp2
              go_roundw
              case rel => exact ⟨k + 1, by omega, by go_num, by rw [hts.out], hbn⟩
              case measure => simp [intOf]; omega
          · obtain rfl : k = n4 := by omega
            have hall : ps.take k = ps := by rw [← e4.out]; exact List.take_length
            rw [hall]
            obtain ⟨js, hjs⟩ : ∃ x, joinZ 47 (ps.map (setB n)) = x := ⟨_, rfl⟩
            rw [hjs]
            have hki : ¬ (k : Int) < (k : Int) := by omega
            have hbx2 := hbx.later hb
            have a82 := a8n.later hb
            obtain ⟨W2, hW2⟩ : ∃ W2, W2 = wr := ⟨_, rfl⟩
            subst hW2
            have hS2 := hSx.after hb
            have hD2 := hDx.after hb hSx
            have hbw2 := ext_trans hbw1 hb
            replace hjs := hide hjs
            clear hall y4
            go_wp2_with fail
            clear yr hxr
            go_loopw [13, 17] (fun v i wr => ∃ k : Nat, k ≤ n8 ∧ i = .int .i64 k ∧ v = .string (joinZ 59 ((ss.take k).map startB)) ∧ Below W2.heap.size W2 wr) (fun _ i _ => n8 - (intOf i).toNat)
            case atStart => exact ⟨0, Nat.zero_le _, rfl, by rw [List.take_zero, List.map_nil, joinZ_nil], Below.refl _ _⟩
            case round =>
              obtain ⟨i, hi, rfl, rfl, hb3⟩ := hrel
              have yr := (hbx2.later hb3).c8
              dsimp only at yr
              have hxr : xb < wr.heap.size := Nat.lt_of_lt_of_le hbx2.lt hb3.size
              by_cases hlt3 : i < n8
              · obtain ⟨s, hs⟩ : ∃ s, ss[i]? = some s := ⟨_, List.getElem?_eq_getElem (by rw [e8.out]; exact hlt3)⟩
                obtain ⟨sb, so, rfl, -, hsb, y0, y1⟩ := (a82.later hb3).start hs
                have hpo := (startsTo_at hk8.out.2 i (by rw [e8.out]; exact hlt3)).1
                rw [List.getD_eq_getElem?_getD, hs] at hpo
                have hpo2 : 0 ≤ s.1 ∧ s.1 < d ∧ 0 ≤ s.2 ∧ s.2 ≤ sl - nl := by unfold possB at hpo; simpa using hpo
                obtain ⟨s1, s2⟩ := s
                dsimp only at y0 y1 hpo2
                obtain ⟨k, rfl⟩ := Int.eq_ofNat_of_zero_le hpo2.1
                obtain ⟨q, rfl⟩ := Int.eq_ofNat_of_zero_le hpo2.2.2.1
                have hk7' : k < 7 := by omega
                have hq24 : q < 24 := by omega
                have hts := hide ((congrArg (joinZ 59) (take_map startB ss i _ hs)).trans (joinZ_snoc 59 _ _))
                rw [startB_eq] at hts
                have hds := dayB_size k
                have hns := decB_size (q + 1) (by omega)
                have hol : (joinZ 59 ((ss.take i).map startB)).size ≤ 1000 := by
                  have h1 := joinZ_size 59 24 ((ss.take i).map startB) (fun x hx => by
                    obtain ⟨y, hy, rfl⟩ := List.mem_map.1 hx
                    exact startB_size s24 hk3.1 hk8.out.2 y (List.mem_of_mem_take hy))
                  rw [List.length_map, List.length_take] at h1
                  have : min i ss.length ≤ 24 := by have := hk8.out.1; omega
                  omega
                have hne : Hid (¬ (i = 0) → (ss.take i).map startB ≠ []) := hide fun h0 e => by
                  have := congrArg List.length e
                  rw [List.length_map, List.length_take, e8.out] at this
                  simp at this; omega
                have hO0 : i = 0 → joinZ 59 ((ss.take i).map startB) = ⟨#[]⟩ := fun e => by subst e; rw [List.take_zero, List.map_nil, joinZ_nil]
                have hn0 : i = 0 → (ss.take i).map startB = [] := fun e => by subst e; rw [List.take_zero, List.map_nil]
                obtain ⟨O, hO⟩ : ∃ O, joinZ 59 ((ss.take i).map startB) = O := ⟨_, rfl⟩
                rw [hO] at hts hol hO0 ⊢
                have hi0 : (0 : Int) ≤ (i : Int) := by omega
                have hi1 : (i : Int) < (n8 : Int) := by omega
                have hqw : IntKind.i64.wrap ((q : Int) + 1) = (q : Int) + 1 := IntWalk.i64_in _ (by omega)
                have hSr := hS2.after hb3
                have hDr := hD2.after hb3 hS2
                have hIw := fun (V : World) => decimalN_walk 2 (q + 1) (by omega) (by omega) V
                rw [show ((q + 1 : Nat) : Int) = (q : Int) + 1 from by omega] at hIw
                have hNw := fun (V : World) (hV : Below wr.heap.size wr V) => nameR_walk k hk7' V (hDr.after hV hSr)
                obtain ⟨dk, hdk⟩ : ∃ dk, dayB k = dk := ⟨_, rfl⟩
                obtain ⟨dn, hdn⟩ : ∃ dn, decB (q + 1) = dn := ⟨_, rfl⟩
                rw [hdk] at hNw hts hds
                rw [hdn] at hIw hts hns
                have hj1 : (9223372036854775807 < dk.size + 1) = False := by simp; omega
                have hj2 : (9223372036854775807 < dk.size + 1 + dn.size) = False := by simp; omega
                have hC : Cn3 xb 8 (.slice (some ⟨sb, so, none⟩) n8 c8) sb (so + i * 2) (.int .i64 (k : Int)) sb (so + i * 2 + 1) (.int .i64 (q : Int)) wr := ⟨yr, y0, y1⟩
                have hNc := hide (fun (V : World) (hV : Below wr.heap.size wr V) => (hNw V hV).mono fun _ _ ⟨he, hb⟩ => (⟨he, ext_trans hV hb, hC.later (ext_trans hV hb)⟩ : _ = Ending.returned (.string dk) ∧ Below wr.heap.size wr _ ∧ Cn3 xb 8 (.slice (some ⟨sb, so, none⟩) n8 c8) sb (so + i * 2) (.int .i64 (k : Int)) sb (so + i * 2 + 1) (.int .i64 (q : Int)) _))
                have hIc := hide (fun (V : World) (hV : Below wr.heap.size wr V) => (hIw V).mono fun _ _ ⟨he, hb⟩ => (⟨he, ext_trans hV hb, hC.later (ext_trans hV hb)⟩ : _ = Ending.returned (.string dn) ∧ Below wr.heap.size wr _ ∧ Cn3 xb 8 (.slice (some ⟨sb, so, none⟩) n8 c8) sb (so + i * 2) (.int .i64 (k : Int)) sb (so + i * 2 + 1) (.int .i64 (q : Int)) _))
                have hCd := hC.drew
                have hrefl := Below.refl wr.heap.size wr
                clear hs hpo hpo2 hdk hdn hIw hNw hO hSr hDr
                by_cases h0 : i = 0
                · have hO1 := hO0 h0
                  have hn1 := hn0 h0
                  subst hO1
                  rw [if_pos hn1] at hts
                  have hk3' : ¬ (0 : Int) < (i : Int) := by omega
                  have hc1 : (9223372036854775807 < (⟨#[]⟩ : ByteArray).size + (dk.size + 1 + dn.size)) = False := eq_false (by rw [show (⟨#[]⟩ : ByteArray).size = 0 from rfl]; omega)
                  clear hO0 hn0 hn1 hne hol hds hns
                  replace h0 := hide h0
                  go_upto_region 22 with fail
                  go_region_held3 (fun W' => W'.cell? ⟨xb, 8, none⟩ = some (.slice (some ⟨sb, so, none⟩) n8 c8) ∧ W'.cell? ⟨sb, so + i * 2, none⟩ = some (.int .i64 (k : Int)) ∧ W'.cell? ⟨sb, so + i * 2 + 1, none⟩ = some (.int .i64 (q : Int))) (first | ((repeat (first | (with_reducible assumption) | (with_reducible refine Cn3.alloc ?_ _) | (with_reducible refine Cn3.drew ?_) | (with_reducible refine Cn3.set ?_ ?_ ?_ ?_ _) | omega)); done)) (first | (go_at_call 53; refine (hNc.out _ (by repeat (first | (with_reducible assumption) | (with_reducible refine ext_alloc ?_ _) | (with_reducible refine ext_drew ?_)))).mono ?_; rintro e w4 ⟨rfl, hb4, hx4⟩) | (go_at_call 54; refine (hIc.out _ (by repeat (first | (with_reducible assumption) | (with_reducible refine ext_alloc ?_ _) | (with_reducible refine ext_drew ?_)))).mono ?_; rintro e w6 ⟨rfl, hb6, hx6⟩))
                  all_goals
                    have hbn := ext_trans hb3 hb6
                    clear hNc hIc hC hCd hrefl hb4 hb6 yr y0 y1
                    go_wp2
                    go_roundw
                    case rel => exact ⟨i + 1, by omega, by go_num, by rw [hts.out]; exact congrArg Value.string (empty_app _), by first | exact ext_drew hbn | exact hbn⟩
                    case measure => simp [intOf]; omega
                · rw [if_neg (hne.out h0)] at hts
                  have hk3' : (0 : Int) < (i : Int) := by omega
                  have hc1 : (9223372036854775807 < O.size + 1) = False := eq_false (by omega)
                  have hc2 : (9223372036854775807 < O.size + 1 + (dk.size + 1 + dn.size)) = False := eq_false (by omega)
                  clear hO0 hn0 hne hds hns
                  replace h0 := hide h0
                  go_upto_region 22 with fail
                  go_region_held3 (fun W' => W'.cell? ⟨xb, 8, none⟩ = some (.slice (some ⟨sb, so, none⟩) n8 c8) ∧ W'.cell? ⟨sb, so + i * 2, none⟩ = some (.int .i64 (k : Int)) ∧ W'.cell? ⟨sb, so + i * 2 + 1, none⟩ = some (.int .i64 (q : Int))) (first | ((repeat (first | (with_reducible assumption) | (with_reducible refine Cn3.alloc ?_ _) | (with_reducible refine Cn3.drew ?_) | (with_reducible refine Cn3.set ?_ ?_ ?_ ?_ _) | omega)); done)) (first | (go_at_call 53; refine (hNc.out _ (by repeat (first | (with_reducible assumption) | (with_reducible refine ext_alloc ?_ _) | (with_reducible refine ext_drew ?_)))).mono ?_; rintro e w4 ⟨rfl, hb4, hx4⟩) | (go_at_call 54; refine (hIc.out _ (by repeat (first | (with_reducible assumption) | (with_reducible refine ext_alloc ?_ _) | (with_reducible refine ext_drew ?_)))).mono ?_; rintro e w6 ⟨rfl, hb6, hx6⟩))
                  all_goals
                    have hbn := ext_trans hb3 hb6
                    clear hNc hIc hC hCd hrefl hb4 hb6 yr y0 y1
                    go_wp2
                    go_roundw
                    case rel => exact ⟨i + 1, by omega, by go_num, by rw [hts.out], by first | exact ext_drew hbn | exact hbn⟩
                    case measure => simp [intOf]; omega
              · obtain rfl : i = n8 := by omega
                have hall : ss.take i = ss := by rw [← e8.out]; exact List.take_length
                rw [hall]
                obtain ⟨jb, hjb⟩ : ∃ x, joinZ 59 (ss.map startB) = x := ⟨_, rfl⟩
                rw [hjb]
                have hii : ¬ (i : Int) < (i : Int) := by omega
                obtain ⟨W3, hW3⟩ : ∃ W3, W3 = wr := ⟨_, rfl⟩
                subst hW3
                have hbx3 := hbx2.later hb3
                have hb13 : Below Wx.heap.size Wx W3 := ext_trans hb hb3
                have hown3 := hownn.later hb13
                have hbw3 := ext_trans hbw2 hb3
                have a63 := a6n.later hb13
                have a73 := a7n.later hb13
                have y6 := hbx3.c6
                have y7 := hbx3.c7
                dsimp only at y6 y7
                have hJ6 := r3join_walk A6 fs c6 W3 a63 m6
                have hJ7 := fun (V : World) (hV : Below W3.heap.size W3 V) => r3join_walk A7 st c7 V (a73.later hV) m7
                obtain ⟨⟨e6', jf⟩, hjf⟩ : ∃ x, joinV fs = x := ⟨_, rfl⟩
                obtain ⟨⟨e7', jt⟩, hjt⟩ : ∃ x, joinV st = x := ⟨_, rfl⟩
                have hjf2 : (joinV fs).2 = jf := by rw [hjf]
                have hjt2 : (joinV st).2 = jt := by rw [hjt]
                rw [hjf] at hJ6
                rw [hjt] at hJ7
                rw [e6] at hJ6
                rw [e7] at hJ7
                have hJ6' := hide hJ6
                have hJ7' := hide hJ7
                clear hJ6 hJ7
                obtain ⟨dl, hdl⟩ : ∃ x, decB nl.toNat = x := ⟨_, rfl⟩
                obtain ⟨dm, hdm⟩ : ∃ x, decB mm.toNat = x := ⟨_, rfl⟩
                have hrow : Hid (rowK n (z, co, pa, nl, ps, mm, fs, st, ss) = [z, co, pa, dl, js, dm, jf, jt, jb]) := hide (by rw [← hdl, ← hdm, ← hjs.out, ← hjb, ← hjf2, ← hjt2]; rfl)
                have hI1 := fun (V : World) => decimalN_walk 2 nl.toNat (by omega) (by omega) V
                have hI2 := fun (V : World) => decimalN_walk 2 mm.toNat (by omega) (by omega) V
                rw [Int.toNat_of_nonneg (by omega), hdl] at hI1
                rw [Int.toNat_of_nonneg (by omega), hdm] at hI2
                have hI1' := hide hI1
                have hI2' := hide hI2
                clear hall hdl hdm hjb hjf hjt hjf2 hjt2 hI1 hI2 a63 a73 a82 e6 e7
                go_upto_region 24 with (go_at_call 55; (with_reducible refine hJ6'.out.mono ?_); rintro e W4 ⟨rfl, hb4⟩)
                have y74 := cell_later hb4 y7
                have hxl4 : xb < W4.heap.size := Nat.lt_of_lt_of_le hbx3.lt hb4.size
                clear y6 y7 yr
                go_upto_region 25 with (go_at_call 55; (with_reducible refine (hJ7'.out _ hb4).mono ?_); rintro e W5 ⟨rfl, hb5⟩)
                have hb35 := ext_trans hb4 hb5
                have hbx5 := hbx3.later hb35
                have hown5 := hown3.later hb35
                have hbw5 : Below w1.heap.size w1 W5 := ext_trans hbw3 hb35
                have hC3 : Cn5 xb 0 (.string z) xb 1 (.string co) xb 2 (.string pa) xb 3 (.int .i64 nl) xb 5 (.int .i64 mm) W5 := ⟨hbx5.c0, hbx5.c1, hbx5.c2, hbx5.c3, hbx5.c5⟩
                have hxl5 := hbx5.lt
                have hI1c := hide (fun (V : World) (hV : Below W5.heap.size W5 V) => (hI1'.out V).mono fun _ _ ⟨he, hb⟩ => (⟨he, ext_trans hV hb, hC3.later (ext_trans hV hb), hown5.later (ext_trans hV hb), ext_trans hbw5 (ext_trans hV hb)⟩ : _ = Ending.returned (.string dl) ∧ Below W5.heap.size W5 _ ∧ Cn5 xb 0 (.string z) xb 1 (.string co) xb 2 (.string pa) xb 3 (.int .i64 nl) xb 5 (.int .i64 mm) _ ∧ Own (kSlice kStr) 44 [9] 0 w1.heap.size _ u9 lists ∧ Below w1.heap.size w1 _))
                have hI2c := hide (fun (V : World) (hV : Below W5.heap.size W5 V) => (hI2'.out V).mono fun _ _ ⟨he, hb⟩ => (⟨he, ext_trans hV hb, hC3.later (ext_trans hV hb), hown5.later (ext_trans hV hb), ext_trans hbw5 (ext_trans hV hb)⟩ : _ = Ending.returned (.string dm) ∧ Below W5.heap.size W5 _ ∧ Cn5 xb 0 (.string z) xb 1 (.string co) xb 2 (.string pa) xb 3 (.int .i64 nl) xb 5 (.int .i64 mm) _ ∧ Own (kSlice kStr) 44 [9] 0 w1.heap.size _ u9 lists ∧ Below w1.heap.size w1 _))
                have nx : Hid (some xb ≠ u9.ownBlock) := hide fun e => by have := (hu9.out xb e.symm).2; omega
                clear hJ6' hJ7' hI1' hI2' hbx2 hbx3 hbx5 y74 l6 l7 hown3 hb4 hb5 hb35 hbx
                obtain ⟨r0, r1, r2, r3, r4⟩ := id hC3
                have hCd := hC3.drew
                have hrefl := Below.refl W5.heap.size W5
                go_region_held3 (fun W' => W'.cell? ⟨xb, 0, none⟩ = some (.string z) ∧ W'.cell? ⟨xb, 1, none⟩ = some (.string co) ∧ W'.cell? ⟨xb, 2, none⟩ = some (.string pa) ∧ W'.cell? ⟨xb, 3, none⟩ = some (.int .i64 nl) ∧ W'.cell? ⟨xb, 5, none⟩ = some (.int .i64 mm)) (first | ((repeat (first | (with_reducible assumption) | (with_reducible refine Cn5.alloc ?_ _) | (with_reducible refine Cn5.drew ?_) | (with_reducible refine Cn5.set ?_ ?_ ?_ ?_ ?_ ?_ _) | omega)); done)) (first | (go_at_call 54; (with_reducible refine (hI1c.out _ ?_).mono ?_); (focus ((repeat (first | (with_reducible assumption) | (with_reducible refine ext_alloc ?_ _) | (with_reducible refine ext_drew ?_))); done)); rintro e w7 ⟨rfl, hb7, hx7, ho7, hbw7⟩) | (go_at_call 54; (with_reducible refine (hI2c.out _ ?_).mono ?_); (focus ((repeat (first | (with_reducible assumption) | (with_reducible refine ext_alloc ?_ _) | (with_reducible refine ext_drew ?_))); done)); rintro e w8 ⟨rfl, hb8, hx8, ho8, hbw8⟩) | (refine step_own (S := Cn5 xb 0 (.string z) xb 1 (.string co) xb 2 (.string pa) xb 3 (.int .i64 nl) xb 5 (.int .i64 mm)) (K := kSlice kStr) (t := 44) (ts := [9]) (B0 := 0) (B := w1.heap.size) (v := u9) (l := lists) rfl (.tmp 105) (.tmp 123) rfl apd_lists (by decide) (by rfl) (by repeat (first | (with_reducible assumption) | (with_reducible refine Own.alloc ?_ _) | (with_reducible refine Own.drew ?_))) hl9 (by decide) _ _ (by rfl) [z, co, pa, dl, js, dm, jf, jt, jb] [.slice (some ⟨_, 0, none⟩) 9 9] (rep_lit_strs (cs := #[.string z, .string co, .string pa, .string dl, .string js, .string dm, .string jf, .string jt, .string jb]) (t := 9) [z, co, pa, dl, js, dm, jf, jt, jb] (by first | exact heap_alloc_new _ _ | exact block_after (heap_alloc_new _ _) | exact block_after (block_after (heap_alloc_new _ _))) rfl rfl (Below.size (w := w1) (by repeat (first | (with_reducible assumption) | (with_reducible refine ext_alloc ?_ _) | (with_reducible refine ext_drew ?_)))) (by decide)) (World.news_of_block (cs := #[.slice (some ⟨_, 0, none⟩) 9 9]) (t := 44) (fr := (0, 0)) (by first | exact heap_alloc_new _ _ | exact heap_new2 _ _ _)) (by decide) (Nat.zero_le _) (Below.size (w := w1) (by repeat (first | (with_reducible assumption) | (with_reducible refine ext_alloc ?_ _) | (with_reducible refine ext_drew ?_)))) (fun W' hg => Cn5.grown (by repeat (first | (with_reducible assumption) | (with_reducible refine Cn5.alloc ?_ _) | (with_reducible refine Cn5.drew ?_))) hg nx.out nx.out nx.out nx.out nx.out) ?_; intro gA capA w5 ho5 hg5 hs5))
                all_goals
                  have hb5 : Below w1.heap.size w1 w5 := below_grown (by repeat (first | (with_reducible assumption) | (with_reducible refine ext_alloc ?_ _) | (with_reducible refine ext_drew ?_))) hg5 (fun y hy => (hu9.out y hy).1)
                  clear hI1c hI2c hC3 hCd hrefl hg5 hs5 hown5
                  go_wp2
                  go_roundw
                  case rel => exact ⟨j + 1, by omega, by go_num, by rw [hsn.out, hrow.out]; exact ho5, hb5⟩
                  case measure => simp [intOf]; omega
      · obtain rfl : j = N := by omega
        have hall : Hid (l.take j = l) := hide (by rw [← hN.out]; exact List.take_length)
        rw [hall.out] at hown
        have hfin := hide (hown.lower hbw.size)
        have hbn := ext_trans hbw hb
        clear hall hown
        go_wp2
        go_ret2
        exact ⟨u9, by rw [hv.out]; rfl, by rw [hr.out]; exact hfin.out, hbn⟩
  · have hr : Hid (rowsK d sl b m n l = []) := hide (if_neg hv)
    obtain ⟨V, hV⟩ : ∃ V, validK d sl b m n l = V := ⟨_, rfl⟩
    rw [hV] at hval hv
    have hv2 : ((V : Int) != 0) = true := by simp; omega
    have hvi : ¬ (V : Int) = 0 := by omega
    replace hV := hide hV
    obtain ⟨N, hN⟩ : ∃ N, l.length = N := ⟨_, rfl⟩
    rw [hN] at hval ⊢
    clear hv hN h
    go_enter Tryz.func24, Tryz.ntmps24
    go_wp2_with fail
    refine hval.mono ?_
    rintro e w1 ⟨rfl, hb1⟩
    clear hval
    go_wp2
    go_ret2
    exact ⟨_, by rw [hV.out]; rfl, by rw [hr.out]; exact Own.nil, ext_trans hb0 hb1⟩
end Go.Proofs.YtimcdikeajbabaaGreatDoor

namespace Go.Proofs.YtimcdikeajbabaaGreatDoor
open Go.RowKit
set_option maxRecDepth 100000

/-- The error of a length. -/
def lenE (sl : Int) (t : ByteArray) : Int := if numS 2 t = none then 4 else if sl < (((numS 2 t).getD 0 : Nat) : Int) then 3 else 0
def lenOf (t : ByteArray) : Int := (((numE 2 t).getD 0 : Nat) : Int)
def codeE (t : ByteArray) : Int := if codeB t = true then 0 else 10
def seatE (t : ByteArray) : Int := if numE 4 t = none then 4 else 0
/-- The problem of a class's fields. -/
def fieldsK (d sl n line : Int) (fs : List Fld) : Option Prob :=
  orP (orP (orP (orP (orP (orP (orP (orP (probOf line (colAt fs 1) (codeE (textAt fs 0))) (probOf line (colAt fs 2) (codeE (textAt fs 1)))) (probOf line (colAt fs 3) (codeE (textAt fs 2)))) (probOf line (colAt fs 4) (lenE sl (textAt fs 3)))) (probOf line (colAt fs 5) (patsRE n (slashOf (textAt fs 4))))) (probOf line (colAt fs 6) (seatE (textAt fs 5)))) (codesP 8 line (colAt fs 7) (textAt fs 6))) (codesP 8 line (colAt fs 8) (textAt fs 7))) (probOf line (colAt fs 9) (startsRE d sl (lenOf (textAt fs 3)) (partsOf (textAt fs 8))))
/-- The problem of the record of a class, behind others. -/
def clsP (d sl n line : Int) (fs : List Fld) (ls : List Cls) : Option Prob :=
  noted (noted (fieldsK d sl n line fs) (decide (0 ≤ idxS (textAt fs 0) (codesK ls))) (line, 0, 11)) (decide (24 ≤ ls.length)) (line, 0, 2)
def clsOf (d sl n : Int) (fs : List Fld) : Cls := (textAt fs 0, textAt fs 1, textAt fs 2, lenOf (textAt fs 3), (slashOf (textAt fs 4)).map (patV n), (((numE 4 (textAt fs 5)).getD 0 : Nat) : Int), ascS (listV (textAt fs 6)).2, ascS (listV (textAt fs 7)).2, ascP ((partsOf (textAt fs 8)).map (startP d sl (lenOf (textAt fs 3)))))
theorem num_prob {o : Option Nat} {line col : Int} : numP o (line, col, 4) = probOf line col (if o = none then 4 else 0) := by
  cases o <;> rfl
theorem code_prob {t : ByteArray} {line col : Int} : (if codeB t then none else some (line, col, (10 : Int))) = probOf line col (codeE t) := by
  unfold codeE
  cases codeB t <;> rfl
theorem cls_steps {d sl n line : Int} {fs : List Fld} {ls : List Cls} {k0 k1 k2 k3 k4 k5 k6 k7 k8 k9 : Nat} {t0 t1 t2 : ByteArray} {len seats : Int} {ps : List Int} {f6 f7 : List ByteArray} {ss : List (Int × Int)} {pr0 pr1 pr2 pr3 pr4 pr5 pr6 pr7 pr8 pr9 : Option Prob} (h0 : pr0 = none) (hk : k0 = 0)
    (a0 : pr0 = none → k1 = k0 + 1 ∧ t0 = textAt fs k0 ∧ pr1 = probOf line (colAt fs (k0 + 1)) (codeE (textAt fs k0))) (b0 : ∀ p, pr0 = some p → pr1 = some p)
    (a1 : pr1 = none → k2 = k1 + 1 ∧ t1 = textAt fs k1 ∧ pr2 = probOf line (colAt fs (k1 + 1)) (codeE (textAt fs k1))) (b1 : ∀ p, pr1 = some p → pr2 = some p)
    (a2 : pr2 = none → k3 = k2 + 1 ∧ t2 = textAt fs k2 ∧ pr3 = probOf line (colAt fs (k2 + 1)) (codeE (textAt fs k2))) (b2 : ∀ p, pr2 = some p → pr3 = some p)
    (a3 : pr3 = none → k4 = k3 + 1 ∧ len = lenOf (textAt fs k3) ∧ pr4 = probOf line (colAt fs (k3 + 1)) (lenE sl (textAt fs k3))) (b3 : ∀ p, pr3 = some p → pr4 = some p)
    (a4 : pr4 = none → k5 = k4 + 1 ∧ ps = (slashOf (textAt fs k4)).map (patV n) ∧ pr5 = probOf line (colAt fs (k4 + 1)) (patsRE n (slashOf (textAt fs k4)))) (b4 : ∀ p, pr4 = some p → pr5 = some p)
    (a5 : pr5 = none → k6 = k5 + 1 ∧ seats = (((numE 4 (textAt fs k5)).getD 0 : Nat) : Int) ∧ pr6 = probOf line (colAt fs (k5 + 1)) (seatE (textAt fs k5))) (b5 : ∀ p, pr5 = some p → pr6 = some p)
    (a6 : pr6 = none → k7 = k6 + 1 ∧ f6 = (listV (textAt fs k6)).2 ∧ pr7 = codesP 8 line (colAt fs (k6 + 1)) (textAt fs k6)) (b6 : ∀ p, pr6 = some p → pr7 = some p)
    (a7 : pr7 = none → k8 = k7 + 1 ∧ f7 = (listV (textAt fs k7)).2 ∧ pr8 = codesP 8 line (colAt fs (k7 + 1)) (textAt fs k7)) (b7 : ∀ p, pr7 = some p → pr8 = some p)
    (a8 : pr8 = none → k9 = k8 + 1 ∧ ss = (partsOf (textAt fs k8)).map (startP d sl len) ∧ pr9 = probOf line (colAt fs (k8 + 1)) (startsRE d sl len (partsOf (textAt fs k8)))) (b8 : ∀ p, pr8 = some p → pr9 = some p) :
    noted (noted pr9 (decide (0 ≤ idxS t0 (codesK ls))) (line, 0, 11)) (decide (24 ≤ ls.length)) (line, 0, 2) = clsP d sl n line fs ls ∧ (clsP d sl n line fs ls = none → (t0, t1, t2, len, ps, seats, ascS f6, ascS f7, ascP ss) = clsOf d sl n fs) := by
  subst h0 hk
  obtain ⟨rfl, rfl, hp1⟩ := a0 rfl
  have hmain : pr9 = fieldsK d sl n line fs ∧ (fieldsK d sl n line fs = none → (textAt fs 0, t1, t2, len, ps, seats, ascS f6, ascS f7, ascP ss) = clsOf d sl n fs) := by
    unfold fieldsK
    rw [show probOf line (colAt fs 1) (codeE (textAt fs 0)) = pr1 from hp1.symm]
    cases pr1 with
    | some p => rw [b8 p (b7 p (b6 p (b5 p (b4 p (b3 p (b2 p (b1 p rfl)))))))]; exact ⟨rfl, fun h => by cases h⟩
    | none =>
      obtain ⟨rfl, rfl, hp2⟩ := a1 rfl
      rw [show probOf line (colAt fs 2) (codeE (textAt fs 1)) = pr2 from hp2.symm]
      cases pr2 with
      | some p => rw [b8 p (b7 p (b6 p (b5 p (b4 p (b3 p (b2 p rfl))))))]; exact ⟨rfl, fun h => by cases h⟩
      | none =>
        obtain ⟨rfl, rfl, hp3⟩ := a2 rfl
        rw [show probOf line (colAt fs 3) (codeE (textAt fs 2)) = pr3 from hp3.symm]
        cases pr3 with
        | some p => rw [b8 p (b7 p (b6 p (b5 p (b4 p (b3 p rfl)))))]; exact ⟨rfl, fun h => by cases h⟩
        | none =>
          obtain ⟨rfl, rfl, hp4⟩ := a3 rfl
          rw [show probOf line (colAt fs 4) (lenE sl (textAt fs 3)) = pr4 from hp4.symm]
          cases pr4 with
          | some p => rw [b8 p (b7 p (b6 p (b5 p (b4 p rfl))))]; exact ⟨rfl, fun h => by cases h⟩
          | none =>
            obtain ⟨rfl, rfl, hp5⟩ := a4 rfl
            rw [show probOf line (colAt fs 5) (patsRE n (slashOf (textAt fs 4))) = pr5 from hp5.symm]
            cases pr5 with
            | some p => rw [b8 p (b7 p (b6 p (b5 p rfl)))]; exact ⟨rfl, fun h => by cases h⟩
            | none =>
              obtain ⟨rfl, rfl, hp6⟩ := a5 rfl
              rw [show probOf line (colAt fs 6) (seatE (textAt fs 5)) = pr6 from hp6.symm]
              cases pr6 with
              | some p => rw [b8 p (b7 p (b6 p rfl))]; exact ⟨rfl, fun h => by cases h⟩
              | none =>
                obtain ⟨rfl, rfl, hp7⟩ := a6 rfl
                rw [show codesP 8 line (colAt fs 7) (textAt fs 6) = pr7 from hp7.symm]
                cases pr7 with
                | some p => rw [b8 p (b7 p rfl)]; exact ⟨rfl, fun h => by cases h⟩
                | none =>
                  obtain ⟨rfl, rfl, hp8⟩ := a7 rfl
                  rw [show codesP 8 line (colAt fs 8) (textAt fs 7) = pr8 from hp8.symm]
                  cases pr8 with
                  | some p => rw [b8 p rfl]; exact ⟨rfl, fun h => by cases h⟩
                  | none =>
                    obtain ⟨rfl, rfl, hp9⟩ := a8 rfl
                    exact ⟨hp9, fun _ => rfl⟩
  unfold clsP
  rw [hmain.1]
  exact ⟨rfl, fun h => hmain.2 (noted_no (noted_no h))⟩
theorem clsP_len {d sl n : Int} (line : Int) (fs : List Fld) (ls : List Cls) (h : clsP d sl n line fs ls = none) : ls.length < 24 := by
  unfold clsP at h
  have := of_decide_eq_false (noted_none h).2
  omega
def readCls (d sl n : Int) (rs : List Rec) : RG Cls := readAll 9 (clsP d sl n) (clsOf d sl n) rs
theorem readCls_len (d sl n : Int) (rs : List Rec) : (readCls d sl n rs).ls.length ≤ 24 ∧ (readCls d sl n rs).lines.length = (readCls d sl n rs).ls.length ∧ (readCls d sl n rs).ps.length ≤ rs.length := readAll_len clsP_len rs
end Go.Proofs.YtimcdikeajbabaaGreatDoor

namespace Go.Proofs.YtimcdikeajbabaaGreatDoor
open Go.RowKit
set_option maxRecDepth 100000

theorem CBox.only {W W' : World} {g x : Nat} {q : Nine} (h : CBox W x q) (ho : Only g W W') (hne : x ≠ g) : CBox W' x q := h.grown ho (fun e => hne (by injection e with e; exact e.symm))
def set9 (w : World) (r : Nat) (q : Nine) : World := ((((((((w.setCell ⟨r, 0, none⟩ (.string q.z)).setCell ⟨r, 1, none⟩ (.string q.co)).setCell ⟨r, 2, none⟩ (.string q.pa)).setCell ⟨r, 3, none⟩ (.int .i64 q.n)).setCell ⟨r, 4, none⟩ (.slice q.A4 q.n4 q.c4)).setCell ⟨r, 5, none⟩ (.int .i64 q.m)).setCell ⟨r, 6, none⟩ (.slice q.A6 q.n6 q.c6)).setCell ⟨r, 7, none⟩ (.slice q.A7 q.n7 q.c7)).setCell ⟨r, 8, none⟩ (.slice q.A8 q.n8 q.c8)
theorem set9_box {w : World} {r : Nat} {q q0 : Nine} (h : CBox w r q0) : CBox (set9 w r q) r q :=
  ((((((((h.set0 q.z).set1 q.co).set2 q.pa).set3 q.n).set4 q.A4 q.n4 q.c4).set5 q.m).set6 q.A6 q.n6 q.c6).set7 q.A7 q.n7 q.c7).set8 q.A8 q.n8 q.c8
theorem box_scan {w : World} {r g i : Nat} {q0 : Nine} {line : Int} {F : Option Addr} {m c k : Nat} {pr : Option Prob} (h : Scan w g line F m c k pr) (hb : CBox w r q0) (hne : r ≠ g) (u : Value) : Scan (w.setCell ⟨r, i, none⟩ u) g line F m c k pr := scan_set h hb.c0 hne
theorem set9_scan {w : World} {r g : Nat} {q q0 : Nine} {line : Int} {F : Option Addr} {m c k : Nat} {pr : Option Prob} (h : Scan w g line F m c k pr) (hb : CBox w r q0) (hne : r ≠ g) : Scan (set9 w r q) g line F m c k pr := by
  have b1 := hb.set0 q.z
  have b2 := b1.set1 q.co
  have b3 := b2.set2 q.pa
  have b4 := b3.set3 q.n
  have b5 := b4.set4 q.A4 q.n4 q.c4
  have b6 := b5.set5 q.m
  have b7 := b6.set6 q.A6 q.n6 q.c6
  have b8 := b7.set7 q.A7 q.n7 q.c7
  exact box_scan (box_scan (box_scan (box_scan (box_scan (box_scan (box_scan (box_scan (box_scan h hb hne _) b1 hne _) b2 hne _) b3 hne _) b4 hne _) b5 hne _) b6 hne _) b7 hne _) b8 hne _
theorem set9_only {a w : World} {g r : Nat} {q : Nine} (h : Only g a w) (hp : r = g ∨ a.heap.size ≤ r) : Only g a (set9 w r q) :=
  only_setCell (only_setCell (only_setCell (only_setCell (only_setCell (only_setCell (only_setCell (only_setCell (only_setCell h hp _) hp _) hp _) hp _) hp _) hp _) hp _) hp _) hp _
theorem load9 (w : World) (g : Nat) (q : Nine) (h : CBox w g q) :
    (loadVar 47 ⟨g, 0, none⟩).run Tryz.prog w = .ok (.agg (cboxV q)) w := by
  simp [go_sem, h.c0, h.c1, h.c2, h.c3, h.c4, h.c5, h.c6, h.c7, h.c8, cboxV]
theorem end_clsK {fn : Func} {p : Tmp} (hr : fn.results = #[.cell p 47]) {Q : Ending → World → Prop} {act : Act} {w : World} (g : Nat) (q : Nine) (hd : act.defers = [])
    (hp : act.tmps.getD p undef = .pointer (some ⟨g, 0, none⟩))
    (h : CBox w g q) (hQ : Q (.returned (.agg (cboxV q))) w) : bodyPost Tryz.prog fn Q .ret act w := by
  refine bodyPost_ret (v := .agg (cboxV q)) ?_ hd hQ
  simp only [results, hr]
  simp [Sem.run_bind, Result.andThen, -Array.getD_eq_getD_getElem?]
  rw [hp]
  simp only [asAddr, Sem.run_pure]
  rw [load9 w g q h]
def ClsGives (d sl n : Int) (g : Nat) (line : Int) (F : Option Addr) (fs : List Fld) (c : Nat) (ls : List Cls) (w : World) (e : Ending) (w' : World) : Prop :=
  ∃ (q : Nine) (ps : List Int) (f6 f7 : List ByteArray) (ss : List (Int × Int)) (k : Nat), e = .returned (.agg (cboxV q)) ∧ Own kInt 3 [] 0 w.heap.size w' (.slice q.A4 q.n4 q.c4) ps ∧ Own kStr 9 [] 0 w.heap.size w' (.slice q.A6 q.n6 q.c6) f6 ∧ Own kStr 9 [] 0 w.heap.size w' (.slice q.A7 q.n7 q.c7) f7 ∧ Own kStart 70 [] 0 w.heap.size w' (.slice q.A8 q.n8 q.c8) ss ∧
    Scan w' g line F fs.length c k (clsP d sl n line fs ls) ∧ (clsP d sl n line fs ls = none → (q.z, q.co, q.pa, q.n, ps, q.m, f6, f7, ss) = clsOf d sl n fs) ∧ Only g w w'
theorem numS_someK {k : Nat} {t : ByteArray} {v : Nat} (h : numS k t = some v) : numE k t = some v := by
  unfold numS at h
  split at h
  · cases h
  · exact h
/-- A length that is read. -/
theorem len_step {pr3 prn : Option Prob} {line sl : Int} {fs : List Fld} {k3 k4 nn : Nat} (_hsl : 0 ≤ sl)
    (hn : pr3 = none → k4 = k3 + 1 ∧ nn = (numE 2 (textAt fs k3)).getD 0 ∧ prn = numP (numS 2 (textAt fs k3)) (line, colAt fs (k3 + 1), 4)) (hp : ∀ p, pr3 = some p → prn = some p ∧ nn = 0) :
    (pr3 = none → k4 = k3 + 1 ∧ (nn : Int) = lenOf (textAt fs k3) ∧ noted prn (decide (sl < (nn : Int))) (line, colAt fs k4, 3) = probOf line (colAt fs (k3 + 1)) (lenE sl (textAt fs k3))) ∧ ∀ p, pr3 = some p → noted prn (decide (sl < (nn : Int))) (line, colAt fs k4, 3) = some p := by
  refine ⟨fun h => ?_, fun p h => by rw [(hp p h).1]; rfl⟩
  obtain ⟨rfl, rfl, rfl⟩ := hn h
  refine ⟨rfl, rfl, ?_⟩
  unfold lenE
  cases hs : numS 2 (textAt fs k3) with
  | none => rfl
  | some v =>
    rw [numS_someK hs, if_neg (by simp), Option.getD_some]
    by_cases hv : sl < (v : Int)
    · rw [decide_eq_true hv, if_pos hv]; rfl
    · rw [decide_eq_false hv, if_neg hv]; rfl
end Go.Proofs.YtimcdikeajbabaaGreatDoor
