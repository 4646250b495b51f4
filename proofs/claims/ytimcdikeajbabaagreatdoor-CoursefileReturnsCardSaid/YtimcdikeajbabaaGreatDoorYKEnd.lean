/- Walk of coursefile.Valid. Conditions: the classes' cells. Walk of coursefile.Write. Conditions: the classes' cells; what the program's variables hold. Walks of timetablemade.Courses and Dice.Curricula: what is made, told by bounds. Conditions: the dice's cells; the classes'. What the walk of the closure of coursefile.Lines leaves: a class written whole; the length's problem. No walk. -/
import Derived.Test.YtimcdikeajbabaaGreatDoorShelfS
import Derived.Test.YtimcdikeajbabaaGreatDoorRows
import Derived.WalkKit
import Derived.WalkSpells
import Derived.WalkLawsBesides
import Derived.BigGuardPart
import Derived.Lib.Hide
import Derived.Laws.BitsAllLaws
import Derived.Laws.BitsLemmas
import Derived.Lib.LaidTab
import Derived.Test.YtimcdikeajbabaaGreatDoorShelf
import Derived.Lib.ConvBytes
import Derived.Deep.QuietTactic
import Derived.BigQuiet
import Derived.Laws.ResultCell
import Derived.RegionTactic
import Derived.BigRegion
import Derived.Deep.RegionHeld3
import Derived.Deep.DeepCutAuto
import Derived.Lib.SmallJoins
import Derived.Lib.SplitLaws
import Derived.Lib.CountLaws
import Derived.Lib.IndexMore
import Derived.Lib.Split
import Derived.Lib.Join
import Derived.Lib.ItoaNum
import Derived.Laws.AppendOwn
import Derived.Test.YtimcdikeajbabaaGreatDoorShelfT
import Derived.Lib.ItoaLen
import Derived.Lib.AppendIntMem
import Derived.Deep.AppendLies
import Derived.Lib.PathFns
import Derived.Maps.Range
import Derived.Lib.OwnBridge
import Derived.Sort.OwnSorted
import Derived.Sort.Walk0
import Derived.Test.YtimcdikeajbabaaGreatDoorCards
import Derived.Test.YtimcdikeajbabaaGreatDoorTie
import Derived.ProofKit
import Derived.OpenShut
import Derived.LaidMore
import Derived.Lay
import Derived.SevenTiedAt
import Derived.Stop.Joined
import Derived.Stop.LaidErr
import Derived.Deep.DeepHandedRow
import Derived.Lib.LaidU8
import Derived.LaidSub
import Derived.Deep.Slices
import Derived.Deep.Fields
import Derived.ChangeSame
import Derived.Deep.RegionLaw
import Derived.Deep.RegionLawGrows
import Derived.Test.YtimcdikeajbabaaGreatDoorYPatRd
import Derived.Test.YtimcdikeajbabaaGreatDoorYCells14
import Derived.Test.YtimcdikeajbabaaGreatDoorYClsOwn
import Derived.Test.YtimcdikeajbabaaGreatDoorYSameL
import Derived.Test.YtimcdikeajbabaaGreatDoorYKBack
import Derived.Test.YtimcdikeajbabaaGreatDoorYDCls
namespace Go.Proofs.YtimcdikeajbabaaGreatDoor
open Go.RowKit
set_option maxRecDepth 100000

/-- The lists of classes are no longer than lists can be. -/
def ClsShort (l : List Cls) : Prop := ∀ x ∈ l, x.2.2.2.2.1.length ≤ 9223372036854775807 ∧ x.2.2.2.2.2.2.1.length ≤ 9223372036854775807 ∧ x.2.2.2.2.2.2.2.1.length ≤ 9223372036854775807 ∧ x.2.2.2.2.2.2.2.2.length ≤ 9223372036854775807
theorem codesK_take (l : List Cls) (j : Nat) : codesK (l.take j) = (codesK l).take j := by unfold codesK; rw [List.map_take]
set_option maxHeartbeats 8000000 in
theorem kval_walk (A : Option Addr) (l : List Cls) (c : Nat) (d sl b m n : Int) (w : World) (hlc : l.length ≤ c) (hc : l.length ≤ 9223372036854775807) (hm : ClsShort l) (h : At kCls AnyB w A l) :
    Calls Tryz.prog 29 #[.slice A l.length c, .agg #[.int .i64 d, .int .i64 sl, .int .i64 b, .int .i64 m], .int .i64 n] w fun e w' => e = .returned (.int .i64 (validK d sl b m n l : Int)) ∧ Below w.heap.size w w' := by
  have hb0 : Below w.heap.size w (w.alloc (.cells #[.int .i64 d, .int .i64 sl, .int .i64 b, .int .i64 m] 24)) := (by repeat (first | exact Below.refl _ _ | refine ext_alloc ?_ _ | refine ext_drewN ?_ _ | refine ext_drew ?_ | refine ext_trans ?_ (by assumption)))
  have bG := Box4.new w 24 (.int .i64 d) (.int .i64 sl) (.int .i64 b) (.int .i64 m)
  obtain ⟨N, hN⟩ : ∃ N, l.length = N := ⟨_, rfl⟩
  obtain ⟨V, hV⟩ : ∃ V, validK d sl b m n l = V := ⟨_, rfl⟩
  rw [hV]
  unfold validK at hV
  rw [hN] at hlc hc hV ⊢
  cases hw : weekB d sl b m n
  · rw [if_pos hw] at hV
    subst hV
    clear h hm hN bG
    go_enter Tryz.func29, Tryz.ntmps29
    go_wp2_with fail
    refine (tgWeek_walk d sl b m n _).mono ?_
    rintro e w1 ⟨rfl, hb1⟩
    rw [hw]
    have hb := ext_trans hb0 hb1
    clear hb0 hb1
    go_wp2
    go_ret
    exact ⟨rfl, hb⟩
  · rw [if_neg (by rw [hw]; simp)] at hV
    by_cases h24 : 24 < N
    · rw [if_pos h24] at hV
      subst hV
      have h24i : (24 : Int) < (N : Int) := by omega
      clear h hm hN bG h24
      go_enter Tryz.func29, Tryz.ntmps29
      go_wp2_with fail
      refine (tgWeek_walk d sl b m n _).mono ?_
      rintro e w1 ⟨rfl, hb1⟩
      rw [hw]
      have hb := ext_trans hb0 hb1
      clear hb0 hb1
      go_wp2
      go_ret
      exact ⟨rfl, hb⟩
    · rw [if_neg h24] at hV
      have h24i : ¬ (24 : Int) < (N : Int) := by omega
      have hN24 : N ≤ 24 := by omega
      obtain ⟨-, -, s1, s2, -, -⟩ := week_bd hw
      obtain ⟨W, hWW⟩ : ∃ W, w.alloc (.cells #[.int .i64 d, .int .i64 sl, .int .i64 b, .int .i64 m] 24) = W := ⟨_, rfl⟩
      rw [hWW] at hb0 bG
      obtain ⟨gb, hgb⟩ : ∃ gb, w.heap.size = gb := ⟨_, rfl⟩
      rw [hgb] at bG
      have hL0 := h.later hb0
      replace hV := hide hV
      replace hN := hide hN
      replace hm := hide hm
      replace hWW := hide hWW
      replace hgb := hide hgb
      clear h h24
      go_enter Tryz.func29, Tryz.ntmps29
      go_wp2_with fail
      rw [hWW.out, hgb.out]
      refine (tgWeek_walk d sl b m n W).mono ?_
      rintro e w1 ⟨rfl, hb1⟩
      rw [hw]
      have hb := ext_trans hb0 hb1
      have hL1 := hL0.later hb1
      have bG1 := bG.later hb1
      clear hb0 hb1 hL0 bG hw
      go_wp2_with fail
      go_loopw [21] (fun v wr => ∃ i : Nat, i ≤ N ∧ v = .int .i64 i ∧ Hid (clsErr d sl n l i = 0) ∧ Below w1.heap.size w1 wr) (fun v _ => N - (intOf v).toNat)
      case atStart => exact ⟨0, Nat.zero_le _, rfl, hide rfl, Below.refl _ _⟩
      case round =>
        obtain ⟨i, hi, rfl, ho, hbr⟩ := hrel
        by_cases hlt : i < N
        · obtain ⟨x, hx⟩ : ∃ x, l[i]? = some x := ⟨_, List.getElem?_eq_getElem (by rw [hN.out]; exact hlt)⟩
          have hat := hL1.later hbr
          obtain ⟨kb, off, A4, c4, A6, c6, A7, c7, A8, c8, rfl, -, hkb, hq9, ⟨l4, l6, l7, l8⟩, a4, a6, a7, a8⟩ := hat.clsF hx
          obtain ⟨m4, m6, m7, m8⟩ := hm.out x (List.mem_of_getElem? hx)
          obtain ⟨z, co, pa, nl, ps, mm, fs, st, ss⟩ := x
          unfold nineOf at hq9
          dsimp only at hq9 l4 l6 l7 l8 a4 a6 a7 a8 m4 m6 m7 m8
          obtain ⟨n4, e4⟩ : ∃ n4, ps.length = n4 := ⟨_, rfl⟩
          obtain ⟨n6, e6⟩ : ∃ n6, fs.length = n6 := ⟨_, rfl⟩
          obtain ⟨n7, e7⟩ : ∃ n7, st.length = n7 := ⟨_, rfl⟩
          obtain ⟨n8, e8⟩ : ∃ n8, ss.length = n8 := ⟨_, rfl⟩
          rw [e4] at hq9 l4 m4
          rw [e6] at hq9 l6 m6
          rw [e7] at hq9 l7 m7
          rw [e8] at hq9 l8 m8
          obtain ⟨q0, q1, q2, q3, q4, q5, q6, q7, q8⟩ := hq9
          dsimp only at q0 q1 q2 q3 q4 q5 q6 q7 q8
          have bGr := bG1.later hbr
          obtain ⟨g0, g1, g2, g3⟩ := bGr
          have hgl : gb < wr.heap.size := World.block_lt_of_cell? _ _ g0
          have hi0 : (0 : Int) ≤ (i : Int) := by omega
          have hi1 : (i : Int) < (N : Int) := by omega
          have hbn : Below wr.heap.size wr (wr.alloc (.cells #[.string z, .string co, .string pa, .int .i64 nl, .slice A4 n4 c4, .int .i64 mm, .slice A6 n6 c6, .slice A7 n7 c7, .slice A8 n8 c8] 47)) := ext_alloc (Below.refl _ _) _
          have hbx : CBox (wr.alloc (.cells #[.string z, .string co, .string pa, .int .i64 nl, .slice A4 n4 c4, .int .i64 mm, .slice A6 n6 c6, .slice A7 n7 c7, .slice A8 n8 c8] 47)) wr.heap.size ⟨z, co, pa, nl, A4, n4, c4, mm, A6, n6, c6, A7, n7, c7, A8, n8, c8⟩ := cbox_new wr ⟨z, co, pa, nl, A4, n4, c4, mm, A6, n6, c6, A7, n7, c7, A8, n8, c8⟩
          have hcc := cclass_walk z co pa nl A4 n4 c4 mm A6 n6 c6 A7 n7 c7 A8 n8 c8 ps fs st ss d sl b m n _ e4 e6 e7 e8 m4 m6 m7 m8 l4 ⟨s1, s2⟩ (a4.later hbn) (a6.later hbn) (a7.later hbn) (a8.later hbn)
          have g0' := cell_later hbn g0
          have g1' := cell_later hbn g1
          have g2' := cell_later hbn g2
          have g3' := cell_later hbn g3
          have hatn := hat.later hbn
          obtain ⟨ce, hce⟩ : ∃ ce, clsEx d sl n (z, co, pa, nl, ps, mm, fs, st, ss) = ce := ⟨_, rfl⟩
          rw [hce] at hcc
          have hbw := ext_trans hb (ext_trans hbr hbn)
          have hbr1 := ext_trans hbr hbn
          clear a4 a6 a7 a8 l4 l6 l7 l8 m4 m6 m7 m8 e4 e6 e7 e8 hat
          go_upto_region 8 with fail
          clear q0 q1 q2 q3 q4 q5 q6 q7 q8 g0 g1 g2 g3
          obtain ⟨x, hxx⟩ : ∃ x, wr.heap.size = x := ⟨_, rfl⟩
          obtain ⟨W5, hW5⟩ : ∃ W5, wr.alloc (.cells #[.string z, .string co, .string pa, .int .i64 nl, .slice A4 n4 c4, .int .i64 mm, .slice A6 n6 c6, .slice A7 n7 c7, .slice A8 n8 c8] 47) = W5 := ⟨_, rfl⟩
          rw [hxx] at hbx hgl hbn hkb ⊢
          rw [hW5] at hbx hcc g0' g1' g2' g3' hatn hbw hbn hbr1 ⊢
          replace hxx := hide hxx
          replace hW5 := hide hW5
          have y0 := hbx.c0
          have y1 := hbx.c1
          have y2 := hbx.c2
          have y3 := hbx.c3
          have y4 := hbx.c4
          have y5 := hbx.c5
          have y6 := hbx.c6
          have y7 := hbx.c7
          have y8 := hbx.c8
          dsimp only at y0 y1 y2 y3 y4 y5 y6 y7 y8
          have hxl := hbx.lt
          by_cases hce0 : ce = 0
          · subst hce0
            go_wp2_with fail
            refine hcc.mono ?_
            clear hcc
            rintro e w6 ⟨rfl, hb6⟩
            have hbx6 := hbx.later hb6
            have hat6 := hatn.later hb6
            have hbw6 := ext_trans hbw hb6
            have hbr6 := ext_trans hbr1 hb6
            have z0 := hbx6.c0
            dsimp only at z0
            clear y0 y1 y2 y3 y4 y5 y6 y7 y8 g0' g1' g2' g3' hatn hbw hb6
            have hic : (i : Int) ≤ (c : Int) := by omega
            have hlt2 : (l.take i).length = i := by rw [List.length_take, hN.out]; omega
            obtain ⟨dd, hd⟩ : ∃ dd, decide (0 ≤ idxS z ((codesK l).take i)) = dd := ⟨_, rfl⟩
            have hcall := hide (fun (v : Later w6) => calls_later (v := .bool dd) (n := v) (by
              have := khas_walk (some ⟨kb, off, none⟩) (l.take i) c z v.val (by rw [hlt2]; omega) ((hat6.take).later v.keeps)
              rw [hlt2, codesK_take, hd] at this
              exact this))
            have hg0 : ∀ v : Later w6, v.val.cell? ⟨x, 0, none⟩ = some (.string z) := fun v => cell_later v.keeps z0
            have hany := later_any w6
            have hxl6 := hbx6.lt
            cases dd with
            | true =>
              have hend : Hid (V = 11) := hide (by
                rw [← hV.out]
                exact cls_end hx ho.out (by unfold clsE; rw [hce, if_neg (by simp), if_pos (of_decide_eq_true hd)]) (by decide) hlt)
              clear hx hce hd hat6 hlt2 ho hbx hbx6 z0
              go_upto_region 11 with fail
              refine wp_region_later (by kernel_rfl) (by kernel_rfl) ?_
              repeat (go_big_quiet_step ((go_at_call 59; with_reducible exact hcall.out _)))
              refine wpQuiet_nil ?_
              clear hcall hg0 hany
              rintro _ ⟨n8', rfl⟩
              have hb8 := n8'.keeps
              generalize n8'.val = w8 at *
              go_wp2_with fail
              go_ret
              exact ⟨by rw [hend.out]; rfl, ext_trans hbw6 hb8⟩
            | false =>
              have hnx : Hid (clsErr d sl n l (i + 1) = 0) := hide (cls_on hx ho.out (by unfold clsE; rw [hce, if_neg (by simp), if_neg (of_decide_eq_false hd)]))
              clear hx hce hd hat6 hlt2 ho hbx hbx6 z0
              go_upto_region 11 with fail
              refine wp_region_later (by kernel_rfl) (by kernel_rfl) ?_
              repeat (go_big_quiet_step ((go_at_call 59; with_reducible exact hcall.out _)))
              refine wpQuiet_nil ?_
              clear hcall hg0 hany
              rintro _ ⟨n8', rfl⟩
              have hb8 := n8'.keeps
              generalize n8'.val = w8 at *
              go_wp2_with fail
              go_roundw
              case rel => exact ⟨i + 1, by omega, by go_num, hnx, ext_trans hbr6 hb8⟩
              case measure => simp [intOf]; omega
          · have hend : Hid (V = ce) := hide (by
              rw [← hV.out]
              exact cls_end hx ho.out (by unfold clsE; rw [hce, if_pos hce0]) hce0 hlt)
            have hci : ¬ (ce : Int) = 0 := by omega
            clear hx hce ho hatn hce0
            go_wp2_with fail
            refine hcc.mono ?_
            clear hcc
            rintro e w6 ⟨rfl, hb6⟩
            have hbw6 := ext_trans hbw hb6
            clear y0 y1 y2 y3 y4 y5 y6 y7 y8 g0' g1' g2' g3' hbw hb6 hbx
            go_wp2_with fail
            go_ret
            exact ⟨by rw [hend.out]; rfl, hbw6⟩
        · obtain rfl : i = N := by omega
          have hVV : Hid (V = 0) := hide (by rw [← hV.out]; exact ho.out)
          have hii : ¬ (i : Int) < (i : Int) := by omega
          have hbw := ext_trans hb hbr
          clear hL1
          go_wp2_with fail
          go_ret
          exact ⟨by rw [hVV.out]; rfl, hbw⟩
end Go.Proofs.YtimcdikeajbabaaGreatDoor

namespace Go.Proofs.YtimcdikeajbabaaGreatDoor
open Go.RowKit
set_option maxRecDepth 100000

set_option maxHeartbeats 16000000 in
theorem kwrite_walk (A : Option Addr) (l : List Cls) (c : Nat) (d sl b m n : Int) (w : World) (hS : Std w) (hlc : l.length ≤ c) (hc : l.length ≤ 9223372036854775807) (hm : ClsShort l) (h : At kCls AnyB w A l) :
    Calls Tryz.prog 21 #[.slice A l.length c, .agg #[.int .i64 d, .int .i64 sl, .int .i64 b, .int .i64 m], .int .i64 n] w fun e w' => KWriteIs d sl b m n l w e w' := by
  have hb0 : Below w.heap.size w (w.alloc (.cells #[.int .i64 d, .int .i64 sl, .int .i64 b, .int .i64 m] 24)) := (by repeat (first | exact Below.refl _ _ | refine ext_alloc ?_ _ | refine ext_drewN ?_ _ | refine ext_drew ?_ | refine ext_trans ?_ (by assumption)))
  have hval := kval_walk A l c d sl b m n _ hlc hc hm (h.later hb0)
  by_cases hv : validK d sl b m n l = 0
  · obtain ⟨hwk, h24, hpart⟩ := validK_parts hv
    obtain ⟨-, d7, -, s24, -, n20⟩ := week_bd hwk
    have hr : Hid (rowsK d sl b m n l = l.map (rowK n)) := hide (if_pos hv)
    obtain ⟨N, hN⟩ : ∃ N, l.length = N := ⟨_, rfl⟩
    rw [hv] at hval
    rw [hN] at hval h24 ⊢
    replace hN := hide hN
    replace hpart := hide hpart
    replace hv := hide hv
    replace hm := hide hm
    go_enter Tryz.func21, Tryz.ntmps21
    go_wp2_with fail
    refine hval.mono ?_
    rintro e w1 ⟨rfl, hb1⟩
    have hbw := ext_trans hb0 hb1
    have hL1 := h.later hbw
    have hS1 := hS.after hbw
    clear hval h hb0 hb1 hwk
    go_wp2_with fail
    go_loopw [9, 29] (fun v i wr => ∃ j : Nat, j ≤ N ∧ i = .int .i64 j ∧ Own (kSlice kStr) 44 [9] 0 w1.heap.size wr v ((l.take j).map (rowK n)) ∧ Below w1.heap.size w1 wr) (fun _ i _ => N - (intOf i).toNat)
    case atStart => exact ⟨0, Nat.zero_le _, rfl, Own.nil, Below.refl _ _⟩
    case round =>
      obtain ⟨j, hj, rfl, hown, hb⟩ := hrel
      by_cases hlt : j < N
      · obtain ⟨x, hx⟩ : ∃ x, l[j]? = some x := ⟨_, List.getElem?_eq_getElem (by rw [hN.out]; exact hlt)⟩
        have hok := (hpart.out j x hx).1
        obtain ⟨kb, off, A4, c4, A6, c6, A7, c7, A8, c8, rfl, -, hkb, hq9, ⟨l4, l6, l7, l8⟩, a4, a6, a7, a8⟩ := (hL1.later hb).clsF hx
        obtain ⟨m4, m6, m7, m8⟩ := hm.out x (List.mem_of_getElem? hx)
        have hsn : Hid ((l.take (j + 1)).map (rowK n) = (l.take j).map (rowK n) ++ [rowK n x]) := by
          refine hide ?_
          rw [List.take_add_one, hx]; simp
        have hl9 : ((l.take j).map (rowK n)).length ≤ 4000000000 := by rw [List.length_map, List.length_take]; omega
        obtain ⟨lists, hlists⟩ : ∃ lists, (l.take j).map (rowK n) = lists := ⟨_, rfl⟩
        rw [hlists] at hown hsn hl9
        obtain ⟨-, -, -, hk3, hk4, hk5, hk6, hk7, hk8⟩ := hok
        obtain ⟨hp1, hp8, hpto⟩ := patsE_parts hk4
        obtain ⟨z, co, pa, nl, ps, mm, fs, st, ss⟩ := x
        unfold nineOf at hq9
        dsimp only at hq9 l4 l6 l7 l8 a4 a6 a7 a8 m4 m6 m7 m8 hk3 hk5 hk6 hk7 hk8 hp1 hp8 hpto
        obtain ⟨n4, e4⟩ : ∃ n4, ps.length = n4 := ⟨_, rfl⟩
        obtain ⟨n6, e6⟩ : ∃ n6, fs.length = n6 := ⟨_, rfl⟩
        obtain ⟨n7, e7⟩ : ∃ n7, st.length = n7 := ⟨_, rfl⟩
        obtain ⟨n8, e8⟩ : ∃ n8, ss.length = n8 := ⟨_, rfl⟩
        rw [e4] at hq9 l4 m4 hp1 hp8
        rw [e6] at hq9
        rw [e7] at hq9
        rw [e8] at hq9 l8 m8
        obtain ⟨q0, q1, q2, q3, q4, q5, q6, q7, q8⟩ := hq9
        dsimp only at q0 q1 q2 q3 q4 q5 q6 q7 q8
        have hj0 : (0 : Int) ≤ (j : Int) := by omega
        have hj1 : (j : Int) < (N : Int) := by omega
        have hz := hb.size
        have hu9 : Hid (∀ y, u9.ownBlock = some y → w1.heap.size ≤ y ∧ y < wr.heap.size) := hide hown.lt
        have hbn : Below wr.heap.size wr (wr.alloc (.cells #[.string z, .string co, .string pa, .int .i64 nl, .slice A4 n4 c4, .int .i64 mm, .slice A6 n6 c6, .slice A7 n7 c7, .slice A8 n8 c8] 47)) := ext_alloc (Below.refl _ _) _
        have hbx : CBox (wr.alloc (.cells #[.string z, .string co, .string pa, .int .i64 nl, .slice A4 n4 c4, .int .i64 mm, .slice A6 n6 c6, .slice A7 n7 c7, .slice A8 n8 c8] 47)) wr.heap.size ⟨z, co, pa, nl, A4, n4, c4, mm, A6, n6, c6, A7, n7, c7, A8, n8, c8⟩ := cbox_new wr ⟨z, co, pa, nl, A4, n4, c4, mm, A6, n6, c6, A7, n7, c7, A8, n8, c8⟩
        have a4n := a4.later hbn
        have a6n := a6.later hbn
        have a7n := a7.later hbn
        have a8n := a8.later hbn
        have hownn := hown.later hbn
        have hbw1 := ext_trans hb hbn
        replace e4 := hide e4
        replace e8 := hide e8
        replace hk6 := hide hk6
        replace hk7 := hide hk7
        replace hk8 := hide hk8
        replace hpto := hide hpto
        clear hx hlists hown a4 a6 a7 a8 hk4
        go_upto_region 8 with fail
        clear q0 q1 q2 q3 q4 q5 q6 q7 q8
        obtain ⟨xb, hxb⟩ : ∃ xb, wr.heap.size = xb := ⟨_, rfl⟩
        obtain ⟨Wx, hWx⟩ : ∃ Wx, wr.alloc (.cells #[.string z, .string co, .string pa, .int .i64 nl, .slice A4 n4 c4, .int .i64 mm, .slice A6 n6 c6, .slice A7 n7 c7, .slice A8 n8 c8] 47) = Wx := ⟨_, rfl⟩
        rw [hxb] at hbx hu9 hz ⊢
        rw [hWx] at hbx a4n a6n a7n a8n hownn hbw1 ⊢
        replace hxb := hide hxb
        replace hWx := hide hWx
        have hSx := hS1.after hbw1
        have y4 := hbx.c4
        dsimp only at y4
        have hxl := hbx.lt
        clear hbn hb
        go_wp2_with fail
        obtain ⟨wo, hwo⟩ : ∃ wo, wo = wr := ⟨_, rfl⟩
        subst hwo
        go_loopw [12, 36] (fun v i wr => ∃ k : Nat, k ≤ n4 ∧ i = .int .i64 k ∧ Own kStr 9 [] 0 Wx.heap.size wr v ((ps.take k).map (setB n)) ∧ Below Wx.heap.size Wx wr) (fun _ i _ => n4 - (intOf i).toNat)
        case atStart => exact ⟨0, Nat.zero_le _, rfl, Own.nil, Below.refl _ _⟩
        case round =>
          obtain ⟨k, hk, rfl, hown, hb⟩ := hrel
          by_cases hlt2 : k < n4
          · obtain ⟨p, hp⟩ : ∃ p, ps[k]? = some p := ⟨_, List.getElem?_eq_getElem (by rw [e4.out]; exact hlt2)⟩
            obtain ⟨pb, po, rfl, -, hpb, x0⟩ := (a4n.later hb).int hp
            have hk0 : (0 : Int) ≤ (k : Int) := by omega
            have hkn : (k : Int) < (n4 : Int) := by omega
            have hfm := wsFormat_walk p n wr
            have hts := hide (take_map (setB n) ps k p hp)
            obtain ⟨P, hP⟩ : ∃ P, (ps.take k).map (setB n) = P := ⟨_, rfl⟩
            have hPl : P.length ≤ 4000000000 := by rw [← hP, List.length_map, List.length_take]; omega
            rw [hP] at hown hts
            have hse : (⟨(fmtV p n).1.toArray⟩ : ByteArray) = setB n p := rfl
            rw [hse] at hfm
            obtain ⟨sb, hsb⟩ : ∃ sb, setB n p = sb := ⟨_, rfl⟩
            rw [hsb] at hfm hts
            replace hp := hide hp
            clear hP hse hsb
            go_wp2_with fail
            refine hfm.mono ?_
            rintro e w4 ⟨rfl, hb4⟩
            have hown4 := hown.later hb4
            have hbb4 := ext_trans hb hb4
            clear hown hb hb4 hfm x0
            have hz4 := hbb4.size
            go_wp2_with (at_builtin; refine wpList_own (K := kStr) (t := 9) (ts := []) (B0 := 0) (B := Wx.heap.size) rfl _ _ rfl apd_strs (by decide) rfl (hown4.alloc _) hPl (by decide) ⟨w4.heap.size, 0, none⟩ 1 rfl sb [.string sb] rfl (World.news_of_block (cs := #[.string sb]) (t := 9) (fr := (0, 0)) (heap_alloc_new _ _)) (by decide) (Nat.zero_le _) (by rw [World.size_alloc]; omega) ?_; intro v' w5 hown5 hgrow)
            have hb5 : Below Wx.heap.size Wx w5 := Below.grown (ext_alloc hbb4 _) hgrow (by rw [World.size_alloc]; omega) (fun y hy => (hown4.lt y hy).1)
            clear hown4 hbb4 hgrow
            go_wp2
            go_roundw
            case rel => exact ⟨k + 1, by omega, by go_num, by rw [hts.out]; exact hown5, hb5⟩
            case measure => simp [intOf]; omega
          · obtain rfl : k = n4 := by omega
            have hall : ps.take k = ps := by rw [← e4.out]; exact List.take_length
            rw [hall] at hown
            have hki : ¬ (k : Int) < (k : Int) := by omega
            have hbx2 := hbx.later hb
            have y8 := hbx2.c8
            dsimp only at y8
            have hxl2 := hbx2.lt
            have a82 := a8n.later hb
            obtain ⟨A12, c12, rfl⟩ := hown.form
            obtain ⟨n12, hn12⟩ : ∃ n12, (ps.map (setB n)).length = n12 := ⟨_, rfl⟩
            rw [hn12] at hown ⊢
            replace hn12 := hide hn12
            obtain ⟨W2, hW2⟩ : ∃ W2, W2 = wr := ⟨_, rfl⟩
            subst hW2
            have hS2 := hSx.after hb
            have hbw2 := ext_trans hbw1 hb
            clear hall y4
            go_wp2_with fail
            go_loopw [13, 54] (fun v i wr => ∃ k : Nat, k ≤ n8 ∧ i = .int .i64 k ∧ Own kStr 9 [] 0 W2.heap.size wr v ((ss.take k).map startB) ∧ Below W2.heap.size W2 wr) (fun _ i _ => n8 - (intOf i).toNat)
            case atStart => exact ⟨0, Nat.zero_le _, rfl, Own.nil, Below.refl _ _⟩
            case round =>
              obtain ⟨i, hi, rfl, hownb, hb3⟩ := hrel
              by_cases hlt3 : i < n8
              · obtain ⟨s, hs⟩ : ∃ s, ss[i]? = some s := ⟨_, List.getElem?_eq_getElem (by rw [e8.out]; exact hlt3)⟩
                obtain ⟨sb, so, rfl, -, hsb, y0, y1⟩ := (a82.later hb3).start hs
                have hpo := (startsTo_at hk8.out.2 i (by rw [e8.out]; exact hlt3)).1
                rw [List.getD_eq_getElem?_getD, hs] at hpo
                have hpo2 : 0 ≤ s.1 ∧ s.1 < d ∧ 0 ≤ s.2 ∧ s.2 ≤ sl - nl := by unfold possB at hpo; simpa using hpo
                obtain ⟨s1, s2⟩ := s
                dsimp only at y0 y1 hpo2
                obtain ⟨k, rfl⟩ := Int.eq_ofNat_of_zero_le hpo2.1
                obtain ⟨q, rfl⟩ := Int.eq_ofNat_of_zero_le hpo2.2.2.1
                have hk7' : k < 7 := by omega
                have hq24 : q < 24 := by omega
                have hts := hide (take_map startB ss i _ hs)
                rw [startB_eq] at hts
                have hds := dayB_size k
                have hns := decB_size (q + 1) (by omega)
                obtain ⟨P, hP⟩ : ∃ P, (ss.take i).map startB = P := ⟨_, rfl⟩
                have hPl : P.length ≤ 4000000000 := by have := hk8.out.1; rw [← hP, List.length_map, List.length_take]; omega
                rw [hP] at hownb hts
                have hi0 : (0 : Int) ≤ (i : Int) := by omega
                have hi1 : (i : Int) < (n8 : Int) := by omega
                have hqw : IntKind.i64.wrap ((q : Int) + 1) = (q : Int) + 1 := IntWalk.i64_in _ (by omega)
                have hu13 : Hid (∀ y, u13.ownBlock = some y → W2.heap.size ≤ y ∧ y < wr.heap.size) := hide hownb.lt
                obtain ⟨Wy, hWy⟩ : ∃ Wy, wr.alloc (.cells #[.int .i64 (k : Int), .int .i64 (q : Int)] 70) = Wy := ⟨_, rfl⟩
                have hyy : Below wr.heap.size wr Wy := by rw [← hWy]; exact ext_alloc (Below.refl _ _) _
                obtain ⟨sy, hsy⟩ : ∃ sy, wr.heap.size = sy := ⟨_, rfl⟩
                have hCy : Cn2 sy 0 (.int .i64 (k : Int)) sy 1 (.int .i64 (q : Int)) Wy := by rw [← hWy, ← hsy]; exact ⟨by simp, by simp⟩
                have howny := hownb.later hyy
                have hby := ext_trans hb3 hyy
                have hSy := hS2.after hby
                have hIw := fun (V : World) (hV : Below Wy.heap.size Wy V) => itoaD_walk ((q : Int) + 1) (by omega) (by omega) V (hSy.after hV)
                rw [show ((q : Int) + 1).toNat = q + 1 from by omega] at hIw
                have hNw := fun (V : World) => nameB_walk k hk7' V
                obtain ⟨dk, hdk⟩ : ∃ dk, dayB k = dk := ⟨_, rfl⟩
                obtain ⟨dn, hdn⟩ : ∃ dn, decB (q + 1) = dn := ⟨_, rfl⟩
                rw [hdk] at hNw hts hds
                rw [hdn] at hIw hts hns
                have hj1 : (9223372036854775807 < dk.size + 1) = False := by simp; omega
                have hj2 : (9223372036854775807 < dk.size + 1 + dn.size) = False := by simp; omega
                have hNc := hide (fun (V : World) (hV : Below Wy.heap.size Wy V) => (hNw V).mono fun _ _ ⟨he, hb⟩ => (⟨he, ext_trans hV hb, hCy.later (ext_trans hV hb), howny.later (ext_trans hV hb), ext_trans hby (ext_trans hV hb)⟩ : _ = Ending.returned (.string dk) ∧ Below Wy.heap.size Wy _ ∧ Cn2 sy 0 (.int .i64 (k : Int)) sy 1 (.int .i64 (q : Int)) _ ∧ Own kStr 9 [] 0 W2.heap.size _ u13 P ∧ Below W2.heap.size W2 _))
                have hIc := hide (fun (V : World) (hV : Below Wy.heap.size Wy V) => (hIw V hV).mono fun _ _ ⟨he, hb⟩ => (⟨he, ext_trans hV hb, hCy.later (ext_trans hV hb), howny.later (ext_trans hV hb), ext_trans hby (ext_trans hV hb)⟩ : _ = Ending.returned (.string dn) ∧ Below Wy.heap.size Wy _ ∧ Cn2 sy 0 (.int .i64 (k : Int)) sy 1 (.int .i64 (q : Int)) _ ∧ Own kStr 9 [] 0 W2.heap.size _ u13 P ∧ Below W2.heap.size W2 _))
                have nx : Hid (some sy ≠ u13.ownBlock) := hide fun e => by have := (hu13.out sy e.symm).2; omega
                have hyl : sy < Wy.heap.size := World.block_lt_of_cell? _ _ hCy.1
                clear hs hpo hpo2 hP hdk hdn hownb hIw hNw hyy hds hns
                go_upto_region 18 with fail
                try rw [hWy]
                try rw [hsy]
                clear hWy y0 y1
                replace hsy := hide hsy
                obtain ⟨r0, r1⟩ := id hCy
                have hCd := hCy.drew
                have hrefl := Below.refl Wy.heap.size Wy
                go_region_held3 (fun W' => W'.cell? ⟨sy, 0, none⟩ = some (.int .i64 (k : Int)) ∧ W'.cell? ⟨sy, 1, none⟩ = some (.int .i64 (q : Int))) (first | ((repeat (first | (with_reducible assumption) | (with_reducible refine Cn2.alloc ?_ _) | (with_reducible refine Cn2.drew ?_) | (with_reducible refine Cn2.set ?_ ?_ ?_ _) | omega)); done)) (first | (go_at_call 45; refine (hNc.out _ (by repeat (first | (with_reducible assumption) | (with_reducible refine ext_alloc ?_ _) | (with_reducible refine ext_drew ?_)))).mono ?_; rintro e w4 ⟨rfl, hb4, hx4, ho4, hbw4⟩) | (go_at_call 46; refine (hIc.out _ (by repeat (first | (with_reducible assumption) | (with_reducible refine ext_alloc ?_ _) | (with_reducible refine ext_drew ?_)))).mono ?_; rintro e w6 ⟨rfl, hb6, hx6, ho6, hbw6⟩) | (refine step_own (S := Cn2 sy 0 (.int .i64 (k : Int)) sy 1 (.int .i64 (q : Int))) (K := kStr) (t := 9) (ts := []) (B0 := 0) (B := W2.heap.size) (v := u13) (l := P) rfl (.tmp 58) (.tmp 68) rfl apd_strs (by decide) (by rfl) (by repeat (first | (with_reducible assumption) | (with_reducible refine Own.alloc ?_ _) | (with_reducible refine Own.drew ?_))) hPl (by decide) _ _ (by rfl) (dk ++ (⟨#[32]⟩ : ByteArray) ++ dn) [.string (dk ++ (⟨#[32]⟩ : ByteArray) ++ dn)] rfl (World.news_of_block (cs := #[.string (dk ++ (⟨#[32]⟩ : ByteArray) ++ dn)]) (t := 9) (fr := (0, 0)) (by first | exact heap_alloc_new _ _ | exact heap_new2 _ _ _)) (by decide) (Nat.zero_le _) (Below.size (w := W2) (by repeat (first | (with_reducible assumption) | (with_reducible refine ext_alloc ?_ _) | (with_reducible refine ext_drew ?_)))) (fun W' hg => Cn2.grown (by repeat (first | (with_reducible assumption) | (with_reducible refine Cn2.alloc ?_ _) | (with_reducible refine Cn2.drew ?_))) hg nx.out nx.out) ?_; intro gA capA w5 ho5 hg5 hs5))
                all_goals
                  have hb5 : Below W2.heap.size W2 w5 := below_grown (by repeat (first | (with_reducible assumption) | (with_reducible refine ext_alloc ?_ _) | (with_reducible refine ext_drew ?_))) hg5 (fun y hy => (hu13.out y hy).1)
                  clear hNc hIc hCy hCd hrefl hg5 hs5 howny
                  go_wp2
                  go_roundw
                  case rel => exact ⟨i + 1, by omega, by go_num, by rw [hts.out]; exact ho5, hb5⟩
                  case measure => simp [intOf]; omega
              · obtain rfl : i = n8 := by omega
                have hall : ss.take i = ss := by rw [← e8.out]; exact List.take_length
                rw [hall] at hownb
                have hii : ¬ (i : Int) < (i : Int) := by omega
                obtain ⟨W3, hW3⟩ : ∃ W3, W3 = wr := ⟨_, rfl⟩
                subst hW3
                have hbx3 := hbx2.later hb3
                have hb13 : Below Wx.heap.size Wx W3 := ext_trans hb hb3
                have hown3 := hownn.later hb13
                have hbw3 := ext_trans hbw2 hb3
                have hS3 := hS2.after hb3
                have hsets := hown.later hb3
                have a63 := a6n.later hb13
                have a73 := a7n.later hb13
                obtain ⟨A13, c13, rfl⟩ := hownb.form
                obtain ⟨n13, hn13⟩ : ∃ n13, (ss.map startB).length = n13 := ⟨_, rfl⟩
                have hC3 : Cn7 xb 0 (.string z) xb 1 (.string co) xb 2 (.string pa) xb 3 (.int .i64 nl) xb 5 (.int .i64 mm) xb 6 (.slice A6 n6 c6) xb 7 (.slice A7 n7 c7) W3 := ⟨hbx3.c0, hbx3.c1, hbx3.c2, hbx3.c3, hbx3.c5, hbx3.c6, hbx3.c7⟩
                have hbnd1 : (Lib.join ((ps.map (setB n)).map (·.data.toList)) [47]).length ≤ 1000000000 := by
                  have h1 := lensC 47 120 ((ps.map (setB n)).map (·.data.toList)) (fun x hx => by
                    obtain ⟨y, hy, rfl⟩ := List.mem_map.1 hx
                    obtain ⟨p, -, rfl⟩ := List.mem_map.1 hy
                    exact setB_len n20)
                  rw [List.length_map, hn12.out] at h1
                  have : n12 ≤ 8 := by rw [← hn12.out, List.length_map, e4.out]; exact hp8
                  omega
                have hbnd2 : (Lib.join ((ss.map startB).map (·.data.toList)) [59]).length ≤ 1000000000 := by
                  have h1 := lensC 59 24 ((ss.map startB).map (·.data.toList)) (fun x hx => by
                    obtain ⟨y, hy, rfl⟩ := List.mem_map.1 hx
                    obtain ⟨s, hs, rfl⟩ := List.mem_map.1 hy
                    obtain ⟨u, hu⟩ := List.getElem?_of_mem hs
                    have hpo := (startsTo_at hk8.out.2 u (List.getElem?_eq_some_iff.1 hu).1).1
                    rw [List.getD_eq_getElem?_getD, hu] at hpo
                    have hpo2 : 0 ≤ s.1 ∧ s.1 < d ∧ 0 ≤ s.2 ∧ s.2 ≤ sl - nl := by unfold possB at hpo; simpa using hpo
                    obtain ⟨s1, s2⟩ := s
                    dsimp only at hpo2
                    obtain ⟨k, rfl⟩ := Int.eq_ofNat_of_zero_le hpo2.1
                    obtain ⟨q, rfl⟩ := Int.eq_ofNat_of_zero_le hpo2.2.2.1
                    rw [startB_eq, ba_len]
                    have h1 := dayB_size k
                    have h2 := decB_size (q + 1) (by omega)
                    simp only [ByteArray.size_append]
                    have : (⟨#[32]⟩ : ByteArray).size = 1 := rfl
                    omega)
                  rw [List.length_map, hn13] at h1
                  have : n13 ≤ 24 := by rw [← hn13, List.length_map]; exact hk8.out.1
                  omega
                have hn12l : n12 ≤ 8 := by rw [← hn12.out, List.length_map, e4.out]; exact hp8
                have hJ1 := fun (V : World) (hV : Below W3.heap.size W3 V) => joinC_walk 47 V _ (ps.map (setB n)) (hsets.later hV) (by rw [hn12.out]; omega) hbnd1
                have hJ2 := fun (V : World) (hV : Below W3.heap.size W3 V) => joinC_walk 59 V _ (ss.map startB) (hownb.later hV) (by rw [List.length_map]; have := hk8.out.1; omega) hbnd2
                have hI1 := fun (V : World) (hV : Below W3.heap.size W3 V) => itoaD_walk nl (by omega) (by omega) V (hS3.after hV)
                have hI2 := fun (V : World) (hV : Below W3.heap.size W3 V) => itoaD_walk mm (by omega) (by omega) V (hS3.after hV)
                have hC1 := fun (V : World) (hV : Below W3.heap.size W3 V) => fcodesU_walk A6 fs c6 V (hS3.after hV) (a63.later hV) m6 l6
                have hC2 := fun (V : World) (hV : Below W3.heap.size W3 V) => fcodesU_walk A7 st c7 V (hS3.after hV) (a73.later hV) m7 l7
                rw [show (⟨(Lib.join ((ps.map (setB n)).map (·.data.toList)) [47]).toArray⟩ : ByteArray) = joinZ 47 (ps.map (setB n)) from rfl] at hJ1
                rw [show (⟨(Lib.join ((ss.map startB).map (·.data.toList)) [59]).toArray⟩ : ByteArray) = joinZ 59 (ss.map startB) from rfl] at hJ2
                rw [e6] at hC1
                rw [e7] at hC2
                rw [hn13]
                rw [hn13] at hJ2
                obtain ⟨dl, hdl⟩ : ∃ x, decB nl.toNat = x := ⟨_, rfl⟩
                obtain ⟨dm, hdm⟩ : ∃ x, decB mm.toNat = x := ⟨_, rfl⟩
                obtain ⟨js, hjs⟩ : ∃ x, joinZ 47 (ps.map (setB n)) = x := ⟨_, rfl⟩
                obtain ⟨jb, hjb⟩ : ∃ x, joinZ 59 (ss.map startB) = x := ⟨_, rfl⟩
                obtain ⟨jf, hjf⟩ : ∃ x, (joinV fs).2 = x := ⟨_, rfl⟩
                obtain ⟨jt, hjt⟩ : ∃ x, (joinV st).2 = x := ⟨_, rfl⟩
                rw [hdl] at hI1
                rw [hdm] at hI2
                rw [hjs] at hJ1
                rw [hjb] at hJ2
                rw [hjf] at hC1
                rw [hjt] at hC2
                have hrow : Hid (rowK n (z, co, pa, nl, ps, mm, fs, st, ss) = [z, co, pa, dl, js, dm, jf, jt, jb]) := hide (by rw [← hdl, ← hdm, ← hjs, ← hjb, ← hjf, ← hjt]; rfl)
                have hJ1c := hide (fun (V : World) (hV : Below W3.heap.size W3 V) => (hJ1 V hV).mono fun _ _ ⟨he, hb⟩ => (⟨he, ext_trans hV hb, hC3.later (ext_trans hV hb), hown3.later (ext_trans hV hb), ext_trans hbw3 (ext_trans hV hb)⟩ : _ = Ending.returned (.string js) ∧ Below W3.heap.size W3 _ ∧ Cn7 xb 0 (.string z) xb 1 (.string co) xb 2 (.string pa) xb 3 (.int .i64 nl) xb 5 (.int .i64 mm) xb 6 (.slice A6 n6 c6) xb 7 (.slice A7 n7 c7) _ ∧ Own (kSlice kStr) 44 [9] 0 w1.heap.size _ u9 lists ∧ Below w1.heap.size w1 _))
                have hJ2c := hide (fun (V : World) (hV : Below W3.heap.size W3 V) => (hJ2 V hV).mono fun _ _ ⟨he, hb⟩ => (⟨he, ext_trans hV hb, hC3.later (ext_trans hV hb), hown3.later (ext_trans hV hb), ext_trans hbw3 (ext_trans hV hb)⟩ : _ = Ending.returned (.string jb) ∧ Below W3.heap.size W3 _ ∧ Cn7 xb 0 (.string z) xb 1 (.string co) xb 2 (.string pa) xb 3 (.int .i64 nl) xb 5 (.int .i64 mm) xb 6 (.slice A6 n6 c6) xb 7 (.slice A7 n7 c7) _ ∧ Own (kSlice kStr) 44 [9] 0 w1.heap.size _ u9 lists ∧ Below w1.heap.size w1 _))
                have hI1c := hide (fun (V : World) (hV : Below W3.heap.size W3 V) => (hI1 V hV).mono fun _ _ ⟨he, hb⟩ => (⟨he, ext_trans hV hb, hC3.later (ext_trans hV hb), hown3.later (ext_trans hV hb), ext_trans hbw3 (ext_trans hV hb)⟩ : _ = Ending.returned (.string dl) ∧ Below W3.heap.size W3 _ ∧ Cn7 xb 0 (.string z) xb 1 (.string co) xb 2 (.string pa) xb 3 (.int .i64 nl) xb 5 (.int .i64 mm) xb 6 (.slice A6 n6 c6) xb 7 (.slice A7 n7 c7) _ ∧ Own (kSlice kStr) 44 [9] 0 w1.heap.size _ u9 lists ∧ Below w1.heap.size w1 _))
                have hI2c := hide (fun (V : World) (hV : Below W3.heap.size W3 V) => (hI2 V hV).mono fun _ _ ⟨he, hb⟩ => (⟨he, ext_trans hV hb, hC3.later (ext_trans hV hb), hown3.later (ext_trans hV hb), ext_trans hbw3 (ext_trans hV hb)⟩ : _ = Ending.returned (.string dm) ∧ Below W3.heap.size W3 _ ∧ Cn7 xb 0 (.string z) xb 1 (.string co) xb 2 (.string pa) xb 3 (.int .i64 nl) xb 5 (.int .i64 mm) xb 6 (.slice A6 n6 c6) xb 7 (.slice A7 n7 c7) _ ∧ Own (kSlice kStr) 44 [9] 0 w1.heap.size _ u9 lists ∧ Below w1.heap.size w1 _))
                have hC1c := hide (fun (V : World) (hV : Below W3.heap.size W3 V) => (hC1 V hV).mono fun _ _ ⟨he, hb⟩ => (⟨he, ext_trans hV hb, hC3.later (ext_trans hV hb), hown3.later (ext_trans hV hb), ext_trans hbw3 (ext_trans hV hb)⟩ : _ = Ending.returned (.string jf) ∧ Below W3.heap.size W3 _ ∧ Cn7 xb 0 (.string z) xb 1 (.string co) xb 2 (.string pa) xb 3 (.int .i64 nl) xb 5 (.int .i64 mm) xb 6 (.slice A6 n6 c6) xb 7 (.slice A7 n7 c7) _ ∧ Own (kSlice kStr) 44 [9] 0 w1.heap.size _ u9 lists ∧ Below w1.heap.size w1 _))
                have hC2c := hide (fun (V : World) (hV : Below W3.heap.size W3 V) => (hC2 V hV).mono fun _ _ ⟨he, hb⟩ => (⟨he, ext_trans hV hb, hC3.later (ext_trans hV hb), hown3.later (ext_trans hV hb), ext_trans hbw3 (ext_trans hV hb)⟩ : _ = Ending.returned (.string jt) ∧ Below W3.heap.size W3 _ ∧ Cn7 xb 0 (.string z) xb 1 (.string co) xb 2 (.string pa) xb 3 (.int .i64 nl) xb 5 (.int .i64 mm) xb 6 (.slice A6 n6 c6) xb 7 (.slice A7 n7 c7) _ ∧ Own (kSlice kStr) 44 [9] 0 w1.heap.size _ u9 lists ∧ Below w1.heap.size w1 _))
                have nx : Hid (some xb ≠ u9.ownBlock) := hide fun e => by have := (hu9.out xb e.symm).2; omega
                have hxl3 := hbx3.lt
                clear hall hownb hsets hJ1 hJ2 hI1 hI2 hC1 hC2 hdl hdm hjs hjb hjf hjt hown a63 a73 a82 hbx3 hbx2 hbnd1 hbnd2 e6 e7 l6 l7 hn13 y8
                go_upto_region 20 with fail
                obtain ⟨r0, r1, r2, r3, r4, r5, r6⟩ := id hC3
                have hCd := hC3.drew
                have hrefl := Below.refl W3.heap.size W3
                go_region_held3 (fun W' => W'.cell? ⟨xb, 0, none⟩ = some (.string z) ∧ W'.cell? ⟨xb, 1, none⟩ = some (.string co) ∧ W'.cell? ⟨xb, 2, none⟩ = some (.string pa) ∧ W'.cell? ⟨xb, 3, none⟩ = some (.int .i64 nl) ∧ W'.cell? ⟨xb, 5, none⟩ = some (.int .i64 mm) ∧ W'.cell? ⟨xb, 6, none⟩ = some (.slice A6 n6 c6) ∧ W'.cell? ⟨xb, 7, none⟩ = some (.slice A7 n7 c7)) (first | ((repeat (first | (with_reducible assumption) | (with_reducible refine Cn7.alloc ?_ _) | (with_reducible refine Cn7.drew ?_) | (with_reducible refine Cn7.set ?_ ?_ ?_ ?_ ?_ ?_ ?_ ?_ _) | omega)); done)) (first | (go_at_call 47; (with_reducible refine (hJ1c.out _ ?_).mono ?_); (focus ((repeat (first | (with_reducible assumption) | (with_reducible refine ext_alloc ?_ _) | (with_reducible refine ext_drew ?_))); done)); rintro e w4 ⟨rfl, hb4, hx4, ho4, hbw4⟩) | (go_at_call 47; (with_reducible refine (hJ2c.out _ ?_).mono ?_); (focus ((repeat (first | (with_reducible assumption) | (with_reducible refine ext_alloc ?_ _) | (with_reducible refine ext_drew ?_))); done)); rintro e w6 ⟨rfl, hb6, hx6, ho6, hbw6⟩) | (go_at_call 46; (with_reducible refine (hI1c.out _ ?_).mono ?_); (focus ((repeat (first | (with_reducible assumption) | (with_reducible refine ext_alloc ?_ _) | (with_reducible refine ext_drew ?_))); done)); rintro e w7 ⟨rfl, hb7, hx7, ho7, hbw7⟩) | (go_at_call 46; (with_reducible refine (hI2c.out _ ?_).mono ?_); (focus ((repeat (first | (with_reducible assumption) | (with_reducible refine ext_alloc ?_ _) | (with_reducible refine ext_drew ?_))); done)); rintro e w8 ⟨rfl, hb8, hx8, ho8, hbw8⟩) | (go_at_call 48; (with_reducible refine (hC1c.out _ ?_).mono ?_); (focus ((repeat (first | (with_reducible assumption) | (with_reducible refine ext_alloc ?_ _) | (with_reducible refine ext_drew ?_))); done)); rintro e w9 ⟨rfl, hb9, hx9, ho9, hbw9⟩) | (go_at_call 48; (with_reducible refine (hC2c.out _ ?_).mono ?_); (focus ((repeat (first | (with_reducible assumption) | (with_reducible refine ext_alloc ?_ _) | (with_reducible refine ext_drew ?_))); done)); rintro e w10 ⟨rfl, hb10, hx10, ho10, hbw10⟩) | (refine step_own (S := Cn7 xb 0 (.string z) xb 1 (.string co) xb 2 (.string pa) xb 3 (.int .i64 nl) xb 5 (.int .i64 mm) xb 6 (.slice A6 n6 c6) xb 7 (.slice A7 n7 c7)) (K := kSlice kStr) (t := 44) (ts := [9]) (B0 := 0) (B := w1.heap.size) (v := u9) (l := lists) rfl (.tmp 71) (.tmp 95) rfl apd_lists (by decide) (by rfl) (by repeat (first | (with_reducible assumption) | (with_reducible refine Own.alloc ?_ _) | (with_reducible refine Own.drew ?_))) hl9 (by decide) _ _ (by rfl) [z, co, pa, dl, js, dm, jf, jt, jb] [.slice (some ⟨_, 0, none⟩) 9 9] (rep_lit_strs (cs := #[.string z, .string co, .string pa, .string dl, .string js, .string dm, .string jf, .string jt, .string jb]) (t := 9) [z, co, pa, dl, js, dm, jf, jt, jb] (by first | exact heap_alloc_new _ _ | exact block_after (heap_alloc_new _ _) | exact block_after (block_after (heap_alloc_new _ _))) rfl rfl (Below.size (w := w1) (by repeat (first | (with_reducible assumption) | (with_reducible refine ext_alloc ?_ _) | (with_reducible refine ext_drew ?_)))) (by decide)) (World.news_of_block (cs := #[.slice (some ⟨_, 0, none⟩) 9 9]) (t := 44) (fr := (0, 0)) (by first | exact heap_alloc_new _ _ | exact heap_new2 _ _ _)) (by decide) (Nat.zero_le _) (Below.size (w := w1) (by repeat (first | (with_reducible assumption) | (with_reducible refine ext_alloc ?_ _) | (with_reducible refine ext_drew ?_)))) (fun W' hg => Cn7.grown (by repeat (first | (with_reducible assumption) | (with_reducible refine Cn7.alloc ?_ _) | (with_reducible refine Cn7.drew ?_))) hg nx.out nx.out nx.out nx.out nx.out nx.out nx.out) ?_; intro gA capA w5 ho5 hg5 hs5))
                all_goals
                  have hb5 : Below w1.heap.size w1 w5 := below_grown (by repeat (first | (with_reducible assumption) | (with_reducible refine ext_alloc ?_ _) | (with_reducible refine ext_drew ?_))) hg5 (fun y hy => (hu9.out y hy).1)
                  clear hJ1c hJ2c hI1c hI2c hC1c hC2c hC3 hCd hrefl hg5 hs5 hown3
                  go_wp2
                  go_roundw
                  case rel => exact ⟨j + 1, by omega, by go_num, by rw [hsn.out, hrow.out]; exact ho5, hb5⟩
                  case measure => simp [intOf]; omega
      · obtain rfl : j = N := by omega
        have hall : Hid (l.take j = l) := hide (by rw [← hN.out]; exact List.take_length)
        rw [hall.out] at hown
        have hfin := hide (hown.lower hbw.size)
        have hbn := ext_trans hbw hb
        clear hall hown
        go_wp2
        go_ret2
        exact ⟨u9, by rw [hv.out]; rfl, by rw [hr.out]; exact hfin.out, hbn⟩
  · have hr : Hid (rowsK d sl b m n l = []) := hide (if_neg hv)
    obtain ⟨V, hV⟩ : ∃ V, validK d sl b m n l = V := ⟨_, rfl⟩
    rw [hV] at hval hv
    have hv2 : ((V : Int) != 0) = true := by simp; omega
    have hvi : ¬ (V : Int) = 0 := by omega
    replace hV := hide hV
    obtain ⟨N, hN⟩ : ∃ N, l.length = N := ⟨_, rfl⟩
    rw [hN] at hval ⊢
    clear hv hN h
    go_enter Tryz.func21, Tryz.ntmps21
    go_wp2_with fail
    refine hval.mono ?_
    rintro e w1 ⟨rfl, hb1⟩
    clear hval
    go_wp2
    go_ret2
    exact ⟨_, by rw [hV.out]; rfl, by rw [hr.out]; exact Own.nil, ext_trans hb0 hb1⟩
end Go.Proofs.YtimcdikeajbabaaGreatDoor

namespace Go.Proofs.YtimcdikeajbabaaGreatDoor
open Go.RowKit
set_option maxRecDepth 100000

def dgB (q : Nat) : UInt8 := UInt8.ofNat (49 + q)
theorem conv_small (W : World) (q : Nat) (hq : q ≤ 100) (cap : Nat) : (convert 82 9 (.slice (some ⟨W.heap.size, 0, none⟩) 1 cap)).run Tryz.prog (W.alloc (.cells #[.int .u8 (49 + (q : Int))] 5)) = .ok (.string ⟨#[dgB q]⟩) (W.alloc (.cells #[.int .u8 (49 + (q : Int))] 5)) :=
  run_convert_bytes_back _ 82 9 5 ⟨W.heap.size, 0, none⟩ cap [UInt8.ofNat (49 + q)] Tryz.underlying82 Tryz.underlying5 Tryz.underlying9 (by
    intro j hj
    have hj : j = 0 := by simp at hj; omega
    subst hj
    have he : ((UInt8.ofNat (49 + q)).toNat : Int) = 49 + (q : Int) := by
      rw [UInt8.toNat_ofNat']; omega
    simp [Addr.add]
    omega)
end Go.Proofs.YtimcdikeajbabaaGreatDoor

namespace Go.Proofs.YtimcdikeajbabaaGreatDoor
open Go.RowKit
set_option maxRecDepth 100000

theorem CBox.only {W W' : World} {g x : Nat} {q : Nine} (h : CBox W x q) (ho : Only g W W') (hne : x ≠ g) : CBox W' x q := h.grown ho (fun e => hne (by injection e with e; exact e.symm))
def set9 (w : World) (r : Nat) (q : Nine) : World := ((((((((w.setCell ⟨r, 0, none⟩ (.string q.z)).setCell ⟨r, 1, none⟩ (.string q.co)).setCell ⟨r, 2, none⟩ (.string q.pa)).setCell ⟨r, 3, none⟩ (.int .i64 q.n)).setCell ⟨r, 4, none⟩ (.slice q.A4 q.n4 q.c4)).setCell ⟨r, 5, none⟩ (.int .i64 q.m)).setCell ⟨r, 6, none⟩ (.slice q.A6 q.n6 q.c6)).setCell ⟨r, 7, none⟩ (.slice q.A7 q.n7 q.c7)).setCell ⟨r, 8, none⟩ (.slice q.A8 q.n8 q.c8)
theorem set9_box {w : World} {r : Nat} {q q0 : Nine} (h : CBox w r q0) : CBox (set9 w r q) r q :=
  ((((((((h.set0 q.z).set1 q.co).set2 q.pa).set3 q.n).set4 q.A4 q.n4 q.c4).set5 q.m).set6 q.A6 q.n6 q.c6).set7 q.A7 q.n7 q.c7).set8 q.A8 q.n8 q.c8
theorem box_scan {w : World} {r g i : Nat} {q0 : Nine} {line : Int} {F : Option Addr} {m c k : Nat} {pr : Option Prob} (h : Scan w g line F m c k pr) (hb : CBox w r q0) (hne : r ≠ g) (u : Value) : Scan (w.setCell ⟨r, i, none⟩ u) g line F m c k pr := scan_set h hb.c0 hne
theorem set9_scan {w : World} {r g : Nat} {q q0 : Nine} {line : Int} {F : Option Addr} {m c k : Nat} {pr : Option Prob} (h : Scan w g line F m c k pr) (hb : CBox w r q0) (hne : r ≠ g) : Scan (set9 w r q) g line F m c k pr := by
  have b1 := hb.set0 q.z
  have b2 := b1.set1 q.co
  have b3 := b2.set2 q.pa
  have b4 := b3.set3 q.n
  have b5 := b4.set4 q.A4 q.n4 q.c4
  have b6 := b5.set5 q.m
  have b7 := b6.set6 q.A6 q.n6 q.c6
  have b8 := b7.set7 q.A7 q.n7 q.c7
  exact box_scan (box_scan (box_scan (box_scan (box_scan (box_scan (box_scan (box_scan (box_scan h hb hne _) b1 hne _) b2 hne _) b3 hne _) b4 hne _) b5 hne _) b6 hne _) b7 hne _) b8 hne _
theorem set9_only {a w : World} {g r : Nat} {q : Nine} (h : Only g a w) (hp : r = g ∨ a.heap.size ≤ r) : Only g a (set9 w r q) :=
  only_setCell (only_setCell (only_setCell (only_setCell (only_setCell (only_setCell (only_setCell (only_setCell (only_setCell h hp _) hp _) hp _) hp _) hp _) hp _) hp _) hp _) hp _
theorem load9 (w : World) (g : Nat) (q : Nine) (h : CBox w g q) :
    (loadVar 47 ⟨g, 0, none⟩).run Tryz.prog w = .ok (.agg (cboxV q)) w := by
  simp [go_sem, h.c0, h.c1, h.c2, h.c3, h.c4, h.c5, h.c6, h.c7, h.c8, cboxV]
theorem end_clsK {fn : Func} {p : Tmp} (hr : fn.results = #[.cell p 47]) {Q : Ending → World → Prop} {act : Act} {w : World} (g : Nat) (q : Nine) (hd : act.defers = [])
    (hp : act.tmps.getD p undef = .pointer (some ⟨g, 0, none⟩))
    (h : CBox w g q) (hQ : Q (.returned (.agg (cboxV q))) w) : bodyPost Tryz.prog fn Q .ret act w := by
  refine bodyPost_ret (v := .agg (cboxV q)) ?_ hd hQ
  simp only [results, hr]
  simp [Sem.run_bind, Result.andThen, -Array.getD_eq_getD_getElem?]
  rw [hp]
  simp only [asAddr, Sem.run_pure]
  rw [load9 w g q h]
def ClsGives (d sl n : Int) (g : Nat) (line : Int) (F : Option Addr) (fs : List Fld) (c : Nat) (ls : List Cls) (w : World) (e : Ending) (w' : World) : Prop :=
  ∃ (q : Nine) (ps : List Int) (f6 f7 : List ByteArray) (ss : List (Int × Int)) (k : Nat), e = .returned (.agg (cboxV q)) ∧ Own kInt 3 [] 0 w.heap.size w' (.slice q.A4 q.n4 q.c4) ps ∧ Own kStr 9 [] 0 w.heap.size w' (.slice q.A6 q.n6 q.c6) f6 ∧ Own kStr 9 [] 0 w.heap.size w' (.slice q.A7 q.n7 q.c7) f7 ∧ Own kStart 70 [] 0 w.heap.size w' (.slice q.A8 q.n8 q.c8) ss ∧
    Scan w' g line F fs.length c k (clsP d sl n line fs ls) ∧ (clsP d sl n line fs ls = none → (q.z, q.co, q.pa, q.n, ps, q.m, f6, f7, ss) = clsOf d sl n fs) ∧ Only g w w'
theorem numS_someK {k : Nat} {t : ByteArray} {v : Nat} (h : numS k t = some v) : numE k t = some v := by
  unfold numS at h
  split at h
  · cases h
  · exact h
/-- A length that is read. -/
theorem len_step {pr3 prn : Option Prob} {line sl : Int} {fs : List Fld} {k3 k4 nn : Nat} (_hsl : 0 ≤ sl)
    (hn : pr3 = none → k4 = k3 + 1 ∧ nn = (numE 2 (textAt fs k3)).getD 0 ∧ prn = numP (numS 2 (textAt fs k3)) (line, colAt fs (k3 + 1), 4)) (hp : ∀ p, pr3 = some p → prn = some p ∧ nn = 0) :
    (pr3 = none → k4 = k3 + 1 ∧ (nn : Int) = lenOf (textAt fs k3) ∧ noted prn (decide (sl < (nn : Int))) (line, colAt fs k4, 3) = probOf line (colAt fs (k3 + 1)) (lenE sl (textAt fs k3))) ∧ ∀ p, pr3 = some p → noted prn (decide (sl < (nn : Int))) (line, colAt fs k4, 3) = some p := by
  refine ⟨fun h => ?_, fun p h => by rw [(hp p h).1]; rfl⟩
  obtain ⟨rfl, rfl, rfl⟩ := hn h
  refine ⟨rfl, rfl, ?_⟩
  unfold lenE
  cases hs : numS 2 (textAt fs k3) with
  | none => rfl
  | some v =>
    rw [numS_someK hs, if_neg (by simp), Option.getD_some]
    by_cases hv : sl < (v : Int)
    · rw [decide_eq_true hv, if_pos hv]; rfl
    · rw [decide_eq_false hv, if_neg hv]; rfl
end Go.Proofs.YtimcdikeajbabaaGreatDoor
