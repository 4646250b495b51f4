/- Walk of timetableref03.Compare. Conditions: the texts' lengths are ints. -/
import Derived.Test.YthejgholpkeldaaGreatDoorRows
import Derived.WalkKit
import Derived.WalkSpells
import Derived.WalkLawsBesides
import Derived.BigGuardPart
import Derived.Lib.Hide
import Derived.Laws.BitsAllLaws
import Derived.Laws.BitsLemmas
import Derived.Lib.LaidTab
import Derived.Test.YthejgholpkeldaaGreatDoorShelf
import Derived.Lib.ConvBytes
import Derived.Deep.QuietTactic
import Derived.BigQuiet
import Derived.Laws.ResultCell
import Derived.RegionTactic
import Derived.BigRegion
import Derived.Deep.RegionHeld3
import Derived.Deep.DeepCutAuto
import Derived.Lib.SmallJoins
import Derived.Lib.SplitLaws
import Derived.Lib.CountLaws
import Derived.Lib.IndexMore
import Derived.Lib.Split
import Derived.Lib.Join
import Derived.Lib.ItoaNum
import Derived.Laws.AppendOwn
import Derived.Test.YthejgholpkeldaaGreatDoorShelfT
import Derived.Test.YthejgholpkeldaaGreatDoorYCmpC
namespace Go.Proofs.YthejgholpkeldaaGreatDoor
open Go.RowKit
set_option maxRecDepth 100000

set_option maxHeartbeats 8000000 in
theorem r3compare_walk (a b : ByteArray) (w : World) (ha : a.size ≤ 9223372036854775807) (hb : b.size ≤ 9223372036854775807) :
    Calls Tryz.prog 22 #[.string a, .string b] w fun e w' => e = .returned (.int .i64 (compareV a.data.toList b.data.toList)) ∧ Below w.heap.size w w' := by
  obtain ⟨V, hV⟩ : ∃ V, compareV a.data.toList b.data.toList = V := ⟨_, rfl⟩
  rw [hV]
  have hcS := r3order_walk a b
  rw [toList_dataL, toList_dataL] at hcS
  replace hcS := hide hcS
  go_enter Tryz.func22, Tryz.ntmps22
  go_wp2
  go_loopw [5, 6] (fun x y wr => CmpSt a b V w x y wr) (fun x _ _ => szV x)
  case atStart => exact ⟨a, b, a.size, rfl, rfl, Nat.le_refl _, ha, hb, by rw [← hV]; unfold compareV; rw [len_size], Below.refl _ _⟩
  case round =>
    obtain ⟨X, Y, n, rfl, rfl, hn, hX, hY, hF, hbw⟩ := hrel
    by_cases h0 : 0 < X.size ∧ 0 < Y.size
    · obtain ⟨hx0, hy0⟩ := h0
      have ex := empty_no hx0
      have ey := empty_no hy0
      obtain ⟨n', rfl, hnx⟩ := cmpF_next (a := a.data.toList) (b := b.data.toList) (ne_size hx0) (ne_size hy0) (by rw [len_size]; exact hn)
      rw [hF] at hnx
      have lx := elemN_le X.data.toList (by rw [len_size]; exact hx0)
      have ly := elemN_le Y.data.toList (by rw [len_size]; exact hy0)
      rw [len_size] at lx ly
      have w1 := fun (w : World) => r3element_walk X w hx0 hX
      have w2 := fun (w : World) => r3element_walk Y w hy0 hY
      unfold R3Elem at w1 w2
      obtain ⟨p, hp⟩ : ∃ p, elemN X.data.toList = p := ⟨_, rfl⟩
      obtain ⟨q, hq⟩ : ∃ q, elemN Y.data.toList = q := ⟨_, rfl⟩
      rw [hp] at lx w1 hnx
      rw [hq] at ly w2 hnx
      replace w1 := hide w1
      replace w2 := hide w2
      replace hnx := hide hnx
      clear hp hq hF
      go_wp2_with (first | (go_at_call 46; first | (with_reducible refine (w1.out _).mono ?_; rintro e y1 ⟨P, X', rfl, hP, hX', hb1⟩) | (with_reducible refine (w2.out _).mono ?_; rintro e y2 ⟨Q, Y', rfl, hQ, hY', hb2⟩)))
      have hbn := ext_trans hbw (ext_trans hb1 hb2)
      have hPs : P.size = p := by have := congrArg List.length hP; rw [len_size, List.length_take, len_size] at this; omega
      have hQs : Q.size = q := by have := congrArg List.length hQ; rw [len_size, List.length_take, len_size] at this; omega
      have zx : X'.size = X.size - p := by have := congrArg List.length hX'; rw [len_size, List.length_drop, len_size] at this; exact this
      have zy : Y'.size = Y.size - q := by have := congrArg List.length hY'; rw [len_size, List.length_drop, len_size] at this; exact this
      have hp0 : 0 < P.size := by omega
      have hq0 : 0 < Q.size := by omega
      have hA := dg0_of hp0
      have hB := dg0_of hq0
      have hnx2 := hnx.out
      rw [← hP, ← hQ, ← hX', ← hY'] at hnx2
      obtain ⟨c, hc⟩ : ∃ c, P[0].toNat = c := ⟨_, rfl⟩
      obtain ⟨d, hd⟩ : ∃ d, Q[0].toNat = d := ⟨_, rfl⟩
      rw [hc] at hA
      rw [hd] at hB
      have hE : elemC P.data.toList Q.data.toList = if dg0 P.data.toList = true then (if dg0 Q.data.toList = true then numC (bareL P.data.toList) (bareL Q.data.toList) else -1) else if dg0 Q.data.toList = true then 1 else ordL P.data.toList Q.data.toList := rfl
      obtain ⟨E, hEE⟩ : ∃ E, elemC P.data.toList Q.data.toList = E := ⟨_, rfl⟩
      rw [hEE] at hE hnx2
      obtain ⟨x, hx⟩ : ∃ x, dg0 P.data.toList = x := ⟨_, rfl⟩
      obtain ⟨y, hy⟩ : ∃ y, dg0 Q.data.toList = y := ⟨_, rfl⟩
      rw [hx] at hA hE
      rw [hy] at hB hE
      have d1 := hide (fun (U : World) (hU : Below y2.heap.size y2 U) => (r3digN_at hA U).mono fun e w' ⟨he, hb⟩ => (⟨he, hb ▸ hU⟩ : e = Ending.returned (.bool x) ∧ Below y2.heap.size y2 w'))
      have d2 := hide (fun (U : World) (hU : Below y2.heap.size y2 U) => (r3digN_at hB U).mono fun e w' ⟨he, hb⟩ => (⟨he, hb ▸ hU⟩ : e = Ending.returned (.bool y) ∧ Below y2.heap.size y2 w'))
      have hrefl := Below.refl y2.heap.size y2
      have hord := r3order_walk P Q
      rw [toList_dataL, toList_dataL] at hord
      replace hord := hide hord
      have hbP := hide (fun (w : World) => bare_walk P w)
      have hbQ := hide (fun (w : World) => bare_walk Q w)
      have hp1 : (0 : Int) < (P.size : Int) := by omega
      have hq1 : (0 : Int) < (Q.size : Int) := by omega
      replace hE := hide hE
      replace hnx2 := hide hnx2
      clear hnx hx hy hA hB hEE hb1 hb2 hbw w1 w2 hP hQ hX' hY' ex ey hPs hQs
      go_upto_region 6 with fail
      go_cut [9, 10] (fun s1 s2 W' => s1 = .bool x ∧ s2 = .bool y ∧ Below w.heap.size w W')
      case first =>
        go_region_held3 (fun W' => True) (first | trivial) (first | (go_at_call 47; (with_reducible refine (d1.out _ ?_).mono ?_); (repeat (first | (with_reducible assumption) | (with_reducible refine ext_alloc ?_ _) | (with_reducible refine ext_drew ?_))); rintro e y3 ⟨rfl, hb3⟩) | (go_at_call 47; (with_reducible refine (d2.out _ ?_).mono ?_); (repeat (first | (with_reducible assumption) | (with_reducible refine ext_alloc ?_ _) | (with_reducible refine ext_drew ?_))); rintro e y4 ⟨rfl, hb4⟩))
        all_goals
          go_wp2_with fail
          go_meet
          exact ⟨rfl, rfl, by first | exact ext_trans hbn hb4 | exact ext_drew (ext_trans hbn hb4)⟩
      case rest =>
        clear d1 d2 hrefl hbn
        obtain ⟨rfl, rfl, hbm⟩ := hcut
        cases x with
        | true =>
          cases y with
          | true =>
            go_wp2_with (first | (go_at_call 48; first | (with_reducible refine (hbP.out _).mono ?_; rintro e y5 ⟨U, rfl, hU, rfl⟩) | (with_reducible refine (hbQ.out _).mono ?_; rintro e y6 ⟨T, rfl, hT, rfl⟩)))
            have hEn : E = numC U.data.toList T.data.toList := by rw [hE.out, hU, hT]; rfl
            unfold numC at hEn
            rw [len_size, len_size] at hEn
            have ho := r3order_walk U T
            rw [toList_dataL, toList_dataL] at ho
            obtain ⟨v, hv⟩ : ∃ v, ordL U.data.toList T.data.toList = v := ⟨_, rfl⟩
            rw [hv] at ho hEn
            clear hE hU hT hv hord hbP hbQ hcS
            refine (ho _).mono ?_
            rintro e y7 ⟨rfl, rfl⟩
            clear ho
            by_cases h1 : U.size < T.size
            · obtain rfl : E = -1 := hEn.trans (if_pos h1)
              have hn : Hid (V = -1) := hide (hnx2.out.trans (if_pos (by decide)))
              have h1i : (U.size : Int) < (T.size : Int) := by omega
              clear hEn hnx2
              go_wp2
              all_goals first | (exfalso; omega) | (go_ret; exact ⟨by rw [hn.out]; rfl, hbm⟩)
            · by_cases h2 : T.size < U.size
              · obtain rfl : E = 1 := hEn.trans ((if_neg h1).trans (if_pos h2))
                have hn : Hid (V = 1) := hide (hnx2.out.trans (if_pos (by decide)))
                clear hEn hnx2
                go_wp2
                all_goals first | (exfalso; omega) | (go_ret; exact ⟨by rw [hn.out]; rfl, hbm⟩)
              · obtain rfl : E = v := hEn.trans ((if_neg h1).trans (if_neg h2))
                clear hEn
                (by_cases hz : E = 0; all_goals (first | (have hn : Hid (V = cmpF a.data.toList b.data.toList n' X'.data.toList Y'.data.toList) := hide (hnx2.out.trans (if_neg (fun h => h hz))); subst hz; clear hnx2; go_wp2_with fail; go_roundw; (case rel => exact ⟨_, _, n', rfl, rfl, by omega, by omega, by omega, hn.out.symm, hbm⟩); (case measure => simp only [szV]; omega)) | (have hn : Hid (V = E) := hide (hnx2.out.trans (if_pos hz)); clear hnx2; go_wp2; all_goals first | (exfalso; omega) | (go_ret; exact ⟨by rw [hn.out]; rfl, hbm⟩))))
          | false =>
            obtain rfl : E = -1 := hE.out.trans rfl
            have hn : Hid (V = -1) := hide (hnx2.out.trans (if_pos (by decide)))
            clear hE hnx2 hord hbP hbQ hcS
            go_wp2
            go_ret
            exact ⟨by rw [hn.out]; rfl, hbm⟩
        | false =>
          cases y with
          | true =>
            obtain rfl : E = 1 := hE.out.trans rfl
            have hn : Hid (V = 1) := hide (hnx2.out.trans (if_pos (by decide)))
            clear hE hnx2 hord hbP hbQ hcS
            go_wp2
            go_ret
            exact ⟨by rw [hn.out]; rfl, hbm⟩
          | false =>
            have hEn : E = ordL P.data.toList Q.data.toList := hE.out.trans rfl
            have ho := hord.out
            rw [← hEn] at ho
            replace ho := hide ho
            clear hE hEn hord hbP hbQ hcS
            go_wp2_with fail
            refine (ho.out _).mono ?_
            rintro e y7 ⟨rfl, rfl⟩
            clear ho
            (by_cases hz : E = 0; all_goals (first | (have hn : Hid (V = cmpF a.data.toList b.data.toList n' X'.data.toList Y'.data.toList) := hide (hnx2.out.trans (if_neg (fun h => h hz))); subst hz; clear hnx2; go_wp2_with fail; go_roundw; (case rel => exact ⟨_, _, n', rfl, rfl, by omega, by omega, by omega, hn.out.symm, hbm⟩); (case measure => simp only [szV]; omega)) | (have hn : Hid (V = E) := hide (hnx2.out.trans (if_pos hz)); clear hnx2; go_wp2; all_goals first | (exfalso; omega) | (go_ret; exact ⟨by rw [hn.out]; rfl, hbm⟩))))
    · have hfe : cmpF a.data.toList b.data.toList n X.data.toList Y.data.toList = endC a.data.toList b.data.toList X.data.toList Y.data.toList := cmpF_end (by
        by_cases hx : X.size = 0
        · exact .inl (nil_size hx)
        · exact .inr (nil_size (by omega)))
      rw [hF] at hfe
      unfold endC at hfe
      by_cases hx : X.size = 0
      · have ex := empty_yes hx
        rw [if_pos (nil_size hx)] at hfe
        by_cases hy : Y.size = 0
        · have ey := empty_yes hy
          rw [if_pos (nil_size hy)] at hfe
          rw [← hfe] at hcS
          clear hfe hF
          go_wp2_with (go_at_call 49; refine (hcS.out _).mono ?_; rintro e w' ⟨rfl, rfl⟩)
          go_ret
          exact ⟨rfl, hbw⟩
        · have ey := empty_no (by omega : 0 < Y.size)
          rw [if_neg (ne_size (by omega))] at hfe
          have hn : Hid (V = -1) := hide hfe
          clear hfe hF hcS
          go_wp2
          go_ret
          exact ⟨by rw [hn.out]; rfl, hbw⟩
      · have ex := empty_no (by omega : 0 < X.size)
        have hy : Y.size = 0 := by omega
        have ey := empty_yes hy
        rw [if_neg (ne_size (by omega)), if_pos (nil_size hy)] at hfe
        have hn : Hid (V = 1) := hide hfe
        clear hfe hF hcS
        go_wp2
        go_ret
        exact ⟨by rw [hn.out]; rfl, hbw⟩
end Go.Proofs.YthejgholpkeldaaGreatDoor
