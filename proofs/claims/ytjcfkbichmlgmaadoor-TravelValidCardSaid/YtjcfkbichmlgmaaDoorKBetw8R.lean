/- Walk of timetableref08.Between. Conditions: the cells. -/
import Derived.Test.YtjcfkbichmlgmaaDoorKAwake8
namespace Go.Proofs.YtjcfkbichmlgmaaDoor
open Go.RowKit
set_option maxRecDepth 100000

set_option maxHeartbeats 8000000 in
theorem r8between_walk (D A : Option Addr) (bs : List ByteArray) (xs : List (List Int)) (d c : Nat) (a b : ByteArray) (w : World) (hbl : bs.length ≤ 9223372036854775807) (_hxl : xs.length ≤ 9223372036854775807) (hrl : ∀ x ∈ xs, x.length ≤ 9223372036854775807) (hD : At kStr AnyB w D bs) (hA : At (kSlice kInt) AnyB w A xs) :
    Calls Tryd.prog 14 #[.agg #[.slice D bs.length d, .slice A xs.length c], .string a, .string b] w fun e w' => e = .returned (.int .i64 (betV bs xs a b)) ∧ Below w.heap.size w w' := by
  have hb0 : Below w.heap.size w (w.alloc (.cells #[.slice D bs.length d, .slice A xs.length c] 25)) := (by repeat (first | exact Below.refl _ _ | refine ext_alloc ?_ _ | refine ext_drewN ?_ _ | refine ext_drew ?_ | refine ext_trans ?_ (by assumption)))
  have p0 : TBox (w.alloc (.cells #[.slice D bs.length d, .slice A xs.length c] 25)) w.heap.size (.slice D bs.length d) (.slice A xs.length c) := heap_alloc_new _ _
  obtain ⟨W, hW⟩ : ∃ W, w.alloc (.cells #[.slice D bs.length d, .slice A xs.length c] 25) = W := ⟨_, rfl⟩
  obtain ⟨p, hp⟩ : ∃ p, w.heap.size = p := ⟨_, rfl⟩
  rw [hW] at hb0 p0
  rw [hp] at p0
  have hDW := hD.later hb0
  have hAW := hA.later hb0
  obtain ⟨V, hV⟩ : ∃ V, betV bs xs a b = V := ⟨_, rfl⟩
  rw [hV]
  obtain ⟨x0, hx0⟩ : ∃ x, idxS a bs = x := ⟨_, rfl⟩
  obtain ⟨y0, hy0⟩ : ∃ y, idxS b bs = y := ⟨_, rfl⟩
  obtain ⟨e0, e1, -, -⟩ := tbox_cells p0
  have hpl := blk_lt p0
  have s1 := hide (fun (U : World) (hU : Below W.heap.size W U) => (r8place_walk D bs d a U hbl (hDW.later hU)).mono fun e w' ⟨he, hb⟩ => (⟨by rw [he, hx0], hb ▸ hU, tbox_later p0 (hb ▸ hU)⟩ : e = Ending.returned (.int .i64 x0) ∧ Below W.heap.size W w' ∧ TBox w' p (.slice D bs.length d) (.slice A xs.length c)))
  have s2 := hide (fun (U : World) (hU : Below W.heap.size W U) => (r8place_walk D bs d b U hbl (hDW.later hU)).mono fun e w' ⟨he, hb⟩ => (⟨by rw [he, hy0], hb ▸ hU, tbox_later p0 (hb ▸ hU)⟩ : e = Ending.returned (.int .i64 y0) ∧ Below W.heap.size W w' ∧ TBox w' p (.slice D bs.length d) (.slice A xs.length c)))
  have hrefl := Below.refl W.heap.size W
  replace hW := hide hW
  replace hp := hide hp
  replace hrl := hide hrl
  clear hD hA hDW
  go_enter Tryd.func14, Tryd.ntmps14
  go_upto_region 1 with fail
  rw [hW.out, hp.out]
  go_region_held3 (fun W' => W'.cell? ⟨p, 0, none⟩ = some (.slice D bs.length d)) (first | with_reducible assumption | exact (tbox_cells (by assumption)).1) (first | (go_at_call 27; (with_reducible refine (s1.out _ ?_).mono ?_); (repeat (first | (with_reducible assumption) | (with_reducible refine ext_alloc ?_ _) | (with_reducible refine ext_drew ?_))); rintro e w6 ⟨rfl, hb6, hx6⟩; have q6 := (tbox_cells hx6).1) | (go_at_call 27; (with_reducible refine (s2.out _ ?_).mono ?_); (repeat (first | (with_reducible assumption) | (with_reducible refine ext_alloc ?_ _) | (with_reducible refine ext_drew ?_))); rintro e w7 ⟨rfl, hb7, hx7⟩; have q7 := (tbox_cells hx7).1))
  have hbw := ext_trans hb0 hb7
  obtain ⟨-, e7, -, -⟩ := tbox_cells hx7
  have hpl7 := blk_lt hx7
  have hAw := hAW.later hb7
  clear hb0 hb6 hb7 hx6 hx7 q6 s1 s2 hrefl hW hp p0 e0 e1 hpl hAW
  cases hs : sameS a b with
  | true =>
    have hVV : Hid (V = 0) := hide (hV.symm.trans (betV_same hs))
    have hq : (a.toList == b.toList) = true := hs
    clear hV hx0 hy0 hAw hs
    go_wp2
    all_goals first | (exfalso; omega) | (go_ret; exact ⟨by rw [hVV.out]; rfl, hbw⟩)
  | false =>
    have hq : (a.toList == b.toList) = false := hs
    by_cases g0 : x0 < 0
    · have hVV : Hid (V = 0) := hide (hV.symm.trans (betV_i hs (by rw [hx0]; exact g0)))
      clear hV hx0 hy0 hAw hs
      go_wp2
      all_goals first | (exfalso; omega) | (go_ret; exact ⟨by rw [hVV.out]; rfl, hbw⟩)
    · by_cases g1 : y0 < 0
      · have hVV : Hid (V = 0) := hide (hV.symm.trans (betV_k hs (by rw [hx0]; exact g0) (by rw [hy0]; exact g1)))
        clear hV hx0 hy0 hAw hs
        go_wp2
        all_goals first | (exfalso; omega) | (go_ret; exact ⟨by rw [hVV.out]; rfl, hbw⟩)
      · obtain ⟨i, rfl⟩ := Int.eq_ofNat_of_zero_le (by omega : 0 ≤ x0)
        obtain ⟨k, rfl⟩ := Int.eq_ofNat_of_zero_le (by omega : 0 ≤ y0)
        have hbv := hV.symm.trans (betV_ik (xs := xs) hs hx0 hy0)
        have hi0 : (0 : Int) ≤ (i : Int) := by omega
        have hk0 : (0 : Int) ≤ (k : Int) := by omega
        clear hV hx0 hy0 hs
        by_cases hi : i < xs.length
        · obtain ⟨row, hrow⟩ : ∃ row, xs[i]? = some row := ⟨_, List.getElem?_eq_getElem hi⟩
          rw [hrow] at hbv
          dsimp only at hbv
          obtain ⟨ab, off, F, fc, rfl, -, hab, k0, -, hF⟩ := hAw.slice hrow
          have hi1 : (i : Int) < (xs.length : Int) := by omega
          have hrl2 := hrl.out row (List.mem_of_getElem? hrow)
          clear hrow hAw
          by_cases hk : k < row.length
          · obtain ⟨x, hx⟩ : ∃ x, row[k]? = some x := ⟨_, List.getElem?_eq_getElem hk⟩
            rw [hx] at hbv
            dsimp only at hbv
            obtain ⟨fb, fo, rfl, -, hfb, k1⟩ := hF.int hx
            have hk1 : (k : Int) < (row.length : Int) := by omega
            clear hx hF
            by_cases hx1 : x = -1
            · have hVV : Hid (V = 0) := hide (hbv.trans (if_pos hx1))
              subst hx1
              clear hbv
              go_wp2
              all_goals first | (exfalso; omega) | (go_ret; exact ⟨by rw [hVV.out]; rfl, hbw⟩)
            · have hVV : Hid (V = x) := hide (hbv.trans (if_neg hx1))
              clear hbv
              go_wp2
              all_goals first | (exfalso; omega) | (go_ret; exact ⟨by rw [hVV.out]; rfl, hbw⟩)
          · rw [List.getElem?_eq_none (by omega)] at hbv
            have hVV : Hid (V = 0) := hide hbv
            have hk1 : ¬ (k : Int) < (row.length : Int) := by omega
            clear hbv hF
            go_wp2
            all_goals first | (exfalso; omega) | (go_ret; exact ⟨by rw [hVV.out]; rfl, hbw⟩)
        · rw [List.getElem?_eq_none (by omega)] at hbv
          have hVV : Hid (V = 0) := hide hbv
          have hi1 : ¬ (i : Int) < (xs.length : Int) := by omega
          clear hbv hAw
          go_wp2
          all_goals first | (exfalso; omega) | (go_ret; exact ⟨by rw [hVV.out]; rfl, hbw⟩)
end Go.Proofs.YtjcfkbichmlgmaaDoor
