/- The statement TravelValid: its walk. Conditions: the cells. -/
import Derived.Test.YtjcfkbichmlgmaaDoorKAwake8
import Derived.Test.YtjcfkbichmlgmaaDoorKWrite8R
import Derived.Test.YtjcfkbichmlgmaaDoorKCloseAny
import Derived.Test.YtjcfkbichmlgmaaDoorKBetw8R
import Derived.Test.YtjcfkbichmlgmaaDoorKSameT
namespace Go.Proofs.YtjcfkbichmlgmaaDoor
open Go.RowKit
set_option maxRecDepth 100000

def Three (l : List (List ByteArray)) : Prop := ∀ r ∈ l, r.length = 3
theorem three_app {bs : List ByteArray} {xs : List (List Int)} {i k : Nat} {l : List (List ByteArray)} (h : Three l) : Three (appW bs xs i k l) := by
  unfold appW
  split
  · exact h
  · intro r hr
    rcases List.mem_append.1 hr with hr | hr
    · exact h r hr
    · obtain rfl := List.mem_singleton.1 hr; rfl
theorem three_in {bs : List ByteArray} {xs : List (List Int)} {i : Nat} : ∀ (q : Nat) {l : List (List ByteArray)}, Three l → Three (wrIn bs xs i q l)
  | 0, _, h => h
  | q + 1, l, h => by rw [wrIn_next]; exact three_app (three_in q h)
theorem three_to {bs : List ByteArray} {xs : List (List Int)} {n : Nat} : ∀ q : Nat, Three (wrTo bs xs n q)
  | 0 => fun r hr => by cases hr
  | q + 1 => by rw [wrTo_next]; exact three_in _ (three_to q)
theorem three_write (bs : List ByteArray) (xs : List (List Int)) : Three (writeV bs xs) := by
  unfold writeV
  split
  · exact three_to _
  · intro r hr; cases hr
set_option maxHeartbeats 16000000 in
theorem valid8_walk (D A : Option Addr) (bs : List ByteArray) (xs : List (List Int)) (d c : Nat) (a b : ByteArray) (w : World) (hd : bs.length ≤ d) (hbl : bs.length ≤ 9223372036854775807) (hxl : xs.length ≤ 9223372036854775807) (hrl : ∀ x ∈ xs, x.length ≤ 9223372036854775807)
    (hD : At kStr (· < w.heap.size) w D bs) (hA : At (kSlice kInt) (· < w.heap.size) w A xs) :
    Calls Tryd.prog 3 #[.agg #[.slice D bs.length d, .slice A xs.length c], .string a, .string b] w fun e w' => e = .returned (.bool true) ∧ Below w.heap.size w w' := by
  have hb0 : Below w.heap.size w (w.alloc (.cells #[.slice D bs.length d, .slice A xs.length c] 25)) := (by repeat (first | exact Below.refl _ _ | refine ext_alloc ?_ _ | refine ext_drewN ?_ _ | refine ext_drew ?_ | refine ext_trans ?_ (by assumption)))
  have p0 : TBox (w.alloc (.cells #[.slice D bs.length d, .slice A xs.length c] 25)) w.heap.size (.slice D bs.length d) (.slice A xs.length c) := heap_alloc_new _ _
  obtain ⟨W, hW⟩ : ∃ W, w.alloc (.cells #[.slice D bs.length d, .slice A xs.length c] 25) = W := ⟨_, rfl⟩
  obtain ⟨p, hp⟩ : ∃ p, w.heap.size = p := ⟨_, rfl⟩
  rw [hW] at hb0 p0
  rw [hp] at p0
  have hDW := (hD.below hb0).up hb0.size
  have hAW := (hA.below hb0).up hb0.size
  have hw1 := fun (V : World) (hV : Below W.heap.size W V) => twrite_walk D A bs xs d c V hbl hxl hd ((hDW.below hV).up hV.size) ((hAW.below hV).up hV.size)
  have hw2 := fun (V : World) (hV : Below W.heap.size W V) => r8write_walk D A bs xs d c V hbl hxl hrl ((hDW.below hV).up hV.size) ((hAW.below hV).up hV.size)
  have hc1 := fun (V : World) (hV : Below W.heap.size W V) => tclose_any D A bs xs d c V hbl hxl hd (hDW.below hV).any (hAW.below hV).any
  have hc2 := fun (V : World) (hV : Below W.heap.size W V) => r8close_any D A bs xs d c V hbl hxl hd hrl (hDW.below hV).any (hAW.below hV).any
  have hv1 := fun (V : World) (hV : Below W.heap.size W V) => tvalid_walk D A bs xs d c V hbl hxl hd (hDW.below hV).any (hAW.below hV).any
  have hv2 := fun (V : World) (hV : Below W.heap.size W V) => r8valid_walk D A bs xs d c V hbl hxl hrl (hDW.below hV).any (hAW.below hV).any
  have hb1 := fun (V : World) (hV : Below W.heap.size W V) => tbetween_walk D A bs xs d c a b V hbl hxl hrl (hDW.below hV).any (hAW.below hV).any
  have hb2 := fun (V : World) (hV : Below W.heap.size W V) => r8between_walk D A bs xs d c a b V hbl hxl hrl (hDW.below hV).any (hAW.below hV).any
  unfold Write8 at hw1 hw2
  unfold CloseAny at hc1 hc2
  have h3 := three_write bs xs
  have hcl : (clB bs xs).length ≤ 9223372036854775807 ∧ (clX bs xs).length ≤ 9223372036854775807 ∧ ∀ x ∈ clX bs xs, x.length ≤ 9223372036854775807 := by
    unfold clB clX
    by_cases hV : validT bs xs = 0
    · obtain ⟨h8, hB⟩ := validT_ok hV
      have hsq : Sq bs.length (closeF bs.length xs) := sq_cap _ (hB.to _ (Nat.le_refl _)).sq
      rw [if_pos hV, if_pos hV]
      exact ⟨hbl, by rw [hsq.1]; exact hbl, fun x hx => by rw [hsq.2 x hx]; exact hbl⟩
    · rw [if_neg hV, if_neg hV]
      exact ⟨Nat.zero_le _, Nat.zero_le _, fun x hx => by cases hx⟩
  obtain ⟨V, hV⟩ : ∃ V, validT bs xs = V := ⟨_, rfl⟩
  obtain ⟨R, hR⟩ : ∃ R, writeV bs xs = R := ⟨_, rfl⟩
  obtain ⟨B, hB⟩ : ∃ B, betV bs xs a b = B := ⟨_, rfl⟩
  obtain ⟨cb, hcb⟩ : ∃ cb, clB bs xs = cb := ⟨_, rfl⟩
  obtain ⟨cx, hcx⟩ : ∃ cx, clX bs xs = cx := ⟨_, rfl⟩
  rw [hV, hR] at hw1 hw2
  rw [hV, hcb, hcx] at hc1 hc2
  rw [hV] at hv1 hv2
  rw [hB] at hb1 hb2
  rw [hR] at h3
  rw [hcb, hcx] at hcl
  obtain ⟨n, hn⟩ : ∃ n, bs.length = n := ⟨_, rfl⟩
  obtain ⟨m, hm⟩ : ∃ m, xs.length = m := ⟨_, rfl⟩
  rw [hn, hm] at p0 hw1 hw2 hc1 hc2 hv1 hv2 hb1 hb2 hW ⊢
  replace hw1 := hide hw1
  replace hw2 := hide hw2
  replace hc1 := hide hc1
  replace hc2 := hide hc2
  replace hv1 := hide hv1
  replace hv2 := hide hv2
  replace hb1 := hide hb1
  replace hb2 := hide hb2
  replace h3 := hide h3
  replace hcl := hide hcl
  replace hW := hide hW
  replace hp := hide hp
  obtain ⟨e0, e1, -, -⟩ := tbox_cells p0
  have hpl := blk_lt p0
  clear hD hA hDW hAW hV hR hB hcb hcx hn hm hd hbl hxl hrl
  by_cases h40 : 40 < n
  · go_enter Tryd.func3, Tryd.ntmps3
    go_wp2_with fail
    rw [hW.out]
    refine (awake08_walk W).mono ?_
    rintro e w1 ⟨rfl, hb1⟩
    go_wp2
    go_ret
    exact ⟨rfl, ext_trans hb0 hb1⟩
  · have hrefl := Below.refl W.heap.size W
    go_enter Tryd.func3, Tryd.ntmps3
    go_wp2_with fail
    rw [hW.out, hp.out]
    refine (hw1.out W hrefl).mono ?_
    rintro e w1 ⟨v1, rfl, hR1, hb3⟩
    clear e0 e1 hw1 hrefl
    replace p0 := tbox_later p0 hb3
    obtain ⟨e0, e1, -, -⟩ := tbox_cells p0
    have hpl := blk_lt p0
    go_wp2_with fail
    refine (hw2.out w1 hb3).mono ?_
    rintro e w2 ⟨v2, rfl, hR2, hb4⟩
    clear e0 e1 hw2
    replace p0 := tbox_later p0 hb4
    replace hR1 := hR1.later hb4
    replace hb3 := ext_trans hb3 hb4
    obtain ⟨e0, e1, -, -⟩ := tbox_cells p0
    have hpl := blk_lt p0
    clear hb4
    go_wp2_with fail
    refine (hc1.out w2 hb3).mono ?_
    rintro e w3 ⟨D1, d1, A1, c1, rfl, hD1, hA1, hb4⟩
    clear e0 e1 hc1
    obtain ⟨nu, hnu⟩ : ∃ nu, cb.length = nu := ⟨_, rfl⟩
    obtain ⟨mu, hmu⟩ : ∃ mu, cx.length = mu := ⟨_, rfl⟩
    rw [hnu, hmu]
    rw [hnu, hmu] at hc2
    replace p0 := tbox_later p0 hb4
    replace hR1 := hR1.later hb4
    replace hR2 := hR2.later hb4
    replace hb3 := ext_trans hb3 hb4
    have u0 : TBox (w3.alloc (.cells #[.slice D1 nu d1, .slice A1 mu c1] 25)) w3.heap.size (.slice D1 nu d1) (.slice A1 mu c1) := heap_alloc_new _ _
    have hb5 : Below w3.heap.size w3 (w3.alloc (.cells #[.slice D1 nu d1, .slice A1 mu c1] 25)) := ext_alloc (Below.refl _ _) _
    obtain ⟨w4, hw4⟩ : ∃ w4, w3.alloc (.cells #[.slice D1 nu d1, .slice A1 mu c1] 25) = w4 := ⟨_, rfl⟩
    obtain ⟨gu, hgu⟩ : ∃ g, w3.heap.size = g := ⟨_, rfl⟩
    rw [hw4] at u0 hb5
    rw [hgu] at u0
    have hb5' := hw4 ▸ hb5
    replace p0 := tbox_later p0 hb5
    replace hR1 := hR1.later hb5
    replace hR2 := hR2.later hb5
    replace hD1 := hD1.later hb5
    replace hA1 := hA1.later hb5
    replace hb3 := ext_trans hb3 hb5
    replace hw4 := hide hw4
    replace hgu := hide hgu
    replace hnu := hide hnu
    replace hmu := hide hmu
    clear hb4 hb5 hb5'
    go_upto_region 6 with fail
    rw [hw4.out, hgu.out]
    clear hw4
    obtain ⟨e0, e1, -, -⟩ := tbox_cells p0
    have hpl := blk_lt p0
    go_wp2_with fail
    refine (hc2.out w4 hb3).mono ?_
    rintro e w5 ⟨D2, d2, A2, c2, rfl, hD2, hA2, hb4⟩
    clear e0 e1 hc2
    replace p0 := tbox_later p0 hb4
    replace u0 := tbox_later u0 hb4
    replace hR1 := hR1.later hb4
    replace hR2 := hR2.later hb4
    replace hD1 := hD1.later hb4
    replace hA1 := hA1.later hb4
    replace hb3 := ext_trans hb3 hb4
    have x0 : TBox (w5.alloc (.cells #[.slice D2 nu d2, .slice A2 mu c2] 25)) w5.heap.size (.slice D2 nu d2) (.slice A2 mu c2) := heap_alloc_new _ _
    have hb5 : Below w5.heap.size w5 (w5.alloc (.cells #[.slice D2 nu d2, .slice A2 mu c2] 25)) := ext_alloc (Below.refl _ _) _
    obtain ⟨w6, hw6⟩ : ∃ w6, w5.alloc (.cells #[.slice D2 nu d2, .slice A2 mu c2] 25) = w6 := ⟨_, rfl⟩
    obtain ⟨gv, hgv⟩ : ∃ g, w5.heap.size = g := ⟨_, rfl⟩
    rw [hw6] at x0 hb5
    rw [hgv] at x0
    replace p0 := tbox_later p0 hb5
    replace u0 := tbox_later u0 hb5
    replace hR1 := hR1.later hb5
    replace hR2 := hR2.later hb5
    replace hD1 := hD1.later hb5
    replace hA1 := hA1.later hb5
    replace hD2 := hD2.later hb5
    replace hA2 := hA2.later hb5
    replace hb3 := ext_trans hb3 hb5
    replace hw6 := hide hw6
    replace hgv := hide hgv
    clear hb4 hb5
    go_upto_region 7 with fail
    rw [hw6.out, hgv.out]
    clear hw6
    obtain ⟨Aa, ca, rfl, -, hAa⟩ := hR1.any
    obtain ⟨Ab, cc, rfl, -, hAb⟩ := hR2.any
    have hRl : R.length ≤ 9223372036854775807 := hR1.le
    obtain ⟨p1, p2, -, -⟩ := tbox_cells p0
    obtain ⟨u1, u2, -, -⟩ := tbox_cells u0
    obtain ⟨x1, x2, -, -⟩ := tbox_cells x0
    have hpl := blk_lt p0
    have hul := blk_lt u0
    have hxl := blk_lt x0
    have hC : Cn6 p 0 (.slice D n d) p 1 (.slice A m c) gu 0 (.slice D1 nu d1) gu 1 (.slice A1 mu c1) gv 0 (.slice D2 nu d2) gv 1 (.slice A2 mu c2) w6 := ⟨p1, p2, u1, u2, x1, x2⟩
    have ha := hide (fun (V : World) (hV : Below w6.heap.size w6 V) => (awake08_walk V).mono fun e w' ⟨he, hb⟩ => (⟨he, ext_trans hV hb, hC.later (ext_trans hV hb)⟩ : e = Ending.returned (.bool true) ∧ Below w6.heap.size w6 w' ∧ Cn6 p 0 (.slice D n d) p 1 (.slice A m c) gu 0 (.slice D1 nu d1) gu 1 (.slice A1 mu c1) gv 0 (.slice D2 nu d2) gv 1 (.slice A2 mu c2) w'))
    have g1 := hide (fun (U : World) (hU : Below w6.heap.size w6 U) => (hv1.out U (ext_trans hb3 hU)).mono fun e w' ⟨he, hb⟩ => (⟨he, ext_trans hU hb, hC.later (ext_trans hU hb)⟩ : e = Ending.returned (.int .i64 V) ∧ Below w6.heap.size w6 w' ∧ Cn6 p 0 (.slice D n d) p 1 (.slice A m c) gu 0 (.slice D1 nu d1) gu 1 (.slice A1 mu c1) gv 0 (.slice D2 nu d2) gv 1 (.slice A2 mu c2) w'))
    have g2 := hide (fun (U : World) (hU : Below w6.heap.size w6 U) => (hv2.out U (ext_trans hb3 hU)).mono fun e w' ⟨he, hb⟩ => (⟨he, ext_trans hU hb, hC.later (ext_trans hU hb)⟩ : e = Ending.returned (.int .i64 V) ∧ Below w6.heap.size w6 w' ∧ Cn6 p 0 (.slice D n d) p 1 (.slice A m c) gu 0 (.slice D1 nu d1) gu 1 (.slice A1 mu c1) gv 0 (.slice D2 nu d2) gv 1 (.slice A2 mu c2) w'))
    have g3 := hide (fun (U : World) (hU : Below w6.heap.size w6 U) => (r2SameL_walk Aa Ab R ca cc U hRl (fun r hr => by rw [h3.out r hr]; decide) (hAa.any.later hU) (hAb.any.later hU)).mono fun e w' ⟨he, hb⟩ => (⟨he, ext_trans hU hb, hC.later (ext_trans hU hb)⟩ : e = Ending.returned (.bool true) ∧ Below w6.heap.size w6 w' ∧ Cn6 p 0 (.slice D n d) p 1 (.slice A m c) gu 0 (.slice D1 nu d1) gu 1 (.slice A1 mu c1) gv 0 (.slice D2 nu d2) gv 1 (.slice A2 mu c2) w'))
    have hsame := fun (U : World) (hU : Below w6.heap.size w6 U) => r8Same_walk D1 D2 A1 A2 cb cx d1 d2 c1 c2 U hcl.out.1 hcl.out.2.1 hcl.out.2.2 (hD1.later hU) (hD2.later hU) (hA1.later hU) (hA2.later hU)
    rw [hnu.out, hmu.out] at hsame
    have g4 := hide (fun (U : World) (hU : Below w6.heap.size w6 U) => (hsame U hU).mono fun e w' ⟨he, hb⟩ => (⟨he, ext_trans hU hb, hC.later (ext_trans hU hb)⟩ : e = Ending.returned (.bool true) ∧ Below w6.heap.size w6 w' ∧ Cn6 p 0 (.slice D n d) p 1 (.slice A m c) gu 0 (.slice D1 nu d1) gu 1 (.slice A1 mu c1) gv 0 (.slice D2 nu d2) gv 1 (.slice A2 mu c2) w'))
    have g5 := hide (fun (U : World) (hU : Below w6.heap.size w6 U) => (hb1.out U (ext_trans hb3 hU)).mono fun e w' ⟨he, hb⟩ => (⟨he, ext_trans hU hb, hC.later (ext_trans hU hb)⟩ : e = Ending.returned (.int .i64 B) ∧ Below w6.heap.size w6 w' ∧ Cn6 p 0 (.slice D n d) p 1 (.slice A m c) gu 0 (.slice D1 nu d1) gu 1 (.slice A1 mu c1) gv 0 (.slice D2 nu d2) gv 1 (.slice A2 mu c2) w'))
    have g6 := hide (fun (U : World) (hU : Below w6.heap.size w6 U) => (hb2.out U (ext_trans hb3 hU)).mono fun e w' ⟨he, hb⟩ => (⟨he, ext_trans hU hb, hC.later (ext_trans hU hb)⟩ : e = Ending.returned (.int .i64 B) ∧ Below w6.heap.size w6 w' ∧ Cn6 p 0 (.slice D n d) p 1 (.slice A m c) gu 0 (.slice D1 nu d1) gu 1 (.slice A1 mu c1) gv 0 (.slice D2 nu d2) gv 1 (.slice A2 mu c2) w'))
    have hCd := hC.drew
    have hrefl := Below.refl w6.heap.size w6
    have hbf : Below w.heap.size w w6 := ext_trans hb0 hb3
    clear hR1 hR2 hAa hAb hD1 hD2 hA1 hA2 hsame hv1 hv2 hb1 hb2 p0 u0 x0 hb3
    go_region_held3 (fun W' => W'.cell? ⟨p, 0, none⟩ = some (.slice D n d) ∧ W'.cell? ⟨p, 1, none⟩ = some (.slice A m c) ∧ W'.cell? ⟨gu, 0, none⟩ = some (.slice D1 nu d1) ∧ W'.cell? ⟨gu, 1, none⟩ = some (.slice A1 mu c1) ∧ W'.cell? ⟨gv, 0, none⟩ = some (.slice D2 nu d2) ∧ W'.cell? ⟨gv, 1, none⟩ = some (.slice A2 mu c2)) (first | ((repeat (first | (with_reducible assumption) | (with_reducible refine Cn6.alloc ?_ _) | (with_reducible refine Cn6.drew ?_) | (with_reducible refine Cn6.set ?_ ?_ ?_ ?_ ?_ ?_ ?_ _) | omega)); done)) (first | (go_at_call 4; refine (ha.out _ (by repeat (first | (with_reducible assumption) | (with_reducible refine ext_alloc ?_ _) | (with_reducible refine ext_drew ?_)))).mono ?_; rintro e y1 ⟨rfl, hby1, hxy1⟩) | (go_at_call 9; refine (g1.out _ (by repeat (first | (with_reducible assumption) | (with_reducible refine ext_alloc ?_ _) | (with_reducible refine ext_drew ?_)))).mono ?_; rintro e y2 ⟨rfl, hby2, hxy2⟩) | (go_at_call 10; refine (g2.out _ (by repeat (first | (with_reducible assumption) | (with_reducible refine ext_alloc ?_ _) | (with_reducible refine ext_drew ?_)))).mono ?_; rintro e y3 ⟨rfl, hby3, hxy3⟩) | (go_at_call 11; refine (g3.out _ (by repeat (first | (with_reducible assumption) | (with_reducible refine ext_alloc ?_ _) | (with_reducible refine ext_drew ?_)))).mono ?_; rintro e y4 ⟨rfl, hby4, hxy4⟩) | (go_at_call 12; refine (g4.out _ (by repeat (first | (with_reducible assumption) | (with_reducible refine ext_alloc ?_ _) | (with_reducible refine ext_drew ?_)))).mono ?_; rintro e y5 ⟨rfl, hby5, hxy5⟩) | (go_at_call 13; refine (g5.out _ (by repeat (first | (with_reducible assumption) | (with_reducible refine ext_alloc ?_ _) | (with_reducible refine ext_drew ?_)))).mono ?_; rintro e y6 ⟨rfl, hby6, hxy6⟩) | (go_at_call 14; refine (g6.out _ (by repeat (first | (with_reducible assumption) | (with_reducible refine ext_alloc ?_ _) | (with_reducible refine ext_drew ?_)))).mono ?_; rintro e y7 ⟨rfl, hby7, hxy7⟩))
    all_goals
      go_wp2
      go_ret
      exact ⟨rfl, by first | exact ext_trans hbf hby7 | exact ext_drew (ext_trans hbf hby7) | exact ext_trans hbf hby6 | exact ext_drew (ext_trans hbf hby6)⟩
end Go.Proofs.YtjcfkbichmlgmaaDoor
