/- The statement StafffileValid: its walk. Conditions: the lecturers' cells; what the program's variables hold. -/
import Derived.Test.YtgoppjhjmonidaaGreatDoorKWrite9
import Derived.Test.YtgoppjhjmonidaaGreatDoorKSameL
import Derived.Test.YtgoppjhjmonidaaGreatDoorKAwake9
namespace Go.Proofs.YtgoppjhjmonidaaGreatDoor
open Go.RowKit
set_option maxRecDepth 100000

theorem rowsOf_len (d sl b m n : Int) (ls : List Lect) : ∀ x ∈ rowsOf d sl b m n ls, x.length ≤ 9223372036854775807 := by
  intro x hx
  unfold rowsOf at hx
  split at hx
  · obtain ⟨l, -, rfl⟩ := List.mem_map.1 hx
    simp [rowOf]
  · simp at hx
set_option maxHeartbeats 8000000 in
theorem valid9_walk (A : Option Addr) (ls : List Lect) (cap : Nat) (d sl b m x1 x2 x3 x4 : Int) (w : World) (hS : Std w) (hW : Wds w) (hD : Dys w) (hcap : ls.length ≤ cap) (hmax : ls.length ≤ 9223372036854775807) (hlen : ∀ l ∈ ls, l.2.length ≤ 9223372036854775807) (hL : LectsAt w.heap.size w A ls) :
    Calls Tryz.prog 4 #[.slice A ls.length cap, .agg #[.int .i64 d, .int .i64 sl, .int .i64 b, .int .i64 m], .agg #[.int .i64 x1, .int .i64 x2, .int .i64 x3, .int .i64 x4]] w fun e w' => e = .returned (.bool true) ∧ Below w.heap.size w w' := by
  have hb0 : Below w.heap.size w ((w.alloc (.cells #[.int .i64 d, .int .i64 sl, .int .i64 b, .int .i64 m] 39)).alloc (.cells #[.int .i64 x1, .int .i64 x2, .int .i64 x3, .int .i64 x4] 41)) := (by repeat (first | exact Below.refl _ _ | refine ext_alloc ?_ _ | refine ext_drewN ?_ _ | refine ext_drew ?_ | refine ext_trans ?_ (by assumption)))
  have bG := (Box4.new w 39 (.int .i64 d) (.int .i64 sl) (.int .i64 b) (.int .i64 m)).alloc (.cells #[.int .i64 x1, .int .i64 x2, .int .i64 x3, .int .i64 x4] 41)
  have bT := Box4.new (w.alloc (.cells #[.int .i64 d, .int .i64 sl, .int .i64 b, .int .i64 m] 39)) 41 (.int .i64 x1) (.int .i64 x2) (.int .i64 x3) (.int .i64 x4)
  rw [World.size_alloc] at bT
  obtain ⟨W, hWW⟩ : ∃ W, (w.alloc (.cells #[.int .i64 d, .int .i64 sl, .int .i64 b, .int .i64 m] 39)).alloc (.cells #[.int .i64 x1, .int .i64 x2, .int .i64 x3, .int .i64 x4] 41) = W := ⟨_, rfl⟩
  obtain ⟨gb, hgb⟩ : ∃ gb, w.heap.size = gb := ⟨_, rfl⟩
  have hL0 := (hL.below hb0).more hb0.size
  have hS0 := hS.after hb0
  have hW0 := hW.after hb0 hS
  have hD0 := hD.after hb0 hS
  rw [hWW] at hb0 bG bT hL0 hS0 hW0 hD0
  rw [hgb] at bG
  rw [hgb] at bT
  have hgl := bG.lt
  have htl := bT.lt
  obtain ⟨g0, g1, g2, g3⟩ := bG
  obtain ⟨t0, t1, t2, t3⟩ := bT
  clear hL hS hW hD
  obtain ⟨N, hN⟩ : ∃ N, ls.length = N := ⟨_, rfl⟩
  have hw1 := fun (V : World) (hV : Below W.heap.size W V) => sfWrite_walk A ls cap d sl b m x4 V hcap ((hL0.below hV).more hV.size)
  have hw2 := fun (V : World) (hV : Below W.heap.size W V) => r9Write_walk A ls cap d sl b m x4 V (hS0.after hV) (hW0.after hV hS0) (hD0.after hV hS0) ((hL0.below hV).more hV.size)
  have hv1 := fun (V : World) (hV : Below W.heap.size W V) => sfValid_walk A ls cap d sl b m x4 V hcap ((hL0.below hV).more hV.size)
  have hv2 := fun (V : World) (hV : Below W.heap.size W V) => r9Valid_walk A ls cap d sl b m x4 V ((hL0.below hV).more hV.size)
  have haw := fun (V : World) (hV : Below W.heap.size W V) => awake09_walk V (hS0.after hV)
  have hrl := rowsOf_len d sl b m x4 ls
  unfold WriteGives at hw1 hw2
  obtain ⟨R, hR⟩ : ∃ R, rowsOf d sl b m x4 ls = R := ⟨_, rfl⟩
  obtain ⟨E, hE⟩ : ∃ E, validV d sl b m x4 ls = E := ⟨_, rfl⟩
  rw [hN] at hw1 hw2 hv1 hv2 hmax ⊢
  rw [hR] at hrl
  simp only [hR, hE] at hw1 hw2 hv1 hv2
  replace hw1 := hide hw1
  replace hw2 := hide hw2
  replace hv1 := hide hv1
  replace hv2 := hide hv2
  replace haw := hide haw
  replace hN := hide hN
  replace hgb := hide hgb
  replace hWW := hide hWW
  replace hlen := hide hlen
  replace hrl := hide hrl
  clear hR hE hcap
  go_enter Tryz.func4, Tryz.ntmps4
  go_wp2_with fail
  rw [hWW.out, hgb.out]
  refine (hw1.out W (Below.refl _ _)).mono ?_
  rintro e w1 ⟨va, rfl, hoa, hb1⟩
  replace g0 := cell_later hb1 g0
  replace g1 := cell_later hb1 g1
  replace g2 := cell_later hb1 g2
  replace g3 := cell_later hb1 g3
  replace t0 := cell_later hb1 t0
  replace t1 := cell_later hb1 t1
  replace t2 := cell_later hb1 t2
  replace t3 := cell_later hb1 t3
  have hgl1 : gb < w1.heap.size := World.block_lt_of_cell? _ _ g0
  clear hw1
  go_wp2_with fail
  refine (hw2.out w1 hb1).mono ?_
  rintro e w2 ⟨vb, rfl, hob, hb2⟩
  replace g0 := cell_later hb2 g0
  replace g1 := cell_later hb2 g1
  replace g2 := cell_later hb2 g2
  replace g3 := cell_later hb2 g3
  replace t0 := cell_later hb2 t0
  replace t1 := cell_later hb2 t1
  replace t2 := cell_later hb2 t2
  replace t3 := cell_later hb2 t3
  replace hoa := hoa.later hb2
  have hbW : Below W.heap.size W w2 := ext_trans hb1 hb2
  have hL2 := (hL0.below hbW).more hbW.size
  have hgl2 : gb < w2.heap.size := World.block_lt_of_cell? _ _ g0
  have htl2 : gb + 1 < w2.heap.size := World.block_lt_of_cell? _ _ t0
  clear hw2 hb1 hb2 hgl1 hgl htl
  go_wp2_with fail
  go_loopw [12] (fun i wr => ∃ j : Nat, j ≤ N ∧ i = .int .i64 j ∧ Below w2.heap.size w2 wr) (fun i _ => N - (intOf i).toNat)
  case atStart => exact ⟨0, Nat.zero_le _, rfl, Below.refl _ _⟩
  case round =>
    obtain ⟨j, hj, rfl, hb⟩ := hrel
    by_cases hlt : j < N
    · obtain ⟨l, hl⟩ : ∃ l, ls[j]? = some l := ⟨_, List.getElem?_eq_getElem (by rw [hN.out]; exact hlt)⟩
      have hll := hlen.out l (List.mem_of_getElem? hl)
      obtain ⟨rb, off, rfl, hrb, hcell⟩ := (hL2.below hb) (by rw [hN.out]; omega)
      obtain ⟨T, c, q0, q1, ht⟩ := hcell j l hl
      have hz := hb.size
      obtain ⟨code, ts⟩ := l
      dsimp only at q0 q1 ht hll
      obtain ⟨k, hk⟩ : ∃ k, ts.length = k := ⟨_, rfl⟩
      rw [hk] at q1 ht hll
      have hrbr : rb < wr.heap.size := by omega
      have htr : gb + 1 < wr.heap.size := by omega
      have hC : Cn6 rb (off + j * 2) (.string code) rb (off + j * 2 + 1) (.slice T k c) (gb + 1) 0 (.int .i64 x1) (gb + 1) 1 (.int .i64 x2) (gb + 1) 2 (.int .i64 x3) (gb + 1) 3 (.int .i64 x4) wr := ⟨q0, q1, cell_later hb t0, cell_later hb t1, cell_later hb t2, cell_later hb t3⟩
      have hf1 := fun (V : World) (hV : Below wr.heap.size wr V) => (sfFree_walk (.string code) T k c (fun q => ts.getD q (0, 0, 0, 0)) x1 x2 x3 x4 V hll ((ht.below (hV.mono hz)).more (Nat.le_trans hz hV.size))).mono fun _ _ ⟨he, hb⟩ => (⟨he, ext_trans hV hb, hC.later (ext_trans hV hb)⟩ : _ ∧ Below wr.heap.size wr _ ∧ Cn6 rb (off + j * 2) (.string code) rb (off + j * 2 + 1) (.slice T k c) (gb + 1) 0 (.int .i64 x1) (gb + 1) 1 (.int .i64 x2) (gb + 1) 2 (.int .i64 x3) (gb + 1) 3 (.int .i64 x4) _)
      have hf2 := fun (V : World) (hV : Below wr.heap.size wr V) => (r9Free_walk (.string code) T k c (fun q => ts.getD q (0, 0, 0, 0)) x1 x2 x3 x4 V hll ((ht.below (hV.mono hz)).more (Nat.le_trans hz hV.size))).mono fun _ _ ⟨he, hb⟩ => (⟨he, ext_trans hV hb, hC.later (ext_trans hV hb)⟩ : _ ∧ Below wr.heap.size wr _ ∧ Cn6 rb (off + j * 2) (.string code) rb (off + j * 2 + 1) (.slice T k c) (gb + 1) 0 (.int .i64 x1) (gb + 1) 1 (.int .i64 x2) (gb + 1) 2 (.int .i64 x3) (gb + 1) 3 (.int .i64 x4) _)
      obtain ⟨f, hf⟩ : ∃ f, (!orTo (fun q => overlapB (ts.getD q (0, 0, 0, 0)).1 (ts.getD q (0, 0, 0, 0)).2.1 (ts.getD q (0, 0, 0, 0)).2.2.1 (ts.getD q (0, 0, 0, 0)).2.2.2 x1 x2 x3 x4) k) = f := ⟨_, rfl⟩
      simp only [hf] at hf1 hf2
      replace hf1 := hide hf1
      replace hf2 := hide hf2
      have hCd := hC.drew
      have hrefl := Below.refl wr.heap.size wr
      have hj0 : (0 : Int) ≤ (j : Int) := by omega
      have hj1 : (j : Int) < (N : Int) := by omega
      obtain ⟨q2, q3, q4, q5, q6, q7⟩ := id hC
      clear hcell hl hf hk ht hoa hob hL2 g0 g1 g2 g3 t0 t1 t2 t3 q0 q1
      go_wp2_with fail
      go_region_held3 (fun W' => W'.cell? ⟨rb, off + j * 2, none⟩ = some (.string code) ∧ W'.cell? ⟨rb, off + j * 2 + 1, none⟩ = some (.slice T k c) ∧ W'.cell? ⟨gb + 1, 0, none⟩ = some (.int .i64 x1) ∧ W'.cell? ⟨gb + 1, 1, none⟩ = some (.int .i64 x2) ∧ W'.cell? ⟨gb + 1, 2, none⟩ = some (.int .i64 x3) ∧ W'.cell? ⟨gb + 1, 3, none⟩ = some (.int .i64 x4)) (first | ((repeat (first | (with_reducible assumption) | (with_reducible refine Cn6.alloc ?_ _) | (with_reducible refine Cn6.drew ?_) | (with_reducible refine Cn6.set ?_ ?_ ?_ ?_ ?_ ?_ ?_ _) | omega)); done)) (first | (go_at_call 14; refine (hf1.out _ (by repeat (first | (with_reducible assumption) | (with_reducible refine ext_alloc ?_ _) | (with_reducible refine ext_drew ?_)))).mono ?_; rintro e w3 ⟨rfl, hb3, hx3⟩) | (go_at_call 15; refine (hf2.out _ (by repeat (first | (with_reducible assumption) | (with_reducible refine ext_alloc ?_ _) | (with_reducible refine ext_drew ?_)))).mono ?_; rintro e w4 ⟨rfl, hb4, hx4⟩))
      all_goals
        have hbn : Below w2.heap.size w2 w4 := by first | exact ext_trans hb hb4
        go_wp2
        go_roundw
        case rel => exact ⟨j + 1, by omega, by go_num, by first | exact ext_drew hbn | exact hbn⟩
        case measure => simp [intOf]; omega
    · obtain rfl : j = N := by omega
      replace hoa := hoa.later hb
      replace hob := hob.later hb
      obtain ⟨Aa, ca, rfl, -, hAa⟩ := hoa.any
      obtain ⟨Ab, cb, rfl, -, hAb⟩ := hob.any
      have hRl : R.length ≤ 9223372036854775807 := hoa.le
      have hC : Cn4 gb 0 (.int .i64 d) gb 1 (.int .i64 sl) gb 2 (.int .i64 b) gb 3 (.int .i64 m) wr := ⟨cell_later hb g0, cell_later hb g1, cell_later hb g2, cell_later hb g3⟩
      have hbr : Below W.heap.size W wr := ext_trans hbW hb
      have ha := hide (fun (V : World) (hV : Below wr.heap.size wr V) => (haw.out V (ext_trans hbr hV)).mono fun _ _ ⟨he, hb⟩ => (⟨he, ext_trans hV hb, hC.later (ext_trans hV hb)⟩ : _ ∧ Below wr.heap.size wr _ ∧ Cn4 gb 0 (.int .i64 d) gb 1 (.int .i64 sl) gb 2 (.int .i64 b) gb 3 (.int .i64 m) _))
      have h1 := hide (fun (V : World) (hV : Below wr.heap.size wr V) => (hv1.out V (ext_trans hbr hV)).mono fun _ _ ⟨he, hb⟩ => (⟨he, ext_trans hV hb, hC.later (ext_trans hV hb)⟩ : _ ∧ Below wr.heap.size wr _ ∧ Cn4 gb 0 (.int .i64 d) gb 1 (.int .i64 sl) gb 2 (.int .i64 b) gb 3 (.int .i64 m) _))
      have h2 := hide (fun (V : World) (hV : Below wr.heap.size wr V) => (hv2.out V (ext_trans hbr hV)).mono fun _ _ ⟨he, hb⟩ => (⟨he, ext_trans hV hb, hC.later (ext_trans hV hb)⟩ : _ ∧ Below wr.heap.size wr _ ∧ Cn4 gb 0 (.int .i64 d) gb 1 (.int .i64 sl) gb 2 (.int .i64 b) gb 3 (.int .i64 m) _))
      have h3 := hide (fun (V : World) (hV : Below wr.heap.size wr V) => (r2SameL_walk Aa Ab R ca cb V hRl hrl.out (hAa.any.later hV) (hAb.any.later hV)).mono fun _ _ ⟨he, hb⟩ => (⟨he, ext_trans hV hb, hC.later (ext_trans hV hb)⟩ : _ ∧ Below wr.heap.size wr _ ∧ Cn4 gb 0 (.int .i64 d) gb 1 (.int .i64 sl) gb 2 (.int .i64 b) gb 3 (.int .i64 m) _))
      have hCd := hC.drew
      have hrefl := Below.refl wr.heap.size wr
      have hgr : gb < wr.heap.size := by have := hb.size; omega
      have hbf : Below w.heap.size w wr := ext_trans hb0 hbr
      obtain ⟨q2, q3, q4, q5⟩ := id hC
      clear hoa hob hL0 hS0 hW0 hD0 g0 g1 g2 g3 t0 t1 t2 t3 haw hv1 hv2 hAa hAb hL2
      go_wp2_with fail
      go_region_held3 (fun W' => W'.cell? ⟨gb, 0, none⟩ = some (.int .i64 d) ∧ W'.cell? ⟨gb, 1, none⟩ = some (.int .i64 sl) ∧ W'.cell? ⟨gb, 2, none⟩ = some (.int .i64 b) ∧ W'.cell? ⟨gb, 3, none⟩ = some (.int .i64 m)) (first | ((repeat (first | (with_reducible assumption) | (with_reducible refine Cn4.alloc ?_ _) | (with_reducible refine Cn4.drew ?_) | (with_reducible refine Cn4.set ?_ ?_ ?_ ?_ ?_ _) | omega)); done)) (first | (go_at_call 16; refine (ha.out _ (by repeat (first | (with_reducible assumption) | (with_reducible refine ext_alloc ?_ _) | (with_reducible refine ext_drew ?_)))).mono ?_; rintro e w3 ⟨rfl, hb3, hx3⟩) | (go_at_call 17; refine (h1.out _ (by repeat (first | (with_reducible assumption) | (with_reducible refine ext_alloc ?_ _) | (with_reducible refine ext_drew ?_)))).mono ?_; rintro e w4 ⟨rfl, hb4, hx4⟩) | (go_at_call 18; refine (h2.out _ (by repeat (first | (with_reducible assumption) | (with_reducible refine ext_alloc ?_ _) | (with_reducible refine ext_drew ?_)))).mono ?_; rintro e w5 ⟨rfl, hb5, hx5⟩) | (go_at_call 19; refine (h3.out _ (by repeat (first | (with_reducible assumption) | (with_reducible refine ext_alloc ?_ _) | (with_reducible refine ext_drew ?_)))).mono ?_; rintro e w6 ⟨rfl, hb6, hx6⟩))
      all_goals
        go_wp2
        go_ret
        exact ⟨rfl, by first | exact ext_trans hbf hb6 | exact ext_drew (ext_trans hbf hb6)⟩
end Go.Proofs.YtgoppjhjmonidaaGreatDoor
