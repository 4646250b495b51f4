/- Walks of timetableref02.SameInts at data told by kinds. No condition. -/
import Derived.Test.YtjcfkbichmlgmaaDoorKSameL
namespace Go.Proofs.YtjcfkbichmlgmaaDoor
open Go.RowKit
set_option maxRecDepth 100000

set_option maxHeartbeats 4000000 in
theorem r2SameI_walk (A A' : Option Addr) (zs : List Int) (c c' : Nat) (w : World) (hn : zs.length ≤ 9223372036854775807) (h1 : At kInt AnyB w A zs) (h2 : At kInt AnyB w A' zs) :
    Calls Tryd.prog 29 #[.slice A zs.length c, .slice A' zs.length c'] w fun e w' => e = .returned (.bool true) ∧ Below w.heap.size w w' := by
  obtain ⟨n, hnn⟩ : ∃ n, zs.length = n := ⟨_, rfl⟩
  rw [hnn] at hn ⊢
  replace hnn := hide hnn
  go_enter Tryd.func29, Tryd.ntmps29
  go_wp2
  go_loopw [5] (fun i wr => ∃ j : Nat, j ≤ n ∧ i = .int .i64 j ∧ Below w.heap.size w wr) (fun i _ => n - (intOf i).toNat)
  case atStart => exact ⟨0, Nat.zero_le _, rfl, Below.refl _ _⟩
  case round =>
    obtain ⟨j, hj, rfl, hb⟩ := hrel
    by_cases hlt : j < n
    · obtain ⟨z, hz⟩ : ∃ z, zs[j]? = some z := ⟨_, List.getElem?_eq_getElem (by rw [hnn.out]; exact hlt)⟩
      obtain ⟨b1, o1, rfl, -, hb1, a0⟩ := (h1.later hb).int hz
      obtain ⟨b2, o2, rfl, -, hb2, e0⟩ := (h2.later hb).int hz
      have hj0 : (0 : Int) ≤ (j : Int) := by omega
      have hj1 : (j : Int) < (n : Int) := by omega
      clear h1 h2 hz
      go_wp2_with fail
      go_region
      all_goals
        go_wp2
        go_roundw
        case rel => exact ⟨j + 1, by omega, by go_num, by first | exact ext_drew hb | exact hb⟩
        case measure => simp [intOf]; omega
    · obtain rfl : j = n := by omega
      go_wp2
      go_ret
      exact ⟨rfl, hb⟩
set_option maxHeartbeats 8000000 in
theorem r8Same_walk (D D' A A' : Option Addr) (bs : List ByteArray) (xs : List (List Int)) (d d' c c' : Nat) (w : World) (hbn : bs.length ≤ 9223372036854775807) (hn : xs.length ≤ 9223372036854775807) (hm : ∀ x ∈ xs, x.length ≤ 9223372036854775807)
    (g1 : At kStr AnyB w D bs) (g2 : At kStr AnyB w D' bs) (h1 : At (kSlice kInt) AnyB w A xs) (h2 : At (kSlice kInt) AnyB w A' xs) :
    Calls Tryd.prog 12 #[.agg #[.slice D bs.length d, .slice A xs.length c], .agg #[.slice D' bs.length d', .slice A' xs.length c']] w fun e w' => e = .returned (.bool true) ∧ Below w.heap.size w w' := by
  obtain ⟨n, hnn⟩ : ∃ n, xs.length = n := ⟨_, rfl⟩
  rw [hnn] at hn ⊢
  replace hnn := hide hnn
  replace hm := hide hm
  obtain ⟨m, hmm⟩ : ∃ m, bs.length = m := ⟨_, rfl⟩
  have hb0 : Below w.heap.size w ((w.alloc (.cells #[.slice D m d, .slice A n c] 25)).alloc (.cells #[.slice D' m d', .slice A' n c'] 25)) := (by repeat (first | exact Below.refl _ _ | refine ext_alloc ?_ _ | refine ext_drewN ?_ _ | refine ext_drew ?_ | refine ext_trans ?_ (by assumption)))
  have k1 : ((w.alloc (.cells #[.slice D m d, .slice A n c] 25)).alloc (.cells #[.slice D' m d', .slice A' n c'] 25)).cell? ⟨w.heap.size, 1, none⟩ = some (.slice A n c) := by simp
  have k2 : ((w.alloc (.cells #[.slice D m d, .slice A n c] 25)).alloc (.cells #[.slice D' m d', .slice A' n c'] 25)).cell? ⟨w.heap.size + 1, 1, none⟩ = some (.slice A' n c') := by rw [cell_of_row _ _ _ _ _ _ (heap_new2 _ _ _)]; rfl
  obtain ⟨p, hp⟩ : ∃ p, w.heap.size = p := ⟨_, rfl⟩
  obtain ⟨p1, hp1⟩ : ∃ p1, w.heap.size + 1 = p1 := ⟨_, rfl⟩
  rw [hp1] at k2
  rw [hp] at k1
  have hS := hide (fun (W : World) (hW : Below w.heap.size w W) => (r2SameS_walk D D' bs d d' W hbn (g1.later hW) (g2.later hW)).mono fun _ _ ⟨he, hb⟩ => (⟨he, hb⟩ : _ ∧ Below W.heap.size W _))
  rw [hmm] at hS ⊢
  replace hp := hide hp
  replace hp1 := hide hp1
  replace hb0 := hide hb0
  clear g1 g2 hmm hbn
  go_enter Tryd.func12, Tryd.ntmps12
  go_wp2_with (go_at_call 28; refine (hS.out _ hb0.out).mono ?_; rintro e w1 ⟨rfl, hb1⟩; have hx1 := cell_later hb1 k1; have hx2 := cell_later hb1 k2; rw [← hp.out] at hx1; rw [← hp1.out] at hx2)
  replace hb1 := ext_trans hb0.out hb1
  clear k1 k2 hS hb0
  have hpp := hp.out
  have hpp1 := hp1.out
  clear hp hp1
  subst hpp hpp1
  go_loopw [5] (fun i wr => ∃ j : Nat, j ≤ n ∧ i = .int .i64 j ∧ Below w.heap.size w wr ∧ wr.cell? ⟨w.heap.size, 1, none⟩ = some (.slice A n c) ∧ wr.cell? ⟨w.heap.size + 1, 1, none⟩ = some (.slice A' n c')) (fun i _ => n - (intOf i).toNat)
  case atStart => exact ⟨0, Nat.zero_le _, rfl, hb1, hx1, hx2⟩
  case round =>
    obtain ⟨j, hj, rfl, hb, y1, y2⟩ := hrel
    by_cases hlt : j < n
    · obtain ⟨x, hx⟩ : ∃ x, xs[j]? = some x := ⟨_, List.getElem?_eq_getElem (by rw [hnn.out]; exact hlt)⟩
      have hxl := hm.out x (List.mem_of_getElem? hx)
      obtain ⟨b1, o1, F1, c1, rfl, -, hb1, a0, -, t1⟩ := (h1.later hb).slice hx
      obtain ⟨b2, o2, F2, c2, rfl, -, hb2, e0, -, t2⟩ := (h2.later hb).slice hx
      have hj0 : (0 : Int) ≤ (j : Int) := by omega
      have hj1 : (j : Int) < (n : Int) := by omega
      obtain ⟨A1, hA1⟩ : ∃ A1 : Option Addr, some ⟨b1, o1, none⟩ = A1 := ⟨_, rfl⟩
      obtain ⟨A2, hA2⟩ : ∃ A2 : Option Addr, some ⟨b2, o2, none⟩ = A2 := ⟨_, rfl⟩
      rw [hA1] at y1
      rw [hA2] at y2
      have hSL : Cn4 w.heap.size 1 ((.slice A1 n c)) ((w.heap.size + 1)) 1 ((.slice A2 n c')) b1 (o1 + j) (.slice F1 x.length c1) b2 (o2 + j) (.slice F2 x.length c2) wr := ⟨y1, y2, a0, e0⟩
      have hcall := hide (fun (W : World) (hW : Below wr.heap.size wr W) => (r2SameI_walk F1 F2 x c1 c2 W hxl (t1.later hW) (t2.later hW)).mono fun _ _ ⟨he, hb⟩ => (⟨he, ext_trans hW hb, hSL.later (ext_trans hW hb)⟩ : _ ∧ Below wr.heap.size wr _ ∧ Cn4 w.heap.size 1 ((.slice A1 n c)) ((w.heap.size + 1)) 1 ((.slice A2 n c')) b1 (o1 + j) (.slice F1 x.length c1) b2 (o2 + j) (.slice F2 x.length c2) _))
      subst hA1 hA2
      have hSd := hSL.drew
      have hrefl := Below.refl wr.heap.size wr
      clear h1 h2 hx t1 t2 hx1 hx2
      go_wp2_with fail
      go_region_held3 (fun W' => Cn4 w.heap.size 1 ((.slice (some ⟨b1, o1, none⟩) n c)) ((w.heap.size + 1)) 1 ((.slice (some ⟨b2, o2, none⟩) n c')) b1 (o1 + j) (.slice F1 x.length c1) b2 (o2 + j) (.slice F2 x.length c2) W') (first | ((repeat (first | (with_reducible assumption) | (with_reducible refine Cn4.alloc ?_ _) | (with_reducible refine Cn4.drew ?_))); done)) (first | (go_at_call 29; refine (hcall.out _ (by repeat (first | (with_reducible assumption) | (with_reducible refine ext_alloc ?_ _) | (with_reducible refine ext_drew ?_)))).mono ?_; rintro e w2 ⟨rfl, hb2, hc2⟩))
      all_goals
        have hbn := ext_trans hb hb2
        obtain ⟨z1, z2, -, -⟩ := hc2
        go_wp2
        go_roundw
        case rel => exact ⟨j + 1, by omega, by go_num, by first | exact ext_drew hbn | exact hbn, z1, z2⟩
        case measure => simp [intOf]; omega
    · obtain rfl : j = n := by omega
      go_wp2
      go_ret
      exact ⟨rfl, hb⟩
end Go.Proofs.YtjcfkbichmlgmaaDoor
