/- Walks of timetableref07.SameTimes, timetableref02.SameProblems, timetableref09.Same, where both hold the same. Conditions: the cells. Walks of timetableref07.Clear, timetableref09.Free, fields.Fit. Conditions: the cells. -/
import Derived.Test.YtdnnahdafhddlaaGreatDoorYStaffB
namespace Go.Proofs.YtdnnahdafhddlaaGreatDoor
open Go.RowKit
set_option maxRecDepth 100000

theorem own_len {w : World} {B k n : Nat} {e : TypeId} {v : Value} {xs : List Value} (h : w.ownsRow B e k v n xs) : n ≤ 9223372036854775807 := by
  rcases h.2 with ⟨_, h0⟩ | ⟨_, cap, _, _, _, _, h1, h2, _⟩
  · omega
  · unfold maxLen at h2; omega
set_option maxHeartbeats 4000000 in
theorem r7Same_walk (A A' : Option Addr) (n c c' : Nat) (X : Nat → T4) (w : World) (hn : n ≤ 9223372036854775807) (h1 : CellsAt w.heap.size w A 4 n fun j => encT (X j)) (h2 : CellsAt w.heap.size w A' 4 n fun j => encT (X j)) :
    Calls Tryz.prog 105 #[.slice A n c, .slice A' n c'] w fun e w' => e = .returned (.bool true) ∧ Below w.heap.size w w' := by
  go_enter Tryz.func105, Tryz.ntmps105
  go_wp2
  go_loopw [5] (fun i wr => ∃ j : Nat, j ≤ n ∧ i = .int .i64 j ∧ Below w.heap.size w wr) (fun i _ => n - (intOf i).toNat)
  case atStart => exact ⟨0, Nat.zero_le _, rfl, Below.refl _ _⟩
  case round =>
    obtain ⟨j, hj, rfl, hb⟩ := hrel
    by_cases hlt : j < n
    · obtain ⟨b1, o1, rfl, hb1, k1⟩ := (h1.below hb) (by omega)
      obtain ⟨b2, o2, rfl, hb2, k2⟩ := (h2.below hb) (by omega)
      have a0 := k1 j hlt 0 _ rfl
      have a1 := k1 j hlt 1 _ rfl
      have a2 := k1 j hlt 2 _ rfl
      have a3 := k1 j hlt 3 _ rfl
      have e0 := k2 j hlt 0 _ rfl
      have e1 := k2 j hlt 1 _ rfl
      have e2 := k2 j hlt 2 _ rfl
      have e3 := k2 j hlt 3 _ rfl
      obtain ⟨⟨x1, x2, x3, x4⟩, hX⟩ : ∃ q, X j = q := ⟨_, rfl⟩
      rw [hX] at a0 a1 a2 a3 e0 e1 e2 e3
      rw [Nat.add_zero] at a0 e0
      have hz := hb.size
      have hb1r : b1 < wr.heap.size := by omega
      have hb2r : b2 < wr.heap.size := by omega
      have hj0 : (0 : Int) ≤ (j : Int) := by omega
      have hj1 : (j : Int) < (n : Int) := by omega
      clear k1 k2 h1 h2 hX
      go_wp2_with fail
      go_region
      all_goals
        go_wp2
        go_roundw
        case rel => exact ⟨j + 1, by omega, by go_num, by first | exact ext_drew hb | exact hb⟩
        case measure => simp [intOf]; omega
    · obtain rfl : j = n := by omega
      go_wp2
      go_ret
      exact ⟨rfl, hb⟩
set_option maxHeartbeats 4000000 in
theorem r2SameP_walk (A A' : Option Addr) (n c c' : Nat) (X : Nat → Prob) (w : World) (hn : n ≤ 9223372036854775807) (h1 : CellsAt w.heap.size w A 4 n fun j => encP (X j)) (h2 : CellsAt w.heap.size w A' 4 n fun j => encP (X j)) :
    Calls Tryz.prog 21 #[.slice A n c, .slice A' n c'] w fun e w' => e = .returned (.bool true) ∧ Below w.heap.size w w' := by
  go_enter Tryz.func21, Tryz.ntmps21
  go_wp2
  go_loopw [5] (fun i wr => ∃ j : Nat, j ≤ n ∧ i = .int .i64 j ∧ Below w.heap.size w wr) (fun i _ => n - (intOf i).toNat)
  case atStart => exact ⟨0, Nat.zero_le _, rfl, Below.refl _ _⟩
  case round =>
    obtain ⟨j, hj, rfl, hb⟩ := hrel
    by_cases hlt : j < n
    · obtain ⟨b1, o1, rfl, hb1, k1⟩ := (h1.below hb) (by omega)
      obtain ⟨b2, o2, rfl, hb2, k2⟩ := (h2.below hb) (by omega)
      have a0 := k1 j hlt 0 _ rfl
      have a1 := k1 j hlt 1 _ rfl
      have a2 := k1 j hlt 2 _ rfl
      have a3 := k1 j hlt 3 _ rfl
      have e0 := k2 j hlt 0 _ rfl
      have e1 := k2 j hlt 1 _ rfl
      have e2 := k2 j hlt 2 _ rfl
      have e3 := k2 j hlt 3 _ rfl
      obtain ⟨⟨x1, x2, x3⟩, hX⟩ : ∃ q, X j = q := ⟨_, rfl⟩
      rw [hX] at a1 a2 a3 e1 e2 e3
      rw [Nat.add_zero] at a0 e0
      have hz := hb.size
      have hb1r : b1 < wr.heap.size := by omega
      have hb2r : b2 < wr.heap.size := by omega
      have hj0 : (0 : Int) ≤ (j : Int) := by omega
      have hj1 : (j : Int) < (n : Int) := by omega
      clear k1 k2 h1 h2 hX
      go_wp2_with fail
      go_region
      all_goals
        go_wp2
        go_roundw
        case rel => exact ⟨j + 1, by omega, by go_num, by first | exact ext_drew hb | exact hb⟩
        case measure => simp [intOf]; omega
    · obtain rfl : j = n := by omega
      go_wp2
      go_ret
      exact ⟨rfl, hb⟩
theorem probs_cells {B q c : Nat} {w : World} {A : Option Addr} {ps : List Prob} (h : ProbsOwn B w (.slice A q c) ps) : CellsAt w.heap.size w A 4 ps.length fun j => encP (ps.getD j (0, 0, 0)) := by
  intro hn
  obtain ⟨g, e, hg, hc⟩ := own_at h hn
  refine ⟨g, 0, e, hg, fun j hj i u hu => ?_⟩
  have hx : ps[j]? = some (ps.getD j (0, 0, 0)) := by rw [List.getD_eq_getElem?_getD, List.getElem?_eq_getElem hj]; rfl
  have hi : i < 4 := by
    have := (List.getElem?_eq_some_iff.1 hu).1
    simpa [encP] using this
  rw [Nat.zero_add]
  exact hc _ u ((flat_at encP 4 (fun _ => rfl) ps j i _ hx hi).trans hu)
theorem probs_same (B C : Nat) (v v' : Value) (ps : List Prob) (w : World) (h1 : ProbsOwn B w v ps) (h2 : ProbsOwn C w v' ps) :
    Calls Tryz.prog 21 #[v, v'] w fun e w' => e = .returned (.bool true) ∧ Below w.heap.size w w' := by
  obtain ⟨A, c, rfl⟩ := owns_form h1
  obtain ⟨A', c', rfl⟩ := owns_form h2
  exact r2SameP_walk A A' ps.length c c' _ w (own_len h1) (probs_cells h1) (probs_cells h2)
end Go.Proofs.YtdnnahdafhddlaaGreatDoor

namespace Go.Proofs.YtdnnahdafhddlaaGreatDoor
open Go.RowKit
set_option maxRecDepth 100000

theorem fit1_walk (a1 a2 a3 a4 d sl b m n : Int) (gb nb : Nat) (w : World) (hG : Box4 w gb (.int .i64 d) (.int .i64 sl) (.int .i64 b) (.int .i64 m)) (hn : w.cell? ⟨nb, 0, none⟩ = some (.int .i64 n)) :
    Calls Tryz.prog 113 #[.agg #[.int .i64 a1, .int .i64 a2, .int .i64 a3, .int .i64 a4], .pointer (some ⟨gb, 0, none⟩), .pointer (some ⟨nb, 0, none⟩)] w fun e w' => e = .returned (.bool (fitsV d sl b m n a1 a2 a3 a4 != 0)) ∧ Below w.heap.size w w' := by
  have hlt := hG.lt
  have hnl : nb < w.heap.size := World.block_lt_of_cell? _ _ hn
  obtain ⟨c0, c1, c2, c3⟩ := hG
  go_enter Tryz.func113, Tryz.ntmps113
  go_wp2_with fail
  refine (tgFits_walk d sl b m n a1 a2 a3 a4 _).mono ?_
  rintro e w1 ⟨rfl, hb1⟩
  clear c0 c1 c2 c3 hn
  go_wp2
  go_ret
  exact ⟨by rfl, ext_trans (ext_alloc (Below.refl _ _) _) hb1⟩
set_option maxHeartbeats 4000000 in
theorem fit_walk (A : Option Addr) (n c : Nat) (ts : Nat → T4) (d sl b m k : Int) (w : World) (hn : n ≤ 9223372036854775807) (hX : CellsAt w.heap.size w A 4 n fun j => encT (ts j)) :
    Calls Tryz.prog 69 #[.slice A n c, .agg #[.int .i64 d, .int .i64 sl, .int .i64 b, .int .i64 m], .int .i64 k] w fun e w' => e = .returned (.bool (!orTo (fun j => fitsV d sl b m k (ts j).1 (ts j).2.1 (ts j).2.2.1 (ts j).2.2.2 != 0) n)) ∧ Below w.heap.size w w' := by
  have eg : ∀ args w, (callFunc 113 args).run Tryz.prog w = .ok (.enter 113 args) w := enters_of Tryz.func113 (by kernel_rfl) rfl
  have hb0 : Below w.heap.size w ((w.alloc (.cells #[.int .i64 d, .int .i64 sl, .int .i64 b, .int .i64 m] 23)).alloc (.cells #[.int .i64 k] 3)) := (by repeat (first | exact Below.refl _ _ | refine ext_alloc ?_ _ | refine ext_drewN ?_ _ | refine ext_drew ?_ | refine ext_trans ?_ (by assumption)))
  have bG := (Box4.new w 23 (.int .i64 d) (.int .i64 sl) (.int .i64 b) (.int .i64 m)).alloc (.cells #[.int .i64 k] 3)
  have bN : ((w.alloc (.cells #[.int .i64 d, .int .i64 sl, .int .i64 b, .int .i64 m] 23)).alloc (.cells #[.int .i64 k] 3)).cell? ⟨w.heap.size + 1, 0, none⟩ = some (.int .i64 k) := by
    have := (show ((w.alloc (.cells #[.int .i64 d, .int .i64 sl, .int .i64 b, .int .i64 m] 23)).alloc (.cells #[.int .i64 k] 3)).cell? ⟨(w.alloc (.cells #[.int .i64 d, .int .i64 sl, .int .i64 b, .int .i64 m] 23)).heap.size, 0, none⟩ = some (.int .i64 k) by simp)
    rw [World.size_alloc] at this
    exact this
  obtain ⟨W, hW⟩ : ∃ W, (w.alloc (.cells #[.int .i64 d, .int .i64 sl, .int .i64 b, .int .i64 m] 23)).alloc (.cells #[.int .i64 k] 3) = W := ⟨_, rfl⟩
  rw [hW] at hb0 bG bN
  have hcall := conT_walk 113 #[.pointer (some ⟨w.heap.size, 0, none⟩), .pointer (some ⟨w.heap.size + 1, 0, none⟩)] eg A n c (fun j => .int .i64 (ts j).1) (fun j => .int .i64 (ts j).2.1) (fun j => .int .i64 (ts j).2.2.1) (fun j => .int .i64 (ts j).2.2.2) (fun j => fitsV d sl b m k (ts j).1 (ts j).2.1 (ts j).2.2.1 (ts j).2.2.2 != 0) W hn
    ((hX.below hb0).more hb0.size)
    (fun V j hj hb => (fit1_walk _ _ _ _ d sl b m k w.heap.size (w.heap.size + 1) V (bG.later hb) (cell_later hb bN)).mono fun e w' ⟨he, hw⟩ => ⟨he, ext_trans hb hw⟩)
  clear hX eg bG bN
  replace hW := hide hW
  obtain ⟨r, hr⟩ : ∃ r, orTo (fun j => fitsV d sl b m k (ts j).1 (ts j).2.1 (ts j).2.2.1 (ts j).2.2.2 != 0) n = r := ⟨_, rfl⟩
  rw [hr] at hcall ⊢
  clear hr
  go_enter Tryz.func69, Tryz.ntmps69
  go_wp2_with fail
  rw [hW.out]
  refine hcall.mono ?_
  rintro e w' ⟨rfl, hb⟩
  go_wp2
  go_ret
  exact ⟨rfl, ext_trans hb0 hb⟩
end Go.Proofs.YtdnnahdafhddlaaGreatDoor
