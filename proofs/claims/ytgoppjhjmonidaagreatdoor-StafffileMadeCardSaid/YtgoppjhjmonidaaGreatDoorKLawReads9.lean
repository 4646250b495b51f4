/- The statement StafffileReads: its walk. Conditions: what is read is bounded; what the program's variables hold. -/
import Derived.Test.YtgoppjhjmonidaaGreatDoorKValC
import Derived.Test.YtgoppjhjmonidaaGreatDoorKR9E
import Derived.Test.YtgoppjhjmonidaaGreatDoorKAwake9
namespace Go.Proofs.YtgoppjhjmonidaaGreatDoor
open Go.RowKit
set_option maxRecDepth 100000

theorem recs_len {B : Nat} {w : World} {A : Option Addr} {rs : List Rec} (h : RecsAt B w A rs) (j : Nat) (hj : j < rs.length) :
    ∃ b off F c, A = some ⟨b, off, none⟩ ∧ b < B ∧ w.cell? ⟨b, off + j * 2, none⟩ = some (.int .i64 (rs.getD j (0, [])).1) ∧ w.cell? ⟨b, off + j * 2 + 1, none⟩ = some (.slice F (rs.getD j (0, [])).2.length c) := by
  obtain ⟨b, off, e, hb, hc⟩ := h (by omega)
  obtain ⟨F, c, c0, c1, -⟩ := hc j (rs.getD j (0, [])) (by rw [List.getD_eq_getElem?_getD, List.getElem?_eq_getElem hj]; rfl)
  exact ⟨b, off, F, c, e, hb, c0, c1⟩
theorem flds_short (rs : List Rec) (h : ∀ j, j < rs.length → (rs.getD j (0, [])).2.length ≤ 20) : ∀ r ∈ rs, r.2.length ≤ 20 := by
  intro r hr
  obtain ⟨j, hj⟩ := List.getElem?_of_mem hr
  have hjl := (List.getElem?_eq_some_iff.1 hj).1
  have := h j hjl
  rwa [List.getD_eq_getElem?_getD, hj] at this
set_option maxHeartbeats 8000000 in
theorem reads9_walk (A : Option Addr) (rs : List Rec) (cap : Nat) (d sl b m n : Int) (w : World) (hS : Std w) (hW : Wds w) (hD : Dys w) (hR : RecsAt w.heap.size w A rs) (hN : rs.length ≤ 1048576) (hs : ∀ r ∈ rs, ∀ f ∈ r.2, f.1.size < 1073741824) :
    Calls Tryz.prog 29 #[.slice A rs.length cap, .agg #[.int .i64 d, .int .i64 sl, .int .i64 b, .int .i64 m], .int .i64 n] w fun e w' => e = .returned (.bool true) ∧ Below w.heap.size w w' := by
  have hb0 : Below w.heap.size w (w.alloc (.cells #[.int .i64 d, .int .i64 sl, .int .i64 b, .int .i64 m] 39)) := (by repeat (first | exact Below.refl _ _ | refine ext_alloc ?_ _ | refine ext_drewN ?_ _ | refine ext_drew ?_ | refine ext_trans ?_ (by assumption)))
  have bG := Box4.new w 39 (.int .i64 d) (.int .i64 sl) (.int .i64 b) (.int .i64 m)
  obtain ⟨gb, hgb⟩ : ∃ gb, w.heap.size = gb := ⟨_, rfl⟩
  obtain ⟨W, hWW⟩ : ∃ W, w.alloc (.cells #[.int .i64 d, .int .i64 sl, .int .i64 b, .int .i64 m] 39) = W := ⟨_, rfl⟩
  have hR0 := (hR.below hb0).more hb0.size
  have hS0 := hS.after hb0
  have hW0 := hW.after hb0 hS
  have hD0 := hD.after hb0 hS
  rw [hWW] at hb0 bG hR0 hS0 hW0 hD0
  rw [hgb] at bG
  have hgl := bG.lt
  obtain ⟨g0, g1, g2, g3⟩ := bG
  clear hR hS hW hD
  obtain ⟨N, hNN⟩ : ∃ N, rs.length = N := ⟨_, rfl⟩
  rw [hNN] at hN ⊢
  replace hNN := hide hNN
  replace hs := hide hs
  replace hgb := hide hgb
  replace hWW := hide hWW
  go_enter Tryz.func29, Tryz.ntmps29
  go_wp2_with fail
  rw [hWW.out, hgb.out]
  go_loopw [7] (fun i wr => ∃ j : Nat, j ≤ N ∧ i = .int .i64 j ∧ wr = W) (fun i _ => N - (intOf i).toNat)
  case atStart => exact ⟨0, Nat.zero_le _, rfl, rfl⟩
  case round =>
    obtain ⟨j, hj, rfl, rfl⟩ := hrel
    by_cases hlt : j < N
    · obtain ⟨rb, off, F, c, rfl, hrb, q0, q1⟩ := recs_len hR0 j (by rw [hNN.out]; exact hlt)
      obtain ⟨k, hk⟩ : ∃ k, (rs.getD j (0, [])).2.length = k := ⟨_, rfl⟩
      rw [hk] at q1
      have hj0 : (0 : Int) ≤ (j : Int) := by omega
      have hj1 : (j : Int) < (N : Int) := by omega
      clear hk hR0 g0 g1 g2 g3
      by_cases h20 : 20 < k
      · go_wp2_with fail
        refine (awake09_walk _ hS0).mono ?_
        rintro e w1 ⟨rfl, hb1⟩
        go_wp2
        go_ret
        exact ⟨rfl, ext_trans hb0 hb1⟩
      · go_wp2
        go_roundw
        case rel => exact ⟨j + 1, by omega, by go_num, by first | rfl | trivial⟩
        case measure => simp [intOf]; omega
    · obtain rfl : j = N := by omega
      have hread := sread_walk d sl b m n A rs cap
      have hread2 := r9Read_walk d sl b m n A rs cap
      rw [hNN.out] at hread hread2
      replace hread := hide (fun W hS hR => hread W hS hR (by omega) hs.out)
      replace hread2 := hide (fun W hS hW hD hR => hread2 W hS hW hD hR (by omega) hs.out)
      clear hs
      go_wp2_with fail
      refine (hread.out _ hS0 hR0).mono ?_
      rintro e w1 ⟨va, vp, rfl, hLa, hPa, hb1⟩
      have hR1 := (hR0.below hb1).more hb1.size
      have hS1 := hS0.after hb1
      have hW1 := hW0.after hb1 hS0
      have hD1 := hD0.after hb1 hS0
      replace g0 := cell_later hb1 g0
      replace g1 := cell_later hb1 g1
      replace g2 := cell_later hb1 g2
      replace g3 := cell_later hb1 g3
      replace hb0 := ext_trans hb0 hb1
      have hgl1 : gb < w1.heap.size := by have := hb1.size; omega
      clear hread hR0 hS0 hW0 hD0 hb1 hWW hgl
      go_wp2_with fail
      refine (hread2.out _ hS1 hW1 hD1 hR1).mono ?_
      rintro e w2 ⟨vb, vq, rfl, hLb, hPb, hb2⟩
      have hLa2 := hLa.later hb2
      have hPa2 := owns_later hPa hb2
      have hS2 := hS1.after hb2
      replace hb0 := ext_trans hb0 hb2
      clear hread2 hR1 hS1 hW1 hD1 hLa hPa g0 g1 g2 g3 hb2
      go_wp2_with fail
      refine (awake09_walk w2 hS2).mono ?_
      rintro e w3 ⟨rfl, hb3⟩
      replace hb0 := ext_trans hb0 hb3
      have hsame := r9Same_walk _ _ va vb _ w3 (hLa2.later hb3) (hLb.later hb3)
      have hPa3 := owns_later hPa2 hb3
      have hPb3 := owns_later hPb hb3
      clear hLa2 hLb hPa2 hPb hS2 hb3
      go_wp2_with fail
      refine hsame.mono ?_
      rintro e w4 ⟨rfl, hb4⟩
      have hsp := probs_same _ _ vp vq _ w4 (owns_later hPa3 hb4) (owns_later hPb3 hb4)
      replace hb0 := ext_trans hb0 hb4
      clear hsame hPa3 hPb3 hb4
      go_wp2_with fail
      refine hsp.mono ?_
      rintro e w5 ⟨rfl, hb5⟩
      clear hsp
      go_wp2
      go_ret
      exact ⟨rfl, ext_trans hb0 hb5⟩
end Go.Proofs.YtgoppjhjmonidaaGreatDoor
