/- The check at the head of law 09. Condition: the program's variables hold what Std says. -/
import Derived.Test.YtgbkochjoaalhaaGreatDoorStaffB
namespace Go.Proofs.YtgbkochjoaalhaaGreatDoor
open Go.RowKit
set_option maxRecDepth 100000

theorem week09_walk (w : World) :
    Calls Tryz.prog 40 #[] w fun e w' => e = .returned (.agg #[.int .i64 5, .int .i64 8, .int .i64 480, .int .i64 45]) ∧ Below w.heap.size w w' := by
  go_enter Tryz.func40, Tryz.ntmps40
  go_wp2
  refine end_struct1 rfl (Or.inl rfl) w.heap.size (.int .i64 5) (.int .i64 8) (.int .i64 480) (.int .i64 45) rfl rfl (by simp) (by simp) (by simp) (by simp) ⟨rfl, (by repeat (first | exact Below.refl _ _ | refine ext_alloc ?_ _ | refine ext_drewN ?_ _ | refine ext_drew ?_ | refine ext_trans ?_ (by assumption)))⟩
def adaB : ByteArray := ⟨#[97, 100, 97]⟩
def oddB : ByteArray := ⟨#[77, 111, 32, 49, 45, 50, 32, 111, 100, 100]⟩
theorem read09 : staffRead 5 8 480 45 4 (plainR 1 [[adaB, oddB]]) = ([(adaB, [(5, 0, 0, 2)])], []) := by kernel_rfl
theorem free09a : (!orTo (fun j => overlapB (([(5, 0, 0, 2)] : List T4).getD j (0, 0, 0, 0)).1 (([(5, 0, 0, 2)] : List T4).getD j (0, 0, 0, 0)).2.1 (([(5, 0, 0, 2)] : List T4).getD j (0, 0, 0, 0)).2.2.1 (([(5, 0, 0, 2)] : List T4).getD j (0, 0, 0, 0)).2.2.2 1 0 0 1) 1) = false := by decide +kernel
theorem free09b : (!orTo (fun j => overlapB (([(5, 0, 0, 2)] : List T4).getD j (0, 0, 0, 0)).1 (([(5, 0, 0, 2)] : List T4).getD j (0, 0, 0, 0)).2.1 (([(5, 0, 0, 2)] : List T4).getD j (0, 0, 0, 0)).2.2.1 (([(5, 0, 0, 2)] : List T4).getD j (0, 0, 0, 0)).2.2.2 2 0 0 1) 1) = true := by decide +kernel
set_option maxHeartbeats 4000000 in
theorem awake09_walk (w : World) (hS : Std w) :
    Calls Tryz.prog 9 #[] w fun e w' => e = .returned (.bool true) ∧ Below w.heap.size w w' := by
  have hX : ListsIn ((w.alloc (.cells #[.string adaB, .string oddB] 9)).alloc (.cells #[.slice (some ⟨w.heap.size, 0, none⟩) 2 2] 69)).heap.size ((w.alloc (.cells #[.string adaB, .string oddB] 9)).alloc (.cells #[.slice (some ⟨w.heap.size, 0, none⟩) 2 2] 69)) (some ⟨w.heap.size + 1, 0, none⟩) [[adaB, oddB]] := by
    intro _
    refine ⟨w.heap.size + 1, 0, rfl, by simp, fun j x hx => ?_⟩
    match j, hx with
    | 0, hx =>
      simp at hx
      subst hx
      have c0 : ((w.alloc (.cells #[.string adaB, .string oddB] 9)).alloc (.cells #[.slice (some ⟨w.heap.size, 0, none⟩) 2 2] 69)).cell? ⟨(w.alloc (.cells #[.string adaB, .string oddB] 9)).heap.size, 0, none⟩ = some (.slice (some ⟨w.heap.size, 0, none⟩) 2 2) := by simp
      rw [World.size_alloc] at c0
      refine ⟨some ⟨w.heap.size, 0, none⟩, 2, c0, fun _ => ⟨w.heap.size, 0, rfl, by simp; omega, fun k z hz => ?_⟩⟩
      match k, hz with
      | 0, hz => simp at hz; subst hz; simp
      | 1, hz => simp at hz; subst hz; simp
      | k + 2, hz => simp at hz
    | j + 1, hx => simp at hx
  have hb0 : Below w.heap.size w ((w.alloc (.cells #[.string adaB, .string oddB] 9)).alloc (.cells #[.slice (some ⟨w.heap.size, 0, none⟩) 2 2] 69)) := (by repeat (first | exact Below.refl _ _ | refine ext_alloc ?_ _ | refine ext_drewN ?_ _ | refine ext_drew ?_ | refine ext_trans ?_ (by assumption)))
  have hpl := plain_walk (some ⟨w.heap.size + 1, 0, none⟩) [[adaB, oddB]] 1 _ hX (by decide) (by decide)
  have hS0 := hS.after hb0
  unfold adaB oddB at hpl hb0 hS0
  clear hX
  go_enter Tryz.func9, Tryz.ntmps9
  go_wp2_with fail
  refine hpl.mono ?_
  clear hpl
  rintro e w1 ⟨v, rfl, hR, hb1⟩
  obtain ⟨A1, c1, rfl⟩ : ∃ A1 c1, v = .slice A1 1 c1 := by obtain ⟨us, -, h, -⟩ := hR; exact owns_form h
  have hb := ext_trans hb0 hb1
  have hR1 := recs_at hR
  have hS1 := hS0.after hb1
  clear hb0 hb1 hS0 hR
  go_wp2_with fail
  refine (week09_walk w1).mono ?_
  rintro e w2 ⟨rfl, hb2⟩
  have hcall := sread_walk 5 8 480 45 4 A1 (plainR 1 [[adaB, oddB]]) c1 w2 (hS1.after hb2) ((hR1.below hb2).more hb2.size) (by decide) (by decide)
  replace hb := ext_trans hb hb2
  clear hR1 hS1 hb2
  go_wp2_with fail
  refine hcall.mono ?_
  clear hcall
  rintro e w3 ⟨v6, v8, rfl, hL, hP, hb3⟩
  rw [read09] at hL hP
  obtain ⟨A6, c6, rfl⟩ : ∃ A6 c6, v6 = .slice A6 1 c6 := by obtain ⟨us, -, h, -⟩ := hL; exact owns_form h
  obtain ⟨A8, c8, rfl⟩ : ∃ A8 c8, v8 = .slice A8 0 c8 := owns_form hP
  obtain ⟨g, A9, c9, rfl, k0, k1, ht⟩ := lect_at hL 0 _ rfl
  have hC := times_cells ht
  replace hb := ext_trans hb hb3
  clear hL hP hb3 ht
  dsimp only [List.length] at k1 hC
  have f1 := sfFree_walk (.string adaB) A9 1 c9 (fun j => ([(5, 0, 0, 2)] : List T4).getD j (0, 0, 0, 0)) 1 0 0 1 w3 (by omega) hC
  rw [free09a] at f1
  rw [Nat.zero_mul] at k0 k1
  go_wp2_with fail
  refine f1.mono ?_
  rintro e w4 ⟨rfl, hb4⟩
  have f2 := sfFree_walk (.string adaB) A9 1 c9 (fun j => ([(5, 0, 0, 2)] : List T4).getD j (0, 0, 0, 0)) 2 0 0 1 w4 (by omega) ((hC.below hb4).more hb4.size)
  rw [free09b] at f2
  replace k0 := cell_later hb4 k0
  replace k1 := cell_later hb4 k1
  replace hb := ext_trans hb hb4
  clear f1 hC hb4
  go_wp2_with fail
  refine f2.mono ?_
  rintro e w5 ⟨rfl, hb5⟩
  go_wp2
  go_ret
  exact ⟨rfl, ext_trans hb hb5⟩
end Go.Proofs.YtgbkochjoaalhaaGreatDoor
