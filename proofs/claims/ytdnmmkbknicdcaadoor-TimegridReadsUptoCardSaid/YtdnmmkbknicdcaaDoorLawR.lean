/- The statement TimegridReads: its walk. Conditions: texts shorter than 2^30 bytes; what the program's variables hold. -/
import Derived.Test.YtdnmmkbknicdcaaDoorTgN
import Derived.Test.YtdnmmkbknicdcaaDoorTgI
import Derived.Test.YtdnmmkbknicdcaaDoorTgG
namespace Go.Proofs.YtdnmmkbknicdcaaDoor
open Go.RowKit
set_option maxRecDepth 100000

set_option maxHeartbeats 8000000 in
theorem reads_walk (d s b m : Int) (z : ByteArray) (x1 x2 x3 x4 : Int) (hz : z.size < 1073741824) (w : World) (hS : Std w) (hW : Wds w) (hDy : Dys w) :
    Calls Tryd.prog 12 #[.agg #[.int .i64 d, .int .i64 s, .int .i64 b, .int .i64 m], .string z, .agg #[.int .i64 x1, .int .i64 x2, .int .i64 x3, .int .i64 x4]] w fun e w' => e = .returned (.bool true) ∧ Below w.heap.size w w' := by
  have c1 : Hid (∀ w, Std w → _) := fun w hS => tgParse_walk d s b m x4 z hz w hS
  have c2 : Hid (∀ w, Std w → Wds w → Dys w → _) := fun w hS hW hD => r6Parse_walk d s b m x4 z hz w hS hW hD
  have c3 : Hid (∀ w, _) := fun w => tgFormat_walk d s b m x4 x1 x2 x3 x4 w
  have c4 : Hid (∀ w, Std w → Wds w → Dys w → _) := fun w hS hW hD => r6Format_walk d s b m x4 x1 x2 x3 x4 w hS hW hD
  have c5 : Hid (∀ w, _) := fun w => tgClock_walk d s b m x3 w
  have c6 : Hid (∀ w, _) := fun w => r6Clock_walk d s b m x3 w
  have g1 := fun w hS => c1.out w hS
  have g2 := fun w hS hW hD => c2.out w hS hW hD
  have g3 := fun w => c3.out w
  have g4 := fun w hS hW hD => c4.out w hS hW hD
  have g5 := fun w => c5.out w
  have g6 := fun w => c6.out w
  clear c1 c2 c3 c4 c5 c6
  obtain ⟨⟨p1, p2, p3, p4, p5⟩, hp⟩ : ∃ p, parseT d s b m x4 (Lib.splitB ⟨#[32]⟩ 0 (Lib.countB z ⟨#[32]⟩) z) = p := ⟨_, rfl⟩
  obtain ⟨⟨f1, f2⟩, hf⟩ : ∃ f, fmtT d s b m x4 x1 x2 x3 x4 = f := ⟨_, rfl⟩
  obtain ⟨⟨k1, k2, k3⟩, hk⟩ : ∃ k, clockV d s b m x3 = k := ⟨_, rfl⟩
  have hpv : timeVal (p1, p2, p3, p4, p5) = .tuple #[.agg #[.int .i64 p1, .int .i64 p2, .int .i64 p3, .int .i64 p4], .int .i64 p5] := rfl
  simp only [hp, hpv] at g1 g2
  simp only [hf] at g3 g4
  simp only [hk] at g5 g6
  clear hp hf hk hpv hz
  replace g1 := hide g1
  replace g2 := hide g2
  replace g3 := hide g3
  replace g4 := hide g4
  replace g5 := hide g5
  replace g6 := hide g6
  have hG := (Box4.new w 28 (.int .i64 d) (.int .i64 s) (.int .i64 b) (.int .i64 m)).later (ext_alloc (Below.refl _ _) (.cells #[.int .i64 x1, .int .i64 x2, .int .i64 x3, .int .i64 x4] 32))
  have hX := Box4.new (w.alloc (.cells #[.int .i64 d, .int .i64 s, .int .i64 b, .int .i64 m] 28)) 32 (.int .i64 x1) (.int .i64 x2) (.int .i64 x3) (.int .i64 x4)
  rw [World.size_alloc] at hX
  obtain ⟨W0, hW0⟩ : ∃ W0, (w.alloc (.cells #[.int .i64 d, .int .i64 s, .int .i64 b, .int .i64 m] 28)).alloc (.cells #[.int .i64 x1, .int .i64 x2, .int .i64 x3, .int .i64 x4] 32) = W0 := ⟨_, rfl⟩
  have hb : Below w.heap.size w W0 := by rw [← hW0]; exact (by repeat (first | exact Below.refl _ _ | refine ext_alloc ?_ _ | refine ext_drewN ?_ _ | refine ext_drew ?_ | refine ext_trans ?_ (by assumption)))
  rw [hW0] at hG hX
  have hS0 := hS.after hb
  have hW0' := hW.after hb hS
  have hD0 := hDy.after hb hS
  replace hW0 := hide hW0
  go_enter Tryd.func12, Tryd.ntmps12
  go_wp2_with fail
  refine (g1.out _ (by rw [hW0.out]; exact hS0)).mono ?_
  rintro e w1 ⟨rfl, hb1⟩
  rw [hW0.out] at hb1
  clear hW0
  have hS1 := hS0.after hb1
  have hW1 := hW0'.after hb1 hS0
  have hD1 := hD0.after hb1 hS0
  replace hG := hG.later hb1
  replace hX := hX.later hb1
  replace hb := ext_trans hb hb1
  clear hb1 hS0 hW0' hD0
  obtain ⟨a0, a1, a2, a3⟩ := hG
  obtain ⟨e0, e1, e2, e3⟩ := hX
  have lt1 := World.block_lt_of_cell? _ _ a0
  have lt2 := World.block_lt_of_cell? _ _ e0
  have hG : Box4 w1 w.heap.size (.int .i64 d) (.int .i64 s) (.int .i64 b) (.int .i64 m) := ⟨a0, a1, a2, a3⟩
  have hX : Box4 w1 (w.heap.size + 1) (.int .i64 x1) (.int .i64 x2) (.int .i64 x3) (.int .i64 x4) := ⟨e0, e1, e2, e3⟩
  have hA := Box4.new w1 32 (.int .i64 p1) (.int .i64 p2) (.int .i64 p3) (.int .i64 p4)
  have hS1' := hS1.alloc (.cells #[.int .i64 p1, .int .i64 p2, .int .i64 p3, .int .i64 p4] 32)
  have hb1 : Below w1.heap.size w1 (w1.alloc (.cells #[.int .i64 p1, .int .i64 p2, .int .i64 p3, .int .i64 p4] 32)) := ext_alloc (Below.refl _ _) _
  have hW1' := hW1.after hb1 hS1
  have hD1' := hD1.after hb1 hS1
  replace hG := hG.later hb1
  replace hX := hX.later hb1
  replace hb := ext_trans hb hb1
  go_wp2_with fail
  refine (g2.out _ hS1' hW1' hD1').mono ?_
  rintro e w2 ⟨rfl, hb2⟩
  have hS2 := hS1'.after hb2
  have hW2 := hW1'.after hb2 hS1'
  have hD2 := hD1'.after hb2 hS1'
  replace hG := hG.later hb2
  replace hX := hX.later hb2
  replace hA := hA.later hb2
  replace hb := ext_trans hb hb2
  clear hb1 hb2 hS1 hW1 hD1 hS1' hW1' hD1' a0 a1 a2 a3 e0 e1 e2 e3 lt1 lt2
  have hE := Box4.new w2 32 (.int .i64 p1) (.int .i64 p2) (.int .i64 p3) (.int .i64 p4)
  have hb2 : Below w2.heap.size w2 (w2.alloc (.cells #[.int .i64 p1, .int .i64 p2, .int .i64 p3, .int .i64 p4] 32)) := ext_alloc (Below.refl _ _) _
  have hS2' := hS2.alloc (.cells #[.int .i64 p1, .int .i64 p2, .int .i64 p3, .int .i64 p4] 32)
  have hW2' := hW2.after hb2 hS2
  have hD2' := hD2.after hb2 hS2
  have lt1 := hG.lt
  have lt2 := hX.lt
  obtain ⟨a0, a1, a2, a3⟩ := id hG
  obtain ⟨e0, e1, e2, e3⟩ := id hX
  go_wp2_with fail
  refine (g3.out _).mono ?_
  rintro e w3 ⟨rfl, hb3⟩
  have hS3 := hS2'.after hb3
  have hW3 := hW2'.after hb3 hS2'
  have hD3 := hD2'.after hb3 hS2'
  replace hG := (hG.later hb2).later hb3
  replace hX := (hX.later hb2).later hb3
  replace hA := (hA.later hb2).later hb3
  replace hE := hE.later hb3
  replace hb := ext_trans (ext_trans hb hb2) hb3
  clear hb2 hb3 hS2 hW2 hD2 hS2' hW2' hD2' a0 a1 a2 a3 e0 e1 e2 e3 lt1 lt2
  obtain ⟨a0, a1, a2, a3⟩ := id hG
  obtain ⟨e0, e1, e2, e3⟩ := id hX
  go_wp2_with fail
  refine (g4.out _ hS3 hW3 hD3).mono ?_
  rintro e w4 ⟨rfl, hb4⟩
  have hS4 := hS3.after hb4
  replace hG := hG.later hb4
  replace hX := hX.later hb4
  replace hA := hA.later hb4
  replace hE := hE.later hb4
  replace hb := ext_trans hb hb4
  clear hb4 hS3 hW3 hD3 a0 a1 a2 a3 e0 e1 e2 e3
  obtain ⟨a0, a1, a2, a3⟩ := id hG
  obtain ⟨e0, e1, e2, e3⟩ := id hX
  go_wp2_with fail
  refine (g5.out _).mono ?_
  rintro e w5 ⟨rfl, hb5⟩
  have hS5 := hS4.after hb5
  replace hG := hG.later hb5
  replace hX := hX.later hb5
  replace hA := hA.later hb5
  replace hE := hE.later hb5
  replace hb := ext_trans hb hb5
  clear hb5 hS4 a0 a1 a2 a3 e0 e1 e2 e3
  obtain ⟨a0, a1, a2, a3⟩ := id hG
  obtain ⟨e0, e1, e2, e3⟩ := id hX
  go_wp2_with fail
  refine (g6.out _).mono ?_
  rintro e w6 ⟨rfl, hb6⟩
  have hS6 := hS5.after hb6
  replace hA := hA.later hb6
  replace hE := hE.later hb6
  replace hb := ext_trans hb hb6
  clear hb6 hS5 a0 a1 a2 a3 e0 e1 e2 e3 hG hX
  go_wp2_with fail
  refine (awake06_walk _ hS6).mono ?_
  rintro e w7 ⟨rfl, hb7⟩
  replace hA := hA.later hb7
  replace hE := hE.later hb7
  replace hb := ext_trans hb hb7
  clear hb7 hS6
  obtain ⟨a0, a1, a2, a3⟩ := hA
  obtain ⟨e0, e1, e2, e3⟩ := hE
  go_wp2
  go_ret
  exact ⟨ret_bool (by simp), hb⟩
end Go.Proofs.YtdnmmkbknicdcaaDoor
