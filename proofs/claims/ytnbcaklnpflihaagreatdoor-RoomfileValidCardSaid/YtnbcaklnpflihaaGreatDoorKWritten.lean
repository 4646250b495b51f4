/- Walk of codes.written. Conditions: the number is an int, the texts are short; what the program's variables hold. -/
import Derived.Test.YtnbcaklnpflihaaGreatDoorKTail
import Derived.Lib.ItoaLen
import Derived.Lib.AppendIntMem
namespace Go.Proofs.YtnbcaklnpflihaaGreatDoor
open Go.RowKit
set_option maxRecDepth 100000

/-- A number in a width. -/
def wrL (n width : Nat) : List UInt8 := List.replicate (width - (Lib.itoa n).length) 48 ++ Lib.itoa n
theorem rep_one (c : UInt8) : ∀ k, Lib.repeatL [c] k = List.replicate k c
  | 0 => rfl
  | k + 1 => by rw [Lib.repeatL, rep_one c k, List.replicate_succ]; rfl
set_option maxHeartbeats 4000000 in
theorem written_walk (P : ByteArray) (n width : Nat) (w : World) (hS : Std w) (hn : n ≤ 9223372036854775807) (hP : P.size ≤ 1000) (hw : width ≤ 1000) :
    Calls Tryz.prog 127 #[.string P, .int .i64 n, .int .i64 width] w fun e w' => ∃ X : ByteArray, e = .returned (.string X) ∧ X.data.toList = P.data.toList ++ wrL n width ∧ Below w.heap.size w w' := by
  have hit := Tryz.strconv_Itoa n (by omega) (by omega) w hS.pow10
  have hlen := Lib.itoa_length_le n (by omega) (by omega)
  obtain ⟨D, hD⟩ : ∃ D : ByteArray, (⟨(Lib.itoa n).toArray⟩ : ByteArray) = D := ⟨_, rfl⟩
  have hDl : D.data.toList = Lib.itoa n := by rw [← hD]
  have hDs : D.size = (Lib.itoa n).length := by rw [← len_size, hDl]
  rw [hD] at hit
  obtain ⟨z, hz⟩ : ∃ z : Nat, width - (Lib.itoa n).length = z := ⟨_, rfl⟩
  have hzi : max (0 : Int) ((width : Int) - (D.size : Int)) = (z : Int) := by omega
  have hwi : IntKind.i64.wrap ((width : Int) - (D.size : Int)) = (width : Int) - (D.size : Int) := by rw [IntKind.wrap_i64]; omega
  have hrep := fun (V : World) => Tryz.strings_Repeat ⟨#[48]⟩ z V (by omega) (by show 1 * z ≤ _; omega)
  obtain ⟨R, hR⟩ : ∃ R : ByteArray, (⟨(Lib.repeatL (⟨#[48]⟩ : ByteArray).data.toList z).toArray⟩ : ByteArray) = R := ⟨_, rfl⟩
  have hRl : R.data.toList = List.replicate z 48 := by rw [← hR]; exact rep_one 48 z
  have hRs : R.size = z := by rw [← len_size, hRl]; simp
  rw [hR] at hrep
  have h1 : (9223372036854775807 < P.size + R.size) = False := by simp; omega
  have h2 : (9223372036854775807 < (P ++ R).size + D.size) = False := by simp; omega
  have h3 : (9223372036854775807 < P.size + R.size + D.size) = False := by simp; omega
  have hfin : Hid (∀ X : ByteArray, X.data.toList = (P ++ R ++ D).data.toList → X.data.toList = P.data.toList ++ wrL n width) := hide fun X hX => by
    rw [hX]; unfold wrL; rw [hz]
    simp [hRl, hDl]
  replace hrep := hide hrep
  clear hD hDl hDs hz hR hRl hRs hlen
  go_enter Tryz.func127, Tryz.ntmps127
  go_wp2_with fail
  refine hit.mono ?_
  clear hit
  rintro e w1 ⟨rfl, k, os, rfl⟩
  have hb1 := Lib.below_grow w.heap.size w (Nat.le_refl _) k os
  obtain ⟨w1, hw1⟩ : ∃ w1, Sort.grow (w.drewN k) os = w1 := ⟨_, rfl⟩
  rw [hw1] at hb1 ⊢
  replace hw1 := hide hw1
  go_wp2_with fail
  refine (hrep.out _).mono ?_
  clear hrep
  rintro e w2 ⟨rfl, hb2⟩
  go_wp2
  go_ret
  exact ⟨_, rfl, hfin.out _ rfl, ext_trans hb1 hb2⟩
end Go.Proofs.YtnbcaklnpflihaaGreatDoor
