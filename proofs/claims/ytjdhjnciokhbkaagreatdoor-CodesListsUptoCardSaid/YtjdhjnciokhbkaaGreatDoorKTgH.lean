/- Walk of timegrid.Format. No condition. -/
import Derived.Test.YtjdhjnciokhbkaaGreatDoorKWsF
import Derived.Test.YtjdhjnciokhbkaaGreatDoorKTgF
import Derived.Test.YtjdhjnciokhbkaaGreatDoorKTgC
import Derived.Test.YtjdhjnciokhbkaaGreatDoorKDice
import Derived.RegionTactic
import Derived.BigRegion
import Derived.Deep.RegionHeld3
import Derived.Deep.DeepCutAuto
namespace Go.Proofs.YtjdhjnciokhbkaaGreatDoor
open Go.RowKit
set_option maxRecDepth 100000

def dayB (k : Nat) : ByteArray := dayNames.getD k ByteArray.empty
theorem dayB_size (k : Nat) : (dayB k).size ≤ 2 := by
  unfold dayB
  match k with
  | 0 | 1 | 2 | 3 | 4 | 5 | 6 => decide
  | k + 7 => simp [dayNames]
/-- The text of a time: day and slots. -/
def slotT (p q : Nat) : List UInt8 := dec2 (p + 1) ++ if 1 < q then 45 :: dec2 (p + q) else []
def timeT (n x1 k p q : Nat) : List UInt8 := (dayB k).data.toList ++ 32 :: slotT p q ++ if x1 = 2 ^ n - 1 then [] else 32 :: formatL x1 n
/-- What Format returns. -/
def fmtT (d s b m n x1 x2 x3 x4 : Int) : List UInt8 × Int := if fitsV d s b m n x1 x2 x3 x4 = 0 then (timeT n.toNat x1.toNat x2.toNat x3.toNat x4.toNat, 0) else ([], fitsV d s b m n x1 x2 x3 x4)
structure FitsB (d s n x1 x2 x3 x4 : Int) : Prop where
  n1 : 1 ≤ n
  n2 : n ≤ 20
  v : validB x1 n = true
  w1 : 1 ≤ x1
  d1 : 0 ≤ x2
  d2 : x2 < 7
  d3 : x2 < d
  s1 : 0 ≤ x3
  l1 : 1 ≤ x4
  s2 : x3 + x4 ≤ 24
  s3 : x3 + x4 ≤ s
theorem fits_parts {d s b m n x1 x2 x3 x4 : Int} (h : fitsV d s b m n x1 x2 x3 x4 = 0) : weekB d s b m n = true ∧ FitsB d s n x1 x2 x3 x4 := by
  unfold fitsV at h
  cases hw : weekB d s b m n
  · rw [if_pos hw] at h; omega
  · rw [if_neg (by simp [hw])] at h
    by_cases hc : soundB x1 x2 x3 x4 = false ∨ validB x1 n = false ∨ d ≤ x2 ∨ s < x3 + x4
    · rw [if_pos hc] at h; omega
    · have hn : 1 ≤ n ∧ n ≤ 20 := by
        simp only [weekB, Bool.and_eq_true, decide_eq_true_eq] at hw; exact hw.2
      have hs : soundB x1 x2 x3 x4 = true := by
        cases hx : soundB x1 x2 x3 x4
        · exact absurd (Or.inl hx) hc
        · rfl
      have hv : validB x1 n = true := by
        cases hx : validB x1 n
        · exact absurd (Or.inr (Or.inl hx)) hc
        · rfl
      obtain ⟨⟨a1, -⟩, a2, a3, a4, a5, a6⟩ := soundB_parts hs
      exact ⟨rfl, hn.1, hn.2, hv, a1, a2, a3, by omega, a4, a5, a6, by omega⟩
abbrev HeldF (K : Nat) (x1 x2 x3 x4 : Int) (w0 W : World) : Prop := W.cell? ⟨K, 0, none⟩ = some (.int .i64 x1) ∧ W.cell? ⟨K, 1, none⟩ = some (.int .i64 x2) ∧ W.cell? ⟨K, 2, none⟩ = some (.int .i64 x3) ∧ W.cell? ⟨K, 3, none⟩ = some (.int .i64 x4) ∧ Below w0.heap.size w0 W
theorem HeldF.later {K : Nat} {x1 x2 x3 x4 : Int} {w0 W W' : World} (h : HeldF K x1 x2 x3 x4 w0 W) (hb : Below W.heap.size W W') : HeldF K x1 x2 x3 x4 w0 W' :=
  ⟨cell_later hb h.1, cell_later hb h.2.1, cell_later hb h.2.2.1, cell_later hb h.2.2.2.1, ext_trans h.2.2.2.2 hb⟩
theorem keepF {P : Program} {f : FuncId} {args : Array Value} {v : Value} {K : Nat} {x1 x2 x3 x4 : Int} {w0 W : World} (h : HeldF K x1 x2 x3 x4 w0 W) (hc : Calls P f args W fun e w' => e = .returned v ∧ Below W.heap.size W w') :
    Calls P f args W fun e w' => e = .returned v ∧ HeldF K x1 x2 x3 x4 w0 w' := hc.mono fun _ _ ⟨he, hb⟩ => ⟨he, h.later hb⟩
theorem itoa_below (a : Int) (h0 : 0 ≤ a) (h1 : a < 100) (w : World) :
    Calls Tryz.prog 124 #[.int .i64 a] w fun e w' => e = .returned (.string ⟨(dec2 a.toNat).toArray⟩) ∧ Below w.heap.size w w' :=
  (itoa_walk a h0 h1 w).mono fun _ _ ⟨he, hw⟩ => ⟨he, by rw [hw]; exact Below.refl _ _⟩
theorem ret_sv {a : ByteArray} {l : List UInt8} {k : IntKind} {c : Int} (h : a.data.toList = l) : Ending.returned (.tuple #[.string a, .int k c]) = .returned (.tuple #[.string ⟨l.toArray⟩, .int k c]) := by
  subst h; rfl
theorem timeT_eq (n x1 k p q : Nat) (A B : List UInt8) (hA : (if 1 < q then 45 :: dec2 (p + q) else []) = A) (hB : (if x1 = 2 ^ n - 1 then [] else 32 :: formatL x1 n) = B) : timeT n x1 k p q = (dayB k).data.toList ++ 32 :: (dec2 (p + 1) ++ A) ++ B := by
  unfold timeT slotT; rw [hA, hB]
end Go.Proofs.YtjdhjnciokhbkaaGreatDoor
