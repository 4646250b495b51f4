/- Walks of fields.Scanner: Code, Parts. Conditions: the scanner's cells are as Scan says; texts shorter than 2^30 bytes. -/
import Derived.Test.YtgbkochjoaalhaaGreatDoorFields
import Derived.Test.YtgbkochjoaalhaaGreatDoorTgF
namespace Go.Proofs.YtgbkochjoaalhaaGreatDoor
open Go.RowKit
set_option maxRecDepth 100000

theorem Only.std {g : Nat} {w w' : World} (h : Only g w w') (hS : Std w) (hg : 11 ≤ g) : Std w' := hS.below (h.below (B := 11) hg hS.big) (Nat.le_refl _)
theorem Only.cell {g b o : Nat} {w w' : World} (h : Only g w w') (hb : b < w.heap.size) (hne : b ≠ g) : w'.cell? ⟨b, o, none⟩ = w.cell? ⟨b, o, none⟩ :=
  World.cell?_of_block (w := w) (h.block b hb (fun e => hne (by injection e)))
theorem Only.frozen {g b o : Nat} {w w' : World} (h : Only g w w') (hb : b < w.heap.size) (hne : b ≠ g) : w'.frozen? ⟨b, o, none⟩ = w.frozen? ⟨b, o, none⟩ :=
  World.frozen?_of_block (w := w) (h.block b hb (fun e => hne (by injection e)))
theorem FieldsAt.only {B g : Nat} {w w' : World} {F : Option Addr} {fs : List Fld} (h : FieldsAt B w F fs) (ho : Only g w w') (hB : B ≤ g) (hw : B ≤ w.heap.size) : FieldsAt B w' F fs :=
  h.below (ho.below hB hw)

set_option maxHeartbeats 800000 in
theorem fcode_walk (B g : Nat) (line : Int) (F : Option Addr) (fs : List Fld) (c k : Nat) (w : World) (h : Scan w g line F fs.length c k none) (hF : FieldsAt B w F fs) (h2 : k < fs.length) (hm : fs.length ≤ 1000) (hB : B ≤ g) :
    Calls Tryz.prog 82 #[.pointer (some ⟨g, 0, none⟩)] w fun end' w' => end' = .returned (.string (textAt fs k)) ∧ Scan w' g line F fs.length c (k + 1) (if codeB (textAt fs k) then none else some (line, colAt fs (k + 1), 10)) ∧ Only g w w' := by
  have hlt := h.lt
  cases hc : codeB (textAt fs k)
  all_goals
    replace hc := hide hc
    go_enter Tryz.func82, Tryz.ntmps82
    go_wp2_with fail
    refine (fnext_go B g line F fs c k w h hF h2 hm hB).mono ?_
    rintro e w1 ⟨rfl, hs1, ho1⟩
    go_wp2_with fail
    refine (cvalid_walk _ _).mono ?_
    rintro e w2 ⟨rfl, rfl⟩
    rw [hc.out]
    go_wp2_with fail
  · refine (fail_walk B g line F fs c (k + 1) none 10 w1 hs1 (hF.only ho1 hB (by omega)) (by omega) (by omega) hm).mono ?_
    rintro e w3 ⟨rfl, hs3, ho3⟩
    go_wp2
    go_ret
    exact ⟨rfl, hs3, ho1.trans ho3⟩
  · go_ret
    exact ⟨rfl, hs1, ho1⟩

/-- The parts of a text between semicolons; an empty one has none. -/
def partsOf (s : ByteArray) : List ByteArray := if s.size = 0 then [] else Lib.splitB ⟨#[59]⟩ 0 (Lib.countB s ⟨#[59]⟩) s
/-- A slice of strings, in a block of its own. -/
def PcsAt (w : World) (base : Nat) (A : Option Addr) (zs : List ByteArray) : Prop :=
  0 < zs.length → ∃ b, A = some ⟨b, 0, none⟩ ∧ base ≤ b ∧ b < w.heap.size ∧ ∀ j z, zs[j]? = some z → w.cell? ⟨b, j, none⟩ = some (.string z)
def PartsGives (w : World) (g : Nat) (line : Int) (F : Option Addr) (m c k : Nat) (zs : List ByteArray) (e : Ending) (w' : World) : Prop :=
  ∃ (A : Option Addr) (n : Nat), e = .returned (.slice A zs.length n) ∧ PcsAt w' w.heap.size A zs ∧ Scan w' g line F m c k none ∧ Only g w w'
set_option maxHeartbeats 800000 in
theorem fparts_go (B g : Nat) (line : Int) (F : Option Addr) (fs : List Fld) (c k : Nat) (w : World) (hS : Std w) (h : Scan w g line F fs.length c k none) (hF : FieldsAt B w F fs) (h2 : k < fs.length) (hm : fs.length ≤ 1000) (hB : B ≤ g) (hG : 11 ≤ g)
    (hs : (textAt fs k).size < 1073741824) :
    Calls Tryz.prog 116 #[.pointer (some ⟨g, 0, none⟩), .string ⟨#[59]⟩] w fun e w' => PartsGives w g line F fs.length c (k + 1) (partsOf (textAt fs k)) e w' := by
  obtain ⟨zs, hz⟩ : ∃ zs, partsOf (textAt fs k) = zs := ⟨_, rfl⟩
  rw [hz]
  replace hz := hide hz
  by_cases h0 : (textAt fs k).size = 0
  · have hzz : zs = [] := by have := hz.out; unfold partsOf at this; rw [if_pos h0] at this; exact this.symm
    subst hzz
    have e0 := isEmpty_true _ h0
    have e1 : (textAt fs k).toList = [] := List.isEmpty_iff.1 e0
    go_enter Tryz.func116, Tryz.ntmps116
    go_wp2_with fail
    refine (fnext_go B g line F fs c k w h hF h2 hm hB).mono ?_
    rintro e w1 ⟨rfl, hs1, ho1⟩
    go_wp2
    go_ret
    exact ⟨none, 0, rfl, fun hn => absurd hn (by simp), hs1, ho1⟩
  · have e0 := isEmpty_false _ h0
    have e1 : (textAt fs k).toList ≠ [] := fun e => by rw [e] at e0; cases e0
    have hz' : Hid (Lib.splitB ⟨#[59]⟩ 0 (Lib.countB (textAt fs k) ⟨#[59]⟩) (textAt fs k) = zs) := by
      have := hz.out; unfold partsOf at this; rw [if_neg h0] at this; exact this
    have hlt := h.lt
    go_enter Tryz.func116, Tryz.ntmps116
    go_wp2_with fail
    refine (fnext_go B g line F fs c k w h hF h2 hm hB).mono ?_
    rintro e w1 ⟨rfl, hs1, ho1⟩
    go_wp2_with fail
    refine (split_walk' 59 (textAt fs k) zs hz'.out (by omega) _ (ho1.std hS hG)).mono ?_
    rintro e w2 ⟨rfl, hb2, hcl⟩
    have hz2 := hb2.size
    have hlt2 : 0 < zs.length → w1.heap.size < w2.heap.size := fun hn => by
      obtain ⟨z, hzz⟩ : ∃ z, zs[0]? = some z := ⟨_, List.getElem?_eq_getElem hn⟩
      exact World.block_lt_of_cell? _ _ (hcl 0 z hzz)
    go_wp2
    go_ret
    exact ⟨_, _, rfl, fun hn => ⟨_, rfl, ho1.size, hlt2 hn, hcl⟩, hs1.later hb2, ho1.later hb2⟩
end Go.Proofs.YtgbkochjoaalhaaGreatDoor
