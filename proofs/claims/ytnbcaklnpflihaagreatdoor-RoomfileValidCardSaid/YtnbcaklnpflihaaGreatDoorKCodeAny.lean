/- Walks of fields.Scanner: Code, Parts. Conditions: the scanner's cells are as Scan says; texts shorter than 2^30 bytes. The statement TimegridTimes: its walk. No condition but what the program's variables hold. Laws that make a grid and two times: the state that they carry. Conditions: the numbers can be read; the program's variables hold what Std says. Walk of Scanner.Code, whether a problem is noted or not. Conditions: the scanner's cells are as Scan says. -/
import Derived.Test.YtnbcaklnpflihaaGreatDoorKDiceC
import Derived.Test.YtnbcaklnpflihaaGreatDoorKTgG
import Derived.RegionTactic
import Derived.BigRegion
import Derived.Deep.RegionHeld3
import Derived.Deep.DeepCutAuto
namespace Go.Proofs.YtnbcaklnpflihaaGreatDoor
open Go.RowKit
set_option maxRecDepth 100000

theorem Only.std {g : Nat} {w w' : World} (h : Only g w w') (hS : Std w) (hg : 10 ≤ g) : Std w' := hS.below (h.below (B := 10) hg hS.big) (Nat.le_refl _)
theorem Only.cell {g b o : Nat} {w w' : World} (h : Only g w w') (hb : b < w.heap.size) (hne : b ≠ g) : w'.cell? ⟨b, o, none⟩ = w.cell? ⟨b, o, none⟩ :=
  World.cell?_of_block (w := w) (h.block b hb (fun e => hne (by injection e)))
theorem Only.frozen {g b o : Nat} {w w' : World} (h : Only g w w') (hb : b < w.heap.size) (hne : b ≠ g) : w'.frozen? ⟨b, o, none⟩ = w.frozen? ⟨b, o, none⟩ :=
  World.frozen?_of_block (w := w) (h.block b hb (fun e => hne (by injection e)))
theorem FieldsAt.only {B g : Nat} {w w' : World} {F : Option Addr} {fs : List Fld} (h : FieldsAt B w F fs) (ho : Only g w w') (hB : B ≤ g) (hw : B ≤ w.heap.size) : FieldsAt B w' F fs :=
  h.below (ho.below hB hw)

set_option maxHeartbeats 800000 in
theorem fcode_walk (B g : Nat) (line : Int) (F : Option Addr) (fs : List Fld) (c k : Nat) (w : World) (h : Scan w g line F fs.length c k none) (hF : FieldsAt B w F fs) (h2 : k < fs.length) (hm : fs.length ≤ 1000) (hB : B ≤ g) :
    Calls Tryz.prog 40 #[.pointer (some ⟨g, 0, none⟩)] w fun end' w' => end' = .returned (.string (textAt fs k)) ∧ Scan w' g line F fs.length c (k + 1) (if codeB (textAt fs k) then none else some (line, colAt fs (k + 1), 10)) ∧ Only g w w' := by
  have hlt := h.lt
  cases hc : codeB (textAt fs k)
  all_goals
    replace hc := hide hc
    go_enter Tryz.func40, Tryz.ntmps40
    go_wp2_with fail
    refine (fnext_go B g line F fs c k w h hF h2 hm hB).mono ?_
    rintro e w1 ⟨rfl, hs1, ho1⟩
    go_wp2_with fail
    refine (cvalid_walk _ _).mono ?_
    rintro e w2 ⟨rfl, rfl⟩
    rw [hc.out]
    go_wp2_with fail
  · refine (fail_walk B g line F fs c (k + 1) none 10 w1 hs1 (hF.only ho1 hB (by omega)) (by omega) (by omega) hm).mono ?_
    rintro e w3 ⟨rfl, hs3, ho3⟩
    go_wp2
    go_ret
    exact ⟨rfl, hs3, ho1.trans ho3⟩
  · go_ret
    exact ⟨rfl, hs1, ho1⟩

/-- The parts of a text between semicolons; an empty one has none. -/
def partsOf (s : ByteArray) : List ByteArray := if s.size = 0 then [] else Lib.splitB ⟨#[59]⟩ 0 (Lib.countB s ⟨#[59]⟩) s
/-- A slice of strings, in a block of its own. -/
def PcsAt (w : World) (base : Nat) (A : Option Addr) (zs : List ByteArray) : Prop :=
  0 < zs.length → ∃ b, A = some ⟨b, 0, none⟩ ∧ base ≤ b ∧ b < w.heap.size ∧ ∀ j z, zs[j]? = some z → w.cell? ⟨b, j, none⟩ = some (.string z)
def PartsGives (w : World) (g : Nat) (line : Int) (F : Option Addr) (m c k : Nat) (zs : List ByteArray) (e : Ending) (w' : World) : Prop :=
  ∃ (A : Option Addr) (n : Nat), e = .returned (.slice A zs.length n) ∧ PcsAt w' w.heap.size A zs ∧ Scan w' g line F m c k none ∧ Only g w w'
set_option maxHeartbeats 800000 in
theorem fparts_go (B g : Nat) (line : Int) (F : Option Addr) (fs : List Fld) (c k : Nat) (w : World) (hS : Std w) (h : Scan w g line F fs.length c k none) (hF : FieldsAt B w F fs) (h2 : k < fs.length) (hm : fs.length ≤ 1000) (hB : B ≤ g) (hG : 10 ≤ g)
    (hs : (textAt fs k).size < 1073741824) :
    Calls Tryz.prog 81 #[.pointer (some ⟨g, 0, none⟩), .string ⟨#[59]⟩] w fun e w' => PartsGives w g line F fs.length c (k + 1) (partsOf (textAt fs k)) e w' := by
  obtain ⟨zs, hz⟩ : ∃ zs, partsOf (textAt fs k) = zs := ⟨_, rfl⟩
  rw [hz]
  replace hz := hide hz
  by_cases h0 : (textAt fs k).size = 0
  · have hzz : zs = [] := by have := hz.out; unfold partsOf at this; rw [if_pos h0] at this; exact this.symm
    subst hzz
    have e0 := isEmpty_true _ h0
    have e1 : (textAt fs k).toList = [] := List.isEmpty_iff.1 e0
    go_enter Tryz.func81, Tryz.ntmps81
    go_wp2_with fail
    refine (fnext_go B g line F fs c k w h hF h2 hm hB).mono ?_
    rintro e w1 ⟨rfl, hs1, ho1⟩
    go_wp2
    go_ret
    exact ⟨none, 0, rfl, fun hn => absurd hn (by simp), hs1, ho1⟩
  · have e0 := isEmpty_false _ h0
    have e1 : (textAt fs k).toList ≠ [] := fun e => by rw [e] at e0; cases e0
    have hz' : Hid (Lib.splitB ⟨#[59]⟩ 0 (Lib.countB (textAt fs k) ⟨#[59]⟩) (textAt fs k) = zs) := by
      have := hz.out; unfold partsOf at this; rw [if_neg h0] at this; exact this
    have hlt := h.lt
    go_enter Tryz.func81, Tryz.ntmps81
    go_wp2_with fail
    refine (fnext_go B g line F fs c k w h hF h2 hm hB).mono ?_
    rintro e w1 ⟨rfl, hs1, ho1⟩
    go_wp2_with fail
    refine (split_walk' 59 (textAt fs k) zs hz'.out (by omega) _ (ho1.std hS hG)).mono ?_
    rintro e w2 ⟨rfl, hb2, hcl⟩
    have hz2 := hb2.size
    have hlt2 : 0 < zs.length → w1.heap.size < w2.heap.size := fun hn => by
      obtain ⟨z, hzz⟩ : ∃ z, zs[0]? = some z := ⟨_, List.getElem?_eq_getElem hn⟩
      exact World.block_lt_of_cell? _ _ (hcl 0 z hzz)
    go_wp2
    go_ret
    exact ⟨_, _, rfl, fun hn => ⟨_, rfl, ho1.size, hlt2 hn, hcl⟩, hs1.later hb2, ho1.later hb2⟩
end Go.Proofs.YtnbcaklnpflihaaGreatDoor

namespace Go.Proofs.YtnbcaklnpflihaaGreatDoor
open Go.RowKit

theorem Box4.alloc {w : World} {g : Nat} {a b c d : Value} (h : Box4 w g a b c d) (o : Obj) : Box4 (w.alloc o) g a b c d := h.later (ext_alloc (Below.refl _ _) o)
theorem Box4.drew {w : World} {g : Nat} {a b c d : Value} (h : Box4 w g a b c d) : Box4 w.drew g a b c d := h.later (ext_drew (Below.refl _ _))

/-- The cells that the last statement reads. -/
abbrev Held (G g7 g8 : Nat) (d s b m a1 a2 a3 a4 b1 b2 b3 b4 : Int) (w0 W : World) : Prop := W.cell? ⟨G, 0, none⟩ = some (.int .i64 d) ∧ W.cell? ⟨G, 1, none⟩ = some (.int .i64 s) ∧ W.cell? ⟨G, 2, none⟩ = some (.int .i64 b) ∧ W.cell? ⟨G, 3, none⟩ = some (.int .i64 m) ∧ W.cell? ⟨g7, 0, none⟩ = some (.int .i64 a1) ∧ W.cell? ⟨g7, 1, none⟩ = some (.int .i64 a2) ∧ W.cell? ⟨g7, 2, none⟩ = some (.int .i64 a3) ∧ W.cell? ⟨g7, 3, none⟩ = some (.int .i64 a4) ∧ W.cell? ⟨g8, 0, none⟩ = some (.int .i64 b1) ∧ W.cell? ⟨g8, 1, none⟩ = some (.int .i64 b2) ∧ W.cell? ⟨g8, 2, none⟩ = some (.int .i64 b3) ∧ W.cell? ⟨g8, 3, none⟩ = some (.int .i64 b4) ∧ Std W ∧ Below w0.heap.size w0 W
theorem Held.later {G g7 g8 : Nat} {d s b m a1 a2 a3 a4 b1 b2 b3 b4 : Int} {w0 W W' : World} (h : Held G g7 g8 d s b m a1 a2 a3 a4 b1 b2 b3 b4 w0 W) (hb : Below W.heap.size W W') : Held G g7 g8 d s b m a1 a2 a3 a4 b1 b2 b3 b4 w0 W' := by
  obtain ⟨c0, c1, c2, c3, c4, c5, c6, c7, c8, c9, c10, c11, hS, h0⟩ := h
  exact ⟨cell_later hb c0, cell_later hb c1, cell_later hb c2, cell_later hb c3, cell_later hb c4, cell_later hb c5, cell_later hb c6, cell_later hb c7, cell_later hb c8, cell_later hb c9, cell_later hb c10, cell_later hb c11, hS.after hb, ext_trans h0 hb⟩
theorem Held.below {G g7 g8 : Nat} {d s b m a1 a2 a3 a4 b1 b2 b3 b4 : Int} {w0 W : World} (h : Held G g7 g8 d s b m a1 a2 a3 a4 b1 b2 b3 b4 w0 W) : Below w0.heap.size w0 W := by
  obtain ⟨-, -, -, -, -, -, -, -, -, -, -, -, -, h0⟩ := h
  exact h0
theorem keepS {P : Program} {f : FuncId} {args : Array Value} {w : World} {v : Value} {S : World → Prop} (hk : ∀ w', Below w.heap.size w w' → S w') (h : Calls P f args w fun e w' => e = .returned v ∧ Below w.heap.size w w') : Calls P f args w fun e w' => e = .returned v ∧ S w' :=
  h.mono fun _ w' ⟨he, hb⟩ => ⟨he, hk w' hb⟩

end Go.Proofs.YtnbcaklnpflihaaGreatDoor

namespace Go.Proofs.YtnbcaklnpflihaaGreatDoor
open Go.RowKit

theorem size_drew' (w : World) : w.drew.heap.size = w.heap.size := rfl
/-- A time that fits a grid of d days and s slots, in n weeks. -/
structure TimeB (n : Nat) (d s x1 x2 x3 x4 : Int) : Prop where
  w1 : 1 ≤ x1
  w2 : x1 < ((2 ^ n : Nat) : Int)
  d1 : 0 ≤ x2
  d2 : x2 < d
  s1 : 0 ≤ x3
  l1 : 1 ≤ x4
  s2 : x3 + x4 ≤ s
theorem Box4.setOther {w : World} {g c : Nat} {a b x0 x1 x : Value} (h : Box4 w g a b x0 x1) (hne : g ≠ c) (j : Nat) : Box4 (w.setCell ⟨c, j, none⟩ x) g a b x0 x1 := by
  have ho : ∀ y, (w.setCell ⟨c, j, none⟩ x).cell? ⟨g, y, none⟩ = w.cell? ⟨g, y, none⟩ := fun y => World.cell?_setCell_other _ _ _ _ (fun e => hne (by injection e with e1; exact e1.symm))
  exact ⟨(ho _).trans h.c0, (ho _).trans h.c1, (ho _).trans h.c2, (ho _).trans h.c3⟩
theorem box_other {w : World} {g c : Nat} {a b x0 x1 : Value} (h : Box4 w g a b x0 x1) (hne : g ≠ c) (y0 y1 y2 y3 : Value) :
    Box4 ((((w.setCell ⟨c, 0, none⟩ y0).setCell ⟨c, 1, none⟩ y1).setCell ⟨c, 2, none⟩ y2).setCell ⟨c, 3, none⟩ y3) g a b x0 x1 :=
  (((h.setOther hne 0).setOther hne 1).setOther hne 2).setOther hne 3
theorem box_same {w : World} {c : Nat} (h : ∀ j, j < 4 → ∃ v, w.cell? ⟨c, j, none⟩ = some v) (y0 y1 y2 y3 : Value) :
    Box4 ((((w.setCell ⟨c, 0, none⟩ y0).setCell ⟨c, 1, none⟩ y1).setCell ⟨c, 2, none⟩ y2).setCell ⟨c, 3, none⟩ y3) c y0 y1 y2 y3 := by
  obtain ⟨q0, q1, q2, q3⟩ := set4_cells w c y0 y1 y2 y3 h _ rfl
  exact ⟨q0, q1, q2, q3⟩
theorem box_new {w : World} {c : Nat} (hc : c = w.heap.size) (y0 y1 y2 y3 : Value) (t : TypeId) : Box4 (w.alloc (.cells #[y0, y1, y2, y3] t)) c y0 y1 y2 y3 := by
  subst hc; exact Box4.new _ _ _ _ _ _
theorem size_set (w : World) (p : Addr) (u : Value) : (w.setCell p u).heap.size = w.heap.size := by simp [World.setCell]
theorem boxes_at {K : Nat} {W : World} (h : Boxes K W) {c : Nat} (h1 : K ≤ c) (h2 : c < W.heap.size) : ∀ j, j < 4 → ∃ v, W.cell? ⟨c, j, none⟩ = some v := (h c h1 h2).1
theorem free_set {w : World} {g : Nat} (h : Free w g) (p : Addr) (u : Value) : Free (w.setCell p u) g := ⟨by rw [size_set]; exact h.1, fun j => by rw [World.frozen?_setCell]; exact h.2 j⟩
theorem std_set4 {c : Nat} {w : World} (h : Std w) (hc : 10 ≤ c) (y0 y1 y2 y3 : Value) : Std ((((w.setCell ⟨c, 0, none⟩ y0).setCell ⟨c, 1, none⟩ y1).setCell ⟨c, 2, none⟩ y2).setCell ⟨c, 3, none⟩ y3) :=
  h.below (B := 10) (((((Below.refl _ _).setCell (p := ⟨c, 0, none⟩) hc _).setCell (p := ⟨c, 1, none⟩) hc _).setCell (p := ⟨c, 2, none⟩) hc _).setCell (p := ⟨c, 3, none⟩) hc _) (Nat.le_refl _)
theorem free_set4 {w : World} {g : Nat} (h : Free w g) (c : Nat) (y0 y1 y2 y3 : Value) : Free ((((w.setCell ⟨c, 0, none⟩ y0).setCell ⟨c, 1, none⟩ y1).setCell ⟨c, 2, none⟩ y2).setCell ⟨c, 3, none⟩ y3) g :=
  free_set (free_set (free_set (free_set h _ _) _ _) _ _) _ _
end Go.Proofs.YtnbcaklnpflihaaGreatDoor

namespace Go.Proofs.YtnbcaklnpflihaaGreatDoor
open Go.RowKit
set_option maxRecDepth 100000

def CodeAny (g : Nat) (line : Int) (F : Option Addr) (fs : List Fld) (c k : Nat) (pr : Option Prob) (w : World) (e : Ending) (w' : World) : Prop :=
  ∃ (k' : Nat) (t : ByteArray) (pr' : Option Prob), e = .returned (.string t) ∧ Scan w' g line F fs.length c k' pr' ∧ Only g w w' ∧ 1 ≤ k' ∧ k' ≤ k + 1 ∧ (pr = none → k' = k + 1 ∧ t = textAt fs k ∧ pr' = if codeB (textAt fs k) then none else some (line, colAt fs (k + 1), 10)) ∧ (∀ p, pr = some p → pr' = some p)
set_option maxHeartbeats 800000 in
theorem code_any (B g : Nat) (line : Int) (F : Option Addr) (fs : List Fld) (c k : Nat) (pr : Option Prob) (w : World) (h : Scan w g line F fs.length c k pr) (hF : FieldsAt B w F fs) (h2 : k < fs.length) (hm : fs.length ≤ 1000) (hB : B ≤ g) (h1 : ∀ p, pr = some p → 1 ≤ k) :
    Calls Tryz.prog 40 #[.pointer (some ⟨g, 0, none⟩)] w fun e w' => CodeAny g line F fs c k pr w e w' := by
  cases pr with
  | none =>
    refine (fcode_walk B g line F fs c k w h hF h2 hm hB).mono ?_
    rintro e w' ⟨rfl, hs, ho⟩
    exact ⟨k + 1, _, _, rfl, hs, ho, by omega, Nat.le_refl _, fun _ => ⟨rfl, rfl, rfl⟩, fun p hp => by cases hp⟩
  | some p =>
    have hk := h1 p rfl
    have hv := cvalid_walk ⟨#[]⟩
    rw [show codeB ⟨#[]⟩ = false from codeB_no (by decide)] at hv
    go_enter Tryz.func40, Tryz.ntmps40
    go_wp2_with fail
    refine (fnext_stop g line F fs.length c k p w h).mono ?_
    rintro e w1 ⟨rfl, rfl⟩
    go_wp2_with fail
    refine (hv w).mono ?_
    rintro e w2 ⟨rfl, rfl⟩
    go_wp2_with fail
    refine (fail_walk B g line F fs c k (some p) 10 w h hF hk (by omega) hm).mono ?_
    rintro e w3 ⟨rfl, hs3, ho3⟩
    go_wp2
    go_ret
    exact ⟨k, _, _, rfl, hs3, ho3, hk, by omega, (fun hp => by cases hp), fun q hq => hq⟩
end Go.Proofs.YtnbcaklnpflihaaGreatDoor
