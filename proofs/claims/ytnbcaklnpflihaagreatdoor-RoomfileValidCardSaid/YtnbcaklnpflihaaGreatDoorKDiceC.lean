/- Walks of package timetablemade: the dice that make inputs out of numbers. What they give is told by its bounds alone. Walks of fields.Scanner: Fail, Whole, Next, Code. Conditions: the scanner's cells are as Scan says. Walks of package timetablemade, on: times. Walks of package timetablemade, on: odd times and odd grids: what they give is of no interest but for its shape. -/
import Derived.Test.YtnbcaklnpflihaaGreatDoorKEnds
import Derived.RegionTactic
import Derived.BigRegion
import Derived.Deep.RegionHeld3
import Derived.Deep.DeepCutAuto
import Derived.Test.YtnbcaklnpflihaaGreatDoorKTgC
namespace Go.Proofs.YtnbcaklnpflihaaGreatDoor
open Go.RowKit

/-- n modulo m, from 0 on; 0 if m is less than 1. -/
def modV (x m : Int) : Int := if m < 1 then 0 else if x.tmod m < 0 then x.tmod m + m else x.tmod m
theorem tmod_bd (x m : Int) (h : 1 ≤ m) : -m < x.tmod m ∧ x.tmod m < m := by
  have h1 := Int.tmod_lt_of_pos x (by omega : 0 < m)
  have h2 := Int.lt_tmod_of_pos x (by omega : 0 < m)
  omega
theorem modV_bd (x m : Int) : 0 ≤ modV x m ∧ (1 ≤ m → modV x m < m) ∧ (m < 1 → modV x m = 0) := by
  unfold modV
  by_cases h : m < 1
  · rw [if_pos h]; exact ⟨by omega, by omega, fun _ => rfl⟩
  · rw [if_neg h]
    have := tmod_bd x m (by omega)
    split <;> exact ⟨by omega, by omega, by omega⟩
theorem only_drewN {a w : World} {row : Option Nat} (h : a.grownBy w row) (n : Nat) : a.grownBy (w.drewN n) row := ⟨h.os, h.tape, h.output, h.size, h.block⟩
theorem only_alloc {a w : World} {row : Option Nat} (h : a.grownBy w row) (o : Obj) : a.grownBy (w.alloc o) row :=
  ⟨h.os, h.tape, h.output, Nat.le_trans h.size (by simp), fun i hi hne => (Below.heap_alloc w o i (Nat.lt_of_lt_of_le hi h.size)).trans (h.block i hi hne)⟩
theorem only_setCell {a w : World} {g : Nat} (h : a.grownBy w (some g)) {p : Addr} (hp : p.block = g ∨ a.heap.size ≤ p.block) (u : Value) : a.grownBy (w.setCell p u) (some g) :=
  ⟨h.os, h.tape, h.output, by simpa [World.setCell] using h.size, fun i hi hne => (Below.heap_setCell w p u i (by
    rintro rfl
    rcases hp with hp | hp
    · exact hne (by rw [hp])
    · omega)).trans (h.block i hi hne)⟩
theorem only_of_below {a w : World} (h : Below a.heap.size a w) (row : Option Nat) : a.grownBy w row := ⟨h.os, h.tape, h.output, h.size, fun i hi _ => h.block i hi⟩
theorem Box4.four {w : World} {g : Nat} {a b c d : Value} (h : Box4 w g a b c d) : ∀ j, j < 4 → ∃ v, w.cell? ⟨g, j, none⟩ = some v := by
  intro j hj
  match j, hj with
  | 0, _ => exact ⟨_, h.c0⟩
  | 1, _ => exact ⟨_, h.c1⟩
  | 2, _ => exact ⟨_, h.c2⟩
  | 3, _ => exact ⟨_, h.c3⟩
/-- No cell of block g is frozen. -/
def Free (w : World) (g : Nat) : Prop := g < w.heap.size ∧ ∀ j, w.frozen? ⟨g, j, none⟩ = false
theorem Free.new (w : World) (t : TypeId) (cs : Array Value) : Free (w.alloc (.cells cs t)) w.heap.size := ⟨by simp, fun j => by simp⟩
theorem Free.later {w w' : World} {g : Nat} (h : Free w g) (hb : Below w.heap.size w w') : Free w' g := ⟨Nat.lt_of_lt_of_le h.1 hb.size, fun j => (hb.frozen (p := ⟨g, j, none⟩) h.1).trans (h.2 j)⟩
theorem quiet_left {P : Program} {f : FuncId} {args : Array Value} {w : World} {n : Nat} {v : Value}
    (h : Calls P f args (w.drewN n) fun e w' => e = .returned v ∧ w.drewN n = w') : Calls P f args (w.drewN n) fun e w'' => e = .returned v ∧ ∃ m, w'' = w.drewN m :=
  h.mono fun _ _ ⟨he, hm⟩ => ⟨he, n, hm.symm⟩
theorem pow_facts2 (n : Nat) (h1 : 1 ≤ n) (h : n ≤ 20) : wrap64 ((2 : Int) ^ n) = (2 : Int) ^ n ∧ wrap64 ((2 : Int) ^ n - 1) = ((2 ^ n - 1 : Nat) : Int) ∧ 2 ≤ 2 ^ n ∧ 2 ^ n ≤ 1048576 := by
  have hp := pow_small n h
  have h2 : 2 ^ 1 ≤ 2 ^ n := Nat.pow_le_pow_right (by omega) h1
  have e : ((2 : Int) ^ n) = ((2 ^ n : Nat) : Int) := by simp
  refine ⟨(wrap64_pow n h).trans e.symm, ?_, by omega, hp⟩
  rw [e]
  generalize 2 ^ n = m at hp h2
  rw [show ((m : Int) - 1) = ((m - 1 : Nat) : Int) from by omega]
  exact IntWalk.wrap64_in _ ⟨by omega, by omega⟩
theorem odd_mask (n : Nat) (h1 : 1 ≤ n) (h : n ≤ 20) : 1 ≤ 349525 &&& (2 ^ n - 1) ∧ 349525 &&& (2 ^ n - 1) < 2 ^ n := by
  have key : ∀ k : Nat, k < 21 → 1 ≤ k → 1 ≤ 349525 &&& (2 ^ k - 1) ∧ 349525 &&& (2 ^ k - 1) < 2 ^ k := by decide +kernel
  exact key n (by omega) h1
/-- The blocks from K on are open boxes of four cells. -/
def Boxes (K : Nat) (W : World) : Prop := ∀ c, K ≤ c → c < W.heap.size → (∀ j, j < 4 → ∃ v, W.cell? ⟨c, j, none⟩ = some v) ∧ ∀ j, W.frozen? ⟨c, j, none⟩ = false
theorem Boxes.alloc {K : Nat} {W : World} (h : Boxes K W) (x0 x1 x2 x3 : Value) (t : TypeId) : Boxes K (W.alloc (.cells #[x0, x1, x2, x3] t)) := by
  intro c h1 h2
  have hN := Box4.new W t x0 x1 x2 x3
  have hF := Free.new W t #[x0, x1, x2, x3]
  have hb : Below W.heap.size W (W.alloc (.cells #[x0, x1, x2, x3] t)) := ext_alloc (Below.refl _ _) _
  rw [World.size_alloc] at h2
  by_cases e : c = W.heap.size
  · subst e; exact ⟨hN.four, hF.2⟩
  · refine ⟨fun j hj => ?_, fun j => (hb.frozen (p := ⟨c, j, none⟩) (by show c < W.heap.size; omega)).trans ((h c h1 (by omega)).2 j)⟩
    obtain ⟨v, hv⟩ := (h c h1 (by omega)).1 j hj
    exact ⟨v, cell_later hb hv⟩
theorem Boxes.set {K : Nat} {W : World} (h : Boxes K W) (p : Addr) (u : Value) : Boxes K (W.setCell p u) := by
  intro c h1 h2
  have hs : (W.setCell p u).heap.size = W.heap.size := by simp [World.setCell]
  refine ⟨fun j hj => ?_, fun j => ?_⟩
  · obtain ⟨v, hv⟩ := (h c h1 (by omega)).1 j hj
    exact cell?_setCell_some hv
  · rw [World.frozen?_setCell]; exact (h c h1 (by omega)).2 j
theorem Boxes.none {W W' : World} (h : W'.heap.size = W.heap.size) : Boxes W.heap.size W' := fun c h1 h2 => by omega
/-- What a cell holds. -/
def cellOf (W : World) (c j : Nat) : Value := (W.cell? ⟨c, j, none⟩).getD undef
theorem cellOf_eq {W : World} {c j : Nat} {v : Value} (h : W.cell? ⟨c, j, none⟩ = some v) : W.cell? ⟨c, j, none⟩ = some (cellOf W c j) := by
  unfold cellOf; rw [h]; rfl
attribute [irreducible] cellOf
/-- Contracts that hand the state on. -/
def Gives (S : World → Prop) (lo hi : Int) (w : World) (e : Ending) (w' : World) : Prop := ∃ v : Int, e = .returned (.int .i64 v) ∧ lo ≤ v ∧ v < hi ∧ w'.heap.size = w.heap.size ∧ S w'
end Go.Proofs.YtnbcaklnpflihaaGreatDoor

namespace Go.Proofs.YtnbcaklnpflihaaGreatDoor
open Go.RowKit
set_option maxRecDepth 100000

/-- A field of a record: its text, its column, whether it was quoted. -/
abbrev Fld := ByteArray × Int × Bool
/-- A problem: line, column, code. -/
abbrev Prob := Int × Int × Int
/-- Block h holds a problem. -/
def ProbAt (w : World) (h : Nat) (p : Prob) : Prop := w.heap[h]? = some (.cells #[.int .i64 0, .int .i64 p.1, .int .i64 p.2.1, .int .i64 p.2.2] 56 (0, 0))
/-- What the pointer to the problem says. -/
def ProbIs (w : World) (v : Value) : Option Prob → Prop
  | none => v = .pointer none
  | some p => ∃ h, v = .pointer (some ⟨h, 0, none⟩) ∧ ProbAt w h p
/-- Block g is a scanner of a record, at field k, with a problem or none. -/
def Scan (w : World) (g : Nat) (line : Int) (F : Option Addr) (m c k : Nat) (pr : Option Prob) : Prop :=
  ∃ v, w.heap[g]? = some (.cells #[.int .i64 line, .slice F m c, .int .i64 k, v] 108 (0, 0)) ∧ ProbIs w v pr
/-- The fields of a record, in blocks below B. -/
def FieldsAt (B : Nat) (w : World) (F : Option Addr) (fs : List Fld) : Prop :=
  0 < fs.length → ∃ b off, F = some ⟨b, off, none⟩ ∧ b < B ∧ ∀ j (hj : j < fs.length), w.cell? ⟨b, off + j * 3, none⟩ = some (.string fs[j].1) ∧ w.cell? ⟨b, off + j * 3 + 1, none⟩ = some (.int .i64 fs[j].2.1) ∧ w.cell? ⟨b, off + j * 3 + 2, none⟩ = some (.bool fs[j].2.2)
theorem FieldsAt.kept {B : Nat} {w w' : World} {F : Option Addr} {fs : List Fld} (h : FieldsAt B w F fs) (hk : ∀ b o, b < B → w'.cell? ⟨b, o, none⟩ = w.cell? ⟨b, o, none⟩) : FieldsAt B w' F fs := by
  intro hn
  obtain ⟨b, off, e, hb, hc⟩ := h hn
  exact ⟨b, off, e, hb, fun j hj => by obtain ⟨c0, c1, c2⟩ := hc j hj; exact ⟨(hk _ _ hb).trans c0, (hk _ _ hb).trans c1, (hk _ _ hb).trans c2⟩⟩
theorem FieldsAt.below {B : Nat} {w w' : World} {F : Option Addr} {fs : List Fld} (h : FieldsAt B w F fs) (hb : Below B w w') : FieldsAt B w' F fs := h.kept fun b o hlt => hb.cell (p := ⟨b, o, none⟩) hlt
theorem FieldsAt.more {B C : Nat} {w : World} {F : Option Addr} {fs : List Fld} (h : FieldsAt B w F fs) (hB : B ≤ C) : FieldsAt C w F fs := by
  intro hn
  obtain ⟨b, off, e, hb, hc⟩ := h hn
  exact ⟨b, off, e, by omega, hc⟩
/-- Of what was there, block g alone may have turned. -/
abbrev Only (g : Nat) (w w' : World) : Prop := w.grownBy w' (some g)
theorem Only.refl (g : Nat) (w : World) : Only g w w := World.grownBy.refl _ _
theorem Only.below {B g : Nat} {w w' : World} (h : Only g w w') (hB : B ≤ g) (hw : B ≤ w.heap.size) : Below B w w' :=
  Below.grown (Below.refl _ _) h hw (fun k hk => by injection hk with hk; omega)
theorem Only.later {g : Nat} {a b c : World} (h : Only g a b) (k : Below b.heap.size b c) : Only g a c := h.trans (only_of_below k _)
theorem ProbAt.of_block {w w' : World} {h : Nat} {p : Prob} (hp : ProbAt w h p) (hb : w'.heap[h]? = w.heap[h]?) : ProbAt w' h p := hb.trans hp
theorem blk_lt {w : World} {h : Nat} {o : Obj} (e : w.heap[h]? = some o) : h < w.heap.size := (Array.getElem?_eq_some_iff.1 e).1
theorem ProbIs.later {w w' : World} {v : Value} {pr : Option Prob} (h : ProbIs w v pr) (hb : Below w.heap.size w w') : ProbIs w' v pr := by
  cases pr with
  | none => exact h
  | some p => obtain ⟨x, e, hp⟩ := h; exact ⟨x, e, hp.of_block (hb.block x (blk_lt hp))⟩
theorem Scan.later {w w' : World} {g : Nat} {line : Int} {F : Option Addr} {m c k : Nat} {pr : Option Prob} (h : Scan w g line F m c k pr) (hb : Below w.heap.size w w') : Scan w' g line F m c k pr := by
  obtain ⟨v, hg, hp⟩ := h
  exact ⟨v, (hb.block g (blk_lt hg)).trans hg, hp.later hb⟩
theorem Scan.lt {w : World} {g : Nat} {line : Int} {F : Option Addr} {m c k : Nat} {pr : Option Prob} (h : Scan w g line F m c k pr) : g < w.heap.size := by
  obtain ⟨v, hg, _⟩ := h; exact blk_lt hg
/-- A problem is noted, if there was none. -/
def noted (pr : Option Prob) (wrong : Bool) (p : Prob) : Option Prob := match pr with
  | some q => some q
  | none => if wrong then some p else none
def colAt (fs : List Fld) (k : Nat) : Int := (fs.getD (k - 1) (⟨#[]⟩, 0, false)).2.1
def textAt (fs : List Fld) (k : Nat) : ByteArray := (fs.getD k (⟨#[]⟩, 0, false)).1
theorem scan_cells {w : World} {g : Nat} {x0 x1 x2 x3 : Value} {t : TypeId} (h : w.heap[g]? = some (.cells #[x0, x1, x2, x3] t (0, 0))) :
    w.cell? ⟨g, 0, none⟩ = some x0 ∧ w.cell? ⟨g, 1, none⟩ = some x1 ∧ w.cell? ⟨g, 2, none⟩ = some x2 ∧ w.cell? ⟨g, 3, none⟩ = some x3 ∧ ∀ j, w.frozen? ⟨g, j, none⟩ = false := by
  refine ⟨?_, ?_, ?_, ?_, fun j => by simp [World.frozen?, h]⟩ <;> rw [cell_of_row w g _ _ _ _ h] <;> rfl

theorem scan_new {w : World} {g x : Nat} {line : Int} {F : Option Addr} {m c k : Nat} {p : Prob} {v : Value}
    (hg : w.heap[g]? = some (.cells #[.int .i64 line, .slice F m c, .int .i64 k, v] 108 (0, 0))) (hx : x = w.heap.size) :
    Scan ((w.setCell ⟨g, 3, none⟩ (.pointer (some ⟨x, 0, none⟩))).alloc (.cells #[.int .i64 0, .int .i64 p.1, .int .i64 p.2.1, .int .i64 p.2.2] 56)) g line F m c k (some p) ∧
      Only g w ((w.setCell ⟨g, 3, none⟩ (.pointer (some ⟨x, 0, none⟩))).alloc (.cells #[.int .i64 0, .int .i64 p.1, .int .i64 p.2.1, .int .i64 p.2.2] 56)) := by
  subst hx
  have hlt := blk_lt hg
  have hz : (w.setCell ⟨g, 3, none⟩ (.pointer (some ⟨w.heap.size, 0, none⟩))).heap.size = w.heap.size := by simp [World.setCell]
  refine ⟨⟨.pointer (some ⟨w.heap.size, 0, none⟩), ?_, w.heap.size, rfl, ?_⟩, only_alloc (only_setCell (World.grownBy.refl _ _) (Or.inl rfl) _) _⟩
  · rw [Below.heap_alloc _ _ g (by rw [hz]; exact hlt)]
    simp only [World.setCell, Array.getElem?_modify, hg]
    rfl
  · have := heap_alloc_new (w.setCell ⟨g, 3, none⟩ (.pointer (some ⟨w.heap.size, 0, none⟩))) (.cells #[.int .i64 0, .int .i64 p.1, .int .i64 p.2.1, .int .i64 p.2.2] 56)
    rw [hz] at this
    exact this
set_option maxHeartbeats 800000 in
theorem whole_walk (g : Nat) (line : Int) (F : Option Addr) (m c k : Nat) (pr : Option Prob) (wrong : Bool) (e : Int) (w : World) (h : Scan w g line F m c k pr) :
    Calls Tryz.prog 45 #[.pointer (some ⟨g, 0, none⟩), .bool wrong, .int .i64 e] w fun end' w' => end' = .returned (.tuple #[]) ∧ Scan w' g line F m c k (noted pr wrong (line, 0, e)) ∧ Only g w w' := by
  have hS := h
  obtain ⟨v, hg, hp⟩ := h
  have hlt := blk_lt hg
  obtain ⟨c0, c1, c2, c3, hf⟩ := scan_cells hg
  have f3 := hf 3
  clear hf
  cases pr with
  | some p =>
    obtain ⟨x, rfl, hx⟩ := hp
    go_enter Tryz.func45, Tryz.ntmps45
    go_wp2
    go_end0
    exact ⟨rfl, hS, Only.refl _ _⟩
  | none =>
    obtain rfl := hp
    cases wrong with
    | false =>
      go_enter Tryz.func45, Tryz.ntmps45
      go_wp2
      go_end0
      exact ⟨rfl, hS, Only.refl _ _⟩
    | true =>
      have hN := scan_new (p := (line, 0, e)) hg rfl
      clear hS
      replace hg := hide hg
      replace hN := hide hN
      go_enter Tryz.func45, Tryz.ntmps45
      go_wp2
      go_end0
      exact ⟨rfl, hN.out⟩
set_option maxHeartbeats 800000 in
theorem fail_walk (B g : Nat) (line : Int) (F : Option Addr) (fs : List Fld) (c k : Nat) (pr : Option Prob) (e : Int) (w : World) (h : Scan w g line F fs.length c k pr) (hF : FieldsAt B w F fs) (h1 : 1 ≤ k) (h2 : k ≤ fs.length) (hm : fs.length ≤ 1000) :
    Calls Tryz.prog 76 #[.pointer (some ⟨g, 0, none⟩), .int .i64 e] w fun end' w' => end' = .returned (.tuple #[]) ∧ Scan w' g line F fs.length c k (noted pr (decide (e ≠ 0)) (line, colAt fs k, e)) ∧ Only g w w' := by
  have hS := h
  obtain ⟨v, hg, hp⟩ := h
  have hlt := blk_lt hg
  obtain ⟨c0, c1, c2, c3, hf⟩ := scan_cells hg
  have f3 := hf 3
  clear hf
  cases pr with
  | some p =>
    obtain ⟨x, rfl, hx⟩ := hp
    clear hF
    go_enter Tryz.func76, Tryz.ntmps76
    go_wp2
    go_end0
    exact ⟨rfl, hS, Only.refl _ _⟩
  | none =>
    obtain rfl := hp
    by_cases he : e = 0
    · subst he
      clear hF
      go_enter Tryz.func76, Tryz.ntmps76
      go_wp2
      go_end0
      exact ⟨rfl, hS, Only.refl _ _⟩
    · obtain ⟨b, off, rfl, hb, hcell⟩ := hF (by omega)
      obtain ⟨-, d1, -⟩ := hcell (k - 1) (by omega)
      have hcol : (fs[k - 1]'(by omega)).2.1 = colAt fs k := by
        unfold colAt; rw [List.getD_eq_getElem?_getD, List.getElem?_eq_getElem (by omega)]; rfl
      rw [hcol] at d1
      have hN := scan_new (p := (line, colAt fs k, e)) hg rfl
      rw [show noted none (decide (e ≠ 0)) (line, colAt fs k, e) = some (line, colAt fs k, e) from by simp [noted, he]]
      have he' : (e != 0) = true := by simpa using he
      clear hS hcell hcol hF
      obtain ⟨col, hcol⟩ : ∃ col, colAt fs k = col := ⟨_, rfl⟩
      rw [hcol] at d1 hN ⊢
      clear hcol
      obtain ⟨j, rfl⟩ : ∃ j, k = j + 1 := ⟨k - 1, by omega⟩
      rw [show j + 1 - 1 = j from rfl] at d1
      obtain ⟨m, hm'⟩ : ∃ m, fs.length = m := ⟨_, rfl⟩
      rw [hm'] at h2 hm c1 hg ⊢
      rw [hm'] at hN
      clear hm' he
      replace hg := hide hg
      replace hN := hide hN
      have e1 : IntKind.i64.wrap (((j + 1 : Nat) : Int) - 1) = (j : Int) := by rw [IntWalk.i64_in _ (by omega)]; omega
      go_enter Tryz.func76, Tryz.ntmps76
      go_wp2
      go_region
      all_goals
        go_wp2
        go_end0
        exact ⟨rfl, hN.out.1.later (ext_drew (Below.refl _ _)), hN.out.2.later (ext_drew (Below.refl _ _))⟩
set_option maxHeartbeats 800000 in
theorem fnext_stop (g : Nat) (line : Int) (F : Option Addr) (m c k : Nat) (p : Prob) (w : World) (h : Scan w g line F m c k (some p)) :
    Calls Tryz.prog 75 #[.pointer (some ⟨g, 0, none⟩)] w fun end' w' => end' = .returned (.string ⟨#[]⟩) ∧ w = w' := by
  obtain ⟨v, hg, x, rfl, hx⟩ := h
  obtain ⟨c0, c1, c2, c3, hf⟩ := scan_cells hg
  clear hf
  go_enter Tryz.func75, Tryz.ntmps75
  go_wp2
  go_ret
  exact ⟨rfl, rfl⟩
set_option maxHeartbeats 800000 in
theorem fnext_go (B g : Nat) (line : Int) (F : Option Addr) (fs : List Fld) (c k : Nat) (w : World) (h : Scan w g line F fs.length c k none) (hF : FieldsAt B w F fs) (h2 : k < fs.length) (hm : fs.length ≤ 1000) (hB : B ≤ g) :
    Calls Tryz.prog 75 #[.pointer (some ⟨g, 0, none⟩)] w fun end' w' => end' = .returned (.string (textAt fs k)) ∧ Scan w' g line F fs.length c (k + 1) none ∧ Only g w w' := by
  obtain ⟨v, hg, rfl⟩ := h
  have hlt := blk_lt hg
  obtain ⟨c0, c1, c2, c3, hf⟩ := scan_cells hg
  have f2 := hf 2
  clear hf
  obtain ⟨b, off, rfl, hb, hcell⟩ := hF (by omega)
  obtain ⟨d0, -, -⟩ := hcell k (by omega)
  have htx : (fs[k]'(by omega)).1 = textAt fs k := by
    unfold textAt; rw [List.getD_eq_getElem?_getD, List.getElem?_eq_getElem (by omega)]; rfl
  rw [htx] at d0
  clear htx hcell hF
  have hne : b ≠ g := by omega
  obtain ⟨text, htx⟩ : ∃ text, textAt fs k = text := ⟨_, rfl⟩
  rw [htx] at d0 ⊢
  obtain ⟨m, hm'⟩ : ∃ m, fs.length = m := ⟨_, rfl⟩
  rw [hm'] at h2 hm c1 hg ⊢
  clear hm' htx
  have hN : Scan (w.setCell ⟨g, 2, none⟩ (.int .i64 ((k : Int) + 1))) g line (some ⟨b, off, none⟩) m c (k + 1) none ∧ Only g w (w.setCell ⟨g, 2, none⟩ (.int .i64 ((k : Int) + 1))) := by
    refine ⟨⟨.pointer none, ?_, rfl⟩, only_setCell (World.grownBy.refl _ _) (Or.inl rfl) _⟩
    simp only [World.setCell, Array.getElem?_modify, hg]
    rfl
  replace hg := hide hg
  replace hN := hide hN
  have e1 : IntKind.i64.wrap ((k : Int) + 1 - 1) = (k : Int) := by rw [IntWalk.i64_in _ (by omega)]; omega
  go_enter Tryz.func75, Tryz.ntmps75
  go_wp2
  go_region
  all_goals
    go_wp2
    go_ret
    exact ⟨rfl, hN.out.1.later (ext_drew (Below.refl _ _)), hN.out.2.later (ext_drew (Below.refl _ _))⟩
end Go.Proofs.YtnbcaklnpflihaaGreatDoor

namespace Go.Proofs.YtnbcaklnpflihaaGreatDoor
open Go.RowKit

end Go.Proofs.YtnbcaklnpflihaaGreatDoor

namespace Go.Proofs.YtnbcaklnpflihaaGreatDoor
open Go.RowKit

end Go.Proofs.YtnbcaklnpflihaaGreatDoor
