/- Walks of fields.Scanner: Fail, Whole, Next, Code. Conditions: the scanner's cells are as Scan says. -/
import Derived.Test.YtgbkochjoaalhaaGreatDoorCodes
import Derived.Test.YtgbkochjoaalhaaGreatDoorDice
namespace Go.Proofs.YtgbkochjoaalhaaGreatDoor
open Go.RowKit
set_option maxRecDepth 100000

/-- A field of a record: its text, its column, whether it was quoted. -/
abbrev Fld := ByteArray × Int × Bool
/-- A problem: line, column, code. -/
abbrev Prob := Int × Int × Int
/-- Block h holds a problem. -/
def ProbAt (w : World) (h : Nat) (p : Prob) : Prop := w.heap[h]? = some (.cells #[.int .i64 0, .int .i64 p.1, .int .i64 p.2.1, .int .i64 p.2.2] 76 (0, 0))
/-- What the pointer to the problem says. -/
def ProbIs (w : World) (v : Value) : Option Prob → Prop
  | none => v = .pointer none
  | some p => ∃ h, v = .pointer (some ⟨h, 0, none⟩) ∧ ProbAt w h p
/-- Block g is a scanner of a record, at field k, with a problem or none. -/
def Scan (w : World) (g : Nat) (line : Int) (F : Option Addr) (m c k : Nat) (pr : Option Prob) : Prop :=
  ∃ v, w.heap[g]? = some (.cells #[.int .i64 line, .slice F m c, .int .i64 k, v] 140 (0, 0)) ∧ ProbIs w v pr
/-- The fields of a record, in blocks below B. -/
def FieldsAt (B : Nat) (w : World) (F : Option Addr) (fs : List Fld) : Prop :=
  0 < fs.length → ∃ b off, F = some ⟨b, off, none⟩ ∧ b < B ∧ ∀ j (hj : j < fs.length), w.cell? ⟨b, off + j * 3, none⟩ = some (.string fs[j].1) ∧ w.cell? ⟨b, off + j * 3 + 1, none⟩ = some (.int .i64 fs[j].2.1) ∧ w.cell? ⟨b, off + j * 3 + 2, none⟩ = some (.bool fs[j].2.2)
theorem FieldsAt.kept {B : Nat} {w w' : World} {F : Option Addr} {fs : List Fld} (h : FieldsAt B w F fs) (hk : ∀ b o, b < B → w'.cell? ⟨b, o, none⟩ = w.cell? ⟨b, o, none⟩) : FieldsAt B w' F fs := by
  intro hn
  obtain ⟨b, off, e, hb, hc⟩ := h hn
  exact ⟨b, off, e, hb, fun j hj => by obtain ⟨c0, c1, c2⟩ := hc j hj; exact ⟨(hk _ _ hb).trans c0, (hk _ _ hb).trans c1, (hk _ _ hb).trans c2⟩⟩
theorem FieldsAt.below {B : Nat} {w w' : World} {F : Option Addr} {fs : List Fld} (h : FieldsAt B w F fs) (hb : Below B w w') : FieldsAt B w' F fs := h.kept fun b o hlt => hb.cell (p := ⟨b, o, none⟩) hlt
theorem FieldsAt.more {B C : Nat} {w : World} {F : Option Addr} {fs : List Fld} (h : FieldsAt B w F fs) (hB : B ≤ C) : FieldsAt C w F fs := by
  intro hn
  obtain ⟨b, off, e, hb, hc⟩ := h hn
  exact ⟨b, off, e, by omega, hc⟩
/-- Of what was there, block g alone may have turned. -/
abbrev Only (g : Nat) (w w' : World) : Prop := w.grownBy w' (some g)
theorem Only.refl (g : Nat) (w : World) : Only g w w := World.grownBy.refl _ _
theorem Only.below {B g : Nat} {w w' : World} (h : Only g w w') (hB : B ≤ g) (hw : B ≤ w.heap.size) : Below B w w' :=
  Below.grown (Below.refl _ _) h hw (fun k hk => by injection hk with hk; omega)
theorem Only.later {g : Nat} {a b c : World} (h : Only g a b) (k : Below b.heap.size b c) : Only g a c := h.trans (only_of_below k _)
theorem ProbAt.of_block {w w' : World} {h : Nat} {p : Prob} (hp : ProbAt w h p) (hb : w'.heap[h]? = w.heap[h]?) : ProbAt w' h p := hb.trans hp
theorem blk_lt {w : World} {h : Nat} {o : Obj} (e : w.heap[h]? = some o) : h < w.heap.size := (Array.getElem?_eq_some_iff.1 e).1
theorem ProbIs.later {w w' : World} {v : Value} {pr : Option Prob} (h : ProbIs w v pr) (hb : Below w.heap.size w w') : ProbIs w' v pr := by
  cases pr with
  | none => exact h
  | some p => obtain ⟨x, e, hp⟩ := h; exact ⟨x, e, hp.of_block (hb.block x (blk_lt hp))⟩
theorem Scan.later {w w' : World} {g : Nat} {line : Int} {F : Option Addr} {m c k : Nat} {pr : Option Prob} (h : Scan w g line F m c k pr) (hb : Below w.heap.size w w') : Scan w' g line F m c k pr := by
  obtain ⟨v, hg, hp⟩ := h
  exact ⟨v, (hb.block g (blk_lt hg)).trans hg, hp.later hb⟩
theorem Scan.lt {w : World} {g : Nat} {line : Int} {F : Option Addr} {m c k : Nat} {pr : Option Prob} (h : Scan w g line F m c k pr) : g < w.heap.size := by
  obtain ⟨v, hg, _⟩ := h; exact blk_lt hg
/-- A problem is noted, if there was none. -/
def noted (pr : Option Prob) (wrong : Bool) (p : Prob) : Option Prob := match pr with
  | some q => some q
  | none => if wrong then some p else none
def colAt (fs : List Fld) (k : Nat) : Int := (fs.getD (k - 1) (⟨#[]⟩, 0, false)).2.1
def textAt (fs : List Fld) (k : Nat) : ByteArray := (fs.getD k (⟨#[]⟩, 0, false)).1
theorem scan_cells {w : World} {g : Nat} {x0 x1 x2 x3 : Value} {t : TypeId} (h : w.heap[g]? = some (.cells #[x0, x1, x2, x3] t (0, 0))) :
    w.cell? ⟨g, 0, none⟩ = some x0 ∧ w.cell? ⟨g, 1, none⟩ = some x1 ∧ w.cell? ⟨g, 2, none⟩ = some x2 ∧ w.cell? ⟨g, 3, none⟩ = some x3 ∧ ∀ j, w.frozen? ⟨g, j, none⟩ = false := by
  refine ⟨?_, ?_, ?_, ?_, fun j => by simp [World.frozen?, h]⟩ <;> rw [cell_of_row w g _ _ _ _ h] <;> rfl

theorem scan_new {w : World} {g x : Nat} {line : Int} {F : Option Addr} {m c k : Nat} {p : Prob} {v : Value}
    (hg : w.heap[g]? = some (.cells #[.int .i64 line, .slice F m c, .int .i64 k, v] 140 (0, 0))) (hx : x = w.heap.size) :
    Scan ((w.setCell ⟨g, 3, none⟩ (.pointer (some ⟨x, 0, none⟩))).alloc (.cells #[.int .i64 0, .int .i64 p.1, .int .i64 p.2.1, .int .i64 p.2.2] 76)) g line F m c k (some p) ∧
      Only g w ((w.setCell ⟨g, 3, none⟩ (.pointer (some ⟨x, 0, none⟩))).alloc (.cells #[.int .i64 0, .int .i64 p.1, .int .i64 p.2.1, .int .i64 p.2.2] 76)) := by
  subst hx
  have hlt := blk_lt hg
  have hz : (w.setCell ⟨g, 3, none⟩ (.pointer (some ⟨w.heap.size, 0, none⟩))).heap.size = w.heap.size := by simp [World.setCell]
  refine ⟨⟨.pointer (some ⟨w.heap.size, 0, none⟩), ?_, w.heap.size, rfl, ?_⟩, only_alloc (only_setCell (World.grownBy.refl _ _) (Or.inl rfl) _) _⟩
  · rw [Below.heap_alloc _ _ g (by rw [hz]; exact hlt)]
    simp only [World.setCell, Array.getElem?_modify, hg]
    rfl
  · have := heap_alloc_new (w.setCell ⟨g, 3, none⟩ (.pointer (some ⟨w.heap.size, 0, none⟩))) (.cells #[.int .i64 0, .int .i64 p.1, .int .i64 p.2.1, .int .i64 p.2.2] 76)
    rw [hz] at this
    exact this
set_option maxHeartbeats 800000 in
theorem whole_walk (g : Nat) (line : Int) (F : Option Addr) (m c k : Nat) (pr : Option Prob) (wrong : Bool) (e : Int) (w : World) (h : Scan w g line F m c k pr) :
    Calls Tryz.prog 84 #[.pointer (some ⟨g, 0, none⟩), .bool wrong, .int .i64 e] w fun end' w' => end' = .returned (.tuple #[]) ∧ Scan w' g line F m c k (noted pr wrong (line, 0, e)) ∧ Only g w w' := by
  have hS := h
  obtain ⟨v, hg, hp⟩ := h
  have hlt := blk_lt hg
  obtain ⟨c0, c1, c2, c3, hf⟩ := scan_cells hg
  have f3 := hf 3
  clear hf
  cases pr with
  | some p =>
    obtain ⟨x, rfl, hx⟩ := hp
    go_enter Tryz.func84, Tryz.ntmps84
    go_wp2
    go_end0
    exact ⟨rfl, hS, Only.refl _ _⟩
  | none =>
    obtain rfl := hp
    cases wrong with
    | false =>
      go_enter Tryz.func84, Tryz.ntmps84
      go_wp2
      go_end0
      exact ⟨rfl, hS, Only.refl _ _⟩
    | true =>
      have hN := scan_new (p := (line, 0, e)) hg rfl
      clear hS
      replace hg := hide hg
      replace hN := hide hN
      go_enter Tryz.func84, Tryz.ntmps84
      go_wp2
      go_end0
      exact ⟨rfl, hN.out⟩
set_option maxHeartbeats 800000 in
theorem fail_walk (B g : Nat) (line : Int) (F : Option Addr) (fs : List Fld) (c k : Nat) (pr : Option Prob) (e : Int) (w : World) (h : Scan w g line F fs.length c k pr) (hF : FieldsAt B w F fs) (h1 : 1 ≤ k) (h2 : k ≤ fs.length) (hm : fs.length ≤ 1000) :
    Calls Tryz.prog 115 #[.pointer (some ⟨g, 0, none⟩), .int .i64 e] w fun end' w' => end' = .returned (.tuple #[]) ∧ Scan w' g line F fs.length c k (noted pr (decide (e ≠ 0)) (line, colAt fs k, e)) ∧ Only g w w' := by
  have hS := h
  obtain ⟨v, hg, hp⟩ := h
  have hlt := blk_lt hg
  obtain ⟨c0, c1, c2, c3, hf⟩ := scan_cells hg
  have f3 := hf 3
  clear hf
  cases pr with
  | some p =>
    obtain ⟨x, rfl, hx⟩ := hp
    clear hF
    go_enter Tryz.func115, Tryz.ntmps115
    go_wp2
    go_end0
    exact ⟨rfl, hS, Only.refl _ _⟩
  | none =>
    obtain rfl := hp
    by_cases he : e = 0
    · subst he
      clear hF
      go_enter Tryz.func115, Tryz.ntmps115
      go_wp2
      go_end0
      exact ⟨rfl, hS, Only.refl _ _⟩
    · obtain ⟨b, off, rfl, hb, hcell⟩ := hF (by omega)
      obtain ⟨-, d1, -⟩ := hcell (k - 1) (by omega)
      have hcol : (fs[k - 1]'(by omega)).2.1 = colAt fs k := by
        unfold colAt; rw [List.getD_eq_getElem?_getD, List.getElem?_eq_getElem (by omega)]; rfl
      rw [hcol] at d1
      have hN := scan_new (p := (line, colAt fs k, e)) hg rfl
      rw [show noted none (decide (e ≠ 0)) (line, colAt fs k, e) = some (line, colAt fs k, e) from by simp [noted, he]]
      have he' : (e != 0) = true := by simpa using he
      clear hS hcell hcol hF
      obtain ⟨col, hcol⟩ : ∃ col, colAt fs k = col := ⟨_, rfl⟩
      rw [hcol] at d1 hN ⊢
      clear hcol
      obtain ⟨j, rfl⟩ : ∃ j, k = j + 1 := ⟨k - 1, by omega⟩
      rw [show j + 1 - 1 = j from rfl] at d1
      obtain ⟨m, hm'⟩ : ∃ m, fs.length = m := ⟨_, rfl⟩
      rw [hm'] at h2 hm c1 hg ⊢
      rw [hm'] at hN
      clear hm' he
      replace hg := hide hg
      replace hN := hide hN
      have e1 : IntKind.i64.wrap (((j + 1 : Nat) : Int) - 1) = (j : Int) := by rw [IntWalk.i64_in _ (by omega)]; omega
      go_enter Tryz.func115, Tryz.ntmps115
      go_wp2
      go_region
      all_goals
        go_wp2
        go_end0
        exact ⟨rfl, hN.out.1.later (ext_drew (Below.refl _ _)), hN.out.2.later (ext_drew (Below.refl _ _))⟩
set_option maxHeartbeats 800000 in
theorem fnext_stop (g : Nat) (line : Int) (F : Option Addr) (m c k : Nat) (p : Prob) (w : World) (h : Scan w g line F m c k (some p)) :
    Calls Tryz.prog 114 #[.pointer (some ⟨g, 0, none⟩)] w fun end' w' => end' = .returned (.string ⟨#[]⟩) ∧ w = w' := by
  obtain ⟨v, hg, x, rfl, hx⟩ := h
  obtain ⟨c0, c1, c2, c3, hf⟩ := scan_cells hg
  clear hf
  go_enter Tryz.func114, Tryz.ntmps114
  go_wp2
  go_ret
  exact ⟨rfl, rfl⟩
set_option maxHeartbeats 800000 in
theorem fnext_go (B g : Nat) (line : Int) (F : Option Addr) (fs : List Fld) (c k : Nat) (w : World) (h : Scan w g line F fs.length c k none) (hF : FieldsAt B w F fs) (h2 : k < fs.length) (hm : fs.length ≤ 1000) (hB : B ≤ g) :
    Calls Tryz.prog 114 #[.pointer (some ⟨g, 0, none⟩)] w fun end' w' => end' = .returned (.string (textAt fs k)) ∧ Scan w' g line F fs.length c (k + 1) none ∧ Only g w w' := by
  obtain ⟨v, hg, rfl⟩ := h
  have hlt := blk_lt hg
  obtain ⟨c0, c1, c2, c3, hf⟩ := scan_cells hg
  have f2 := hf 2
  clear hf
  obtain ⟨b, off, rfl, hb, hcell⟩ := hF (by omega)
  obtain ⟨d0, -, -⟩ := hcell k (by omega)
  have htx : (fs[k]'(by omega)).1 = textAt fs k := by
    unfold textAt; rw [List.getD_eq_getElem?_getD, List.getElem?_eq_getElem (by omega)]; rfl
  rw [htx] at d0
  clear htx hcell hF
  have hne : b ≠ g := by omega
  obtain ⟨text, htx⟩ : ∃ text, textAt fs k = text := ⟨_, rfl⟩
  rw [htx] at d0 ⊢
  obtain ⟨m, hm'⟩ : ∃ m, fs.length = m := ⟨_, rfl⟩
  rw [hm'] at h2 hm c1 hg ⊢
  clear hm' htx
  have hN : Scan (w.setCell ⟨g, 2, none⟩ (.int .i64 ((k : Int) + 1))) g line (some ⟨b, off, none⟩) m c (k + 1) none ∧ Only g w (w.setCell ⟨g, 2, none⟩ (.int .i64 ((k : Int) + 1))) := by
    refine ⟨⟨.pointer none, ?_, rfl⟩, only_setCell (World.grownBy.refl _ _) (Or.inl rfl) _⟩
    simp only [World.setCell, Array.getElem?_modify, hg]
    rfl
  replace hg := hide hg
  replace hN := hide hN
  have e1 : IntKind.i64.wrap ((k : Int) + 1 - 1) = (k : Int) := by rw [IntWalk.i64_in _ (by omega)]; omega
  go_enter Tryz.func114, Tryz.ntmps114
  go_wp2
  go_region
  all_goals
    go_wp2
    go_ret
    exact ⟨rfl, hN.out.1.later (ext_drew (Below.refl _ _)), hN.out.2.later (ext_drew (Below.refl _ _))⟩
end Go.Proofs.YtgbkochjoaalhaaGreatDoor
