/- Walk of the closure of stafffile.Lines: one lecturer is read. Conditions: the scanner's cells are as Scan says; texts shorter than 2^30 bytes. -/
import Derived.Test.YtgbkochjoaalhaaGreatDoorFind
namespace Go.Proofs.YtgbkochjoaalhaaGreatDoor
open Go.RowKit
set_option maxRecDepth 100000

/-- What the closure has captured: a grid and a number of weeks. -/
abbrev Cl (gb nb : Nat) (d sl b m n : Int) (W : World) : Prop :=
  W.cell? ⟨gb, 0, none⟩ = some (.int .i64 d) ∧ W.cell? ⟨gb, 1, none⟩ = some (.int .i64 sl) ∧ W.cell? ⟨gb, 2, none⟩ = some (.int .i64 b) ∧ W.cell? ⟨gb, 3, none⟩ = some (.int .i64 m) ∧ W.cell? ⟨nb, 0, none⟩ = some (.int .i64 n)
theorem Cl.lt {gb nb : Nat} {d sl b m n : Int} {W : World} (h : Cl gb nb d sl b m n W) : gb < W.heap.size ∧ nb < W.heap.size :=
  ⟨World.block_lt_of_cell? _ _ h.1, World.block_lt_of_cell? _ _ h.2.2.2.2⟩
theorem Cl.later {gb nb : Nat} {d sl b m n : Int} {W W' : World} (h : Cl gb nb d sl b m n W) (hb : Below W.heap.size W W') : Cl gb nb d sl b m n W' :=
  ⟨cell_later hb h.1, cell_later hb h.2.1, cell_later hb h.2.2.1, cell_later hb h.2.2.2.1, cell_later hb h.2.2.2.2⟩
theorem Cl.alloc {gb nb : Nat} {d sl b m n : Int} {W : World} (h : Cl gb nb d sl b m n W) (o : Obj) : Cl gb nb d sl b m n (W.alloc o) := h.later (ext_alloc (Below.refl _ _) _)
theorem Cl.drew {gb nb : Nat} {d sl b m n : Int} {W : World} (h : Cl gb nb d sl b m n W) : Cl gb nb d sl b m n W.drew := h
theorem Cl.only {gb nb g : Nat} {d sl b m n : Int} {W W' : World} (h : Cl gb nb d sl b m n W) (ho : Only g W W') (h1 : gb ≠ g) (h2 : nb ≠ g) : Cl gb nb d sl b m n W' :=
  ⟨(ho.cell h.lt.1 h1).trans h.1, (ho.cell h.lt.1 h1).trans h.2.1, (ho.cell h.lt.1 h1).trans h.2.2.1, (ho.cell h.lt.1 h1).trans h.2.2.2.1, (ho.cell h.lt.2 h2).trans h.2.2.2.2⟩
theorem Cl.set {gb nb c j : Nat} {d sl b m n : Int} {W : World} (h : Cl gb nb d sl b m n W) (h1 : gb ≠ c) (h2 : nb ≠ c) (u : Value) : Cl gb nb d sl b m n (W.setCell ⟨c, j, none⟩ u) := by
  have ho : ∀ (x y : Nat), x ≠ c → (W.setCell ⟨c, j, none⟩ u).cell? ⟨x, y, none⟩ = W.cell? ⟨x, y, none⟩ := fun x y hx => World.cell?_setCell_other _ _ _ _ (fun e => hx (by injection e with e1; exact e1.symm))
  exact ⟨(ho _ _ h1).trans h.1, (ho _ _ h1).trans h.2.1, (ho _ _ h1).trans h.2.2.1, (ho _ _ h1).trans h.2.2.2.1, (ho _ _ h2).trans h.2.2.2.2⟩
/-- The problem behind the fields of a lecturer. -/
def staffP1 (d sl b m n line : Int) (fs : List Fld) : Option Prob :=
  if codeB (textAt fs 0) then probOf line (colAt fs 2) (timesE d sl b m n (partsOf (textAt fs 1))) else some (line, colAt fs 1, 10)
def staffT (d sl b m n : Int) (fs : List Fld) : List T4 := if codeB (textAt fs 0) then (partsOf (textAt fs 1)).map (pieceV d sl b m n) else []
theorem Scan.alloc {w : World} {g : Nat} {line : Int} {F : Option Addr} {m c k : Nat} {pr : Option Prob} (h : Scan w g line F m c k pr) (o : Obj) : Scan (w.alloc o) g line F m c k pr := h.later (ext_alloc (Below.refl _ _) _)
theorem Scan.drew {w : World} {g : Nat} {line : Int} {F : Option Addr} {m c k : Nat} {pr : Option Prob} (h : Scan w g line F m c k pr) : Scan w.drew g line F m c k pr := h.later (ext_drew (Below.refl _ _))
/-- Where the reading of a lecturer stands. -/
structure Stage (B gb nb g : Nat) (d sl b m n line : Int) (F : Option Addr) (fs : List Fld) (c k : Nat) (pr : Option Prob) (W : World) : Prop where
  cl : Cl gb nb d sl b m n W
  scan : Scan W g line F fs.length c k pr
  fields : FieldsAt B W F fs
  std : Std W
theorem Stage.later {B gb nb g : Nat} {d sl b m n line : Int} {F : Option Addr} {fs : List Fld} {c k : Nat} {pr : Option Prob} {W W' : World} (h : Stage B gb nb g d sl b m n line F fs c k pr W) (hB : B ≤ g) (hb : Below W.heap.size W W') : Stage B gb nb g d sl b m n line F fs c k pr W' :=
  ⟨h.cl.later hb, h.scan.later hb, h.fields.below (hb.mono (by have := h.scan.lt; omega)), h.std.after hb⟩
theorem Stage.alloc {B gb nb g : Nat} {d sl b m n line : Int} {F : Option Addr} {fs : List Fld} {c k : Nat} {pr : Option Prob} {W : World} (h : Stage B gb nb g d sl b m n line F fs c k pr W) (hB : B ≤ g) (o : Obj) : Stage B gb nb g d sl b m n line F fs c k pr (W.alloc o) := h.later hB (ext_alloc (Below.refl _ _) _)
theorem Stage.drew {B gb nb g : Nat} {d sl b m n line : Int} {F : Option Addr} {fs : List Fld} {c k : Nat} {pr : Option Prob} {W : World} (h : Stage B gb nb g d sl b m n line F fs c k pr W) (hB : B ≤ g) : Stage B gb nb g d sl b m n line F fs c k pr W.drew := h.later hB (ext_drew (Below.refl _ _))
def pr1 (line : Int) (fs : List Fld) : Option Prob := if codeB (textAt fs 0) then none else some (line, colAt fs 1, 10)
def CodeCut (B gb nb g : Nat) (d sl b m n line : Int) (F : Option Addr) (fs : List Fld) (c : Nat) (W : World) (e : Ending) (w' : World) : Prop :=
  e = .returned (.string (textAt fs 0)) ∧ Cl gb nb d sl b m n w' ∧ Stage B gb nb g d sl b m n line F fs c 1 (pr1 line fs) w' ∧ Only g W w' ∧ W.heap.size ≤ w'.heap.size
def TimesCut (B gb nb g : Nat) (d sl b m n line : Int) (F : Option Addr) (fs : List Fld) (c : Nat) (W : World) (e : Ending) (w' : World) : Prop :=
  ∃ A' q' c' k, e = .returned (.slice A' q' c') ∧ TimesOwn W.heap.size w' (.slice A' q' c') (staffT d sl b m n fs) ∧ Cl gb nb d sl b m n w' ∧ Stage B gb nb g d sl b m n line F fs c k (staffP1 d sl b m n line fs) w' ∧ Only g W w' ∧ W.heap.size ≤ w'.heap.size
theorem code_cut {B gb nb g : Nat} {d sl b m n line : Int} {F : Option Addr} {fs : List Fld} {c : Nat} {W : World} (h1 : gb ≠ g) (h2 : nb ≠ g) (hl : fs.length = 2) (hB : B ≤ g) (hG : 11 ≤ g) (h : Stage B gb nb g d sl b m n line F fs c 0 none W) :
    Calls Tryz.prog 82 #[.pointer (some ⟨g, 0, none⟩)] W fun e w' => CodeCut B gb nb g d sl b m n line F fs c W e w' :=
  (fcode_walk B g line F fs c 0 W h.scan h.fields (by omega) (by omega) hB).mono fun e w' ⟨he, hs, ho⟩ => ⟨he, h.cl.only ho h1 h2, ⟨h.cl.only ho h1 h2, hs, h.fields.only ho hB (by have := h.scan.lt; omega), ho.std h.std hG⟩, ho, ho.size⟩
theorem times_cut {B gb nb g : Nat} {d sl b m n line : Int} {F : Option Addr} {fs : List Fld} {c : Nat} {W : World} (h1 : gb ≠ g) (h2 : nb ≠ g) (hl : fs.length = 2) (hB : B ≤ g) (hG : 11 ≤ g) (hs : (textAt fs 1).size < 1073741824) (h : Stage B gb nb g d sl b m n line F fs c 1 (pr1 line fs) W) :
    Calls Tryz.prog 83 #[.pointer (some ⟨g, 0, none⟩), .agg #[.int .i64 d, .int .i64 sl, .int .i64 b, .int .i64 m], .int .i64 n] W fun e w' => TimesCut B gb nb g d sl b m n line F fs c W e w' := by
  have hsc := h.scan
  unfold pr1 at hsc
  cases hk : codeB (textAt fs 0)
  · rw [hk] at hsc
    refine (ftimes_stop g line F fs.length c 1 _ d sl b m n W hsc).mono fun e w' ⟨he, hb⟩ => ?_
    refine ⟨none, 0, 0, 1, he, ?_, h.cl.later hb, ⟨h.cl.later hb, ?_, (h.later hB hb).fields, h.std.after hb⟩, only_of_below hb _, hb.size⟩
    · unfold staffT; rw [hk]; exact World.ownsRow_nil _ _ _ _
    · unfold staffP1; rw [hk]; exact hsc.later hb
  · rw [hk] at hsc
    refine (ftimes_go B g line F fs c 1 d sl b m n W h.std hsc h.fields (by omega) (by omega) hB hG hs).mono fun e w' ⟨v, he, ht, hs', ho⟩ => ?_
    obtain ⟨A', c', rfl⟩ := owns_form ht
    refine ⟨_, _, _, 2, he, ?_, h.cl.only ho h1 h2, ⟨h.cl.only ho h1 h2, ?_, h.fields.only ho hB (by have := h.scan.lt; omega), ho.std h.std hG⟩, ho, ho.size⟩
    · unfold staffT; rw [hk]; exact ht
    · unfold staffP1; rw [hk]; exact hs'
/-- What stands behind the literal of a lecturer. -/
def LectCut (w : World) (g : Nat) (d sl b m n line : Int) (F : Option Addr) (fs : List Fld) (c _gb _nb : Nat) (s7 : Value) (wx : World) : Prop :=
  ∃ (x k : Nat) (v : Value), s7 = .pointer (some ⟨x, 0, none⟩) ∧ w.heap.size ≤ x ∧ x ≠ g ∧ wx.cell? ⟨x, 0, none⟩ = some (.string (textAt fs 0)) ∧ wx.cell? ⟨x, 1, none⟩ = some v ∧ TimesOwn w.heap.size wx v (staffT d sl b m n fs) ∧ Scan wx g line F fs.length c k (staffP1 d sl b m n line fs) ∧ Only g w wx ∧ v.ownBlock ≠ some x
theorem lect_new {W0 w2 : World} {g gb nb : Nat} {d sl b m n line : Int} {F : Option Addr} {fs : List Fld} {c k B B2 : Nat} {v : Value} (hst : Stage B gb nb g d sl b m n line F fs c k (staffP1 d sl b m n line fs) w2) (ht : TimesOwn B2 w2 v (staffT d sl b m n fs)) (hB2 : W0.heap.size ≤ B2)
    (ho : Only g W0 w2) (hg : g < W0.heap.size) : LectCut W0 g d sl b m n line F fs c gb nb (.pointer (some ⟨w2.heap.size, 0, none⟩)) (w2.alloc (.cells #[.string (textAt fs 0), v] 47)) := by
  have hz := ho.size
  exact ⟨_, k, v, rfl, hz, by omega, by simp, by simp, owns_lower (ht.alloc _) hB2, hst.scan.alloc _, Only.later ho (ext_alloc (Below.refl _ _) _), fun e => by have := (ht.lt _ e).2; omega⟩
theorem scan_set {w : World} {g x j : Nat} {line : Int} {F : Option Addr} {m c k : Nat} {pr : Option Prob} {z : ByteArray} {u : Value} (h : Scan w g line F m c k pr) (hx : w.cell? ⟨x, 0, none⟩ = some (.string z)) (hne : x ≠ g) : Scan (w.setCell ⟨x, j, none⟩ u) g line F m c k pr := by
  obtain ⟨v, hg, hp⟩ := h
  refine ⟨v, (Below.heap_setCell w ⟨x, j, none⟩ u g (fun e => hne e.symm)).trans hg, ?_⟩
  cases pr with
  | none => exact hp
  | some p =>
    obtain ⟨y, e, hy⟩ := hp
    refine ⟨y, e, hy.of_block (Below.heap_setCell w ⟨x, j, none⟩ u y (fun e2 => ?_))⟩
    have e3 : y = x := e2
    subst e3
    rw [cell_of_row w y 0 _ _ _ hy] at hx
    simp at hx
theorem owns_set {w : World} {B x j n k : Nat} {e : TypeId} {v u : Value} {xs : List Value} (h : w.ownsRow B e k v n xs) (hx : v.ownBlock ≠ some x) : (w.setCell ⟨x, j, none⟩ u).ownsRow B e k v n xs :=
  h.kept (only_setCell (g := x) (World.grownBy.refl _ _) (Or.inl rfl) u) (.inr hx)
theorem lect_set {W0 w2 : World} {g gb nb x : Nat} {d sl b m n line : Int} {F : Option Addr} {fs : List Fld} {c k B B2 : Nat} {v u0 : Value} (hst : Stage B gb nb g d sl b m n line F fs c k (staffP1 d sl b m n line fs) w2) (ht : TimesOwn B2 w2 v (staffT d sl b m n fs)) (hB2 : W0.heap.size ≤ B2) (hx2 : x < B2)
    (ho : Only g W0 w2) (hg : g < W0.heap.size) (hx : W0.heap.size ≤ x) (c0 : w2.cell? ⟨x, 0, none⟩ = some (.string ⟨#[]⟩)) (c1 : w2.cell? ⟨x, 1, none⟩ = some u0) :
    LectCut W0 g d sl b m n line F fs c gb nb (.pointer (some ⟨x, 0, none⟩)) ((w2.setCell ⟨x, 0, none⟩ (.string (textAt fs 0))).setCell ⟨x, 1, none⟩ v) := by
  have hne : v.ownBlock ≠ some x := fun e => by have := (ht.lt _ e).1; omega
  have s0 : (w2.setCell ⟨x, 0, none⟩ (.string (textAt fs 0))).cell? ⟨x, 0, none⟩ = some (.string (textAt fs 0)) := World.cell?_setCell_same _ _ _ c0
  have s1 : (w2.setCell ⟨x, 0, none⟩ (.string (textAt fs 0))).cell? ⟨x, 1, none⟩ = some u0 := (World.cell?_setCell_other _ _ _ _ (by simp)).trans c1
  refine ⟨x, k, v, rfl, hx, by omega, ?_, ?_, owns_lower (owns_set (owns_set ht hne) hne) hB2, scan_set (scan_set hst.scan c0 (by omega)) s0 (by omega), only_setCell (only_setCell ho (Or.inr hx) _) (Or.inr hx) _, hne⟩
  · exact (World.cell?_setCell_other _ _ _ _ (by simp)).trans s0
  · exact World.cell?_setCell_same _ _ _ s1
theorem load2 (w : World) (g : Nat) (a b : Value) (h0 : w.cell? ⟨g, 0, none⟩ = some a) (h1 : w.cell? ⟨g, 1, none⟩ = some b) :
    (loadVar 47 ⟨g, 0, none⟩).run Tryz.prog w = .ok (.agg #[a, b]) w := by
  simp [go_sem, h0, h1]
theorem end_lect {fn : Func} {p : Tmp} (hr : fn.results = #[.cell p 47]) {Q : Ending → World → Prop} {act : Act} {w : World} (g : Nat) (a b : Value) (hd : act.defers = [])
    (hp : act.tmps.getD p undef = .pointer (some ⟨g, 0, none⟩))
    (h0 : w.cell? ⟨g, 0, none⟩ = some a) (h1 : w.cell? ⟨g, 1, none⟩ = some b)
    (hQ : Q (.returned (.agg #[a, b])) w) : bodyPost Tryz.prog fn Q .ret act w := by
  refine bodyPost_ret (v := .agg #[a, b]) ?_ hd hQ
  simp only [results, hr]
  simp [Sem.run_bind, Result.andThen, -Array.getD_eq_getD_getElem?]
  rw [hp]
  simp only [asAddr, Sem.run_pure]
  rw [load2 w g a b h0 h1]
theorem only_a {g : Nat} {W0 w1 w2 : World} (h1 : Only g W0.drew w1) (h2 : Only g w1 w2) : Only g W0 w2 := (Only.later (Only.refl g W0) (ext_drew (Below.refl _ _))).trans (h1.trans h2)
theorem only_b {g : Nat} {W0 w1 w2 : World} {o : Obj} (h1 : Only g W0.drew w1) (h2 : Only g (w1.alloc o) w2) : Only g W0 w2 := (Only.later (only_a h1 (Only.refl _ _)) (ext_alloc (Below.refl _ _) _)).trans h2
theorem only_c {g : Nat} {W0 w1 w2 : World} {o : Obj} (h1 : Only g (W0.alloc o).drew w1) (h2 : Only g w1 w2) : Only g W0 w2 := (Only.later (Only.refl g W0) (ext_drew (ext_alloc (Below.refl _ _) _))).trans (h1.trans h2)
theorem CellsAt.more {B C k n : Nat} {w : World} {A : Option Addr} {X : Nat → List Value} (h : CellsAt B w A k n X) (hB : B ≤ C) : CellsAt C w A k n X := by
  intro hn
  obtain ⟨b, off, e, h1, hc⟩ := h hn
  exact ⟨b, off, e, by omega, hc⟩
/-- The problem of the record of a lecturer, behind q others. -/
def staffP (d sl b m n line : Int) (fs : List Fld) (codes : Nat → ByteArray) (q : Nat) : Option Prob :=
  noted (noted (staffP1 d sl b m n line fs) (orTo (fun j => sameS (codes j) (textAt fs 0)) q) (line, 0, 11)) (decide ((32 : Int) ≤ q)) (line, 0, 2)
def OneGives (g : Nat) (d sl b m n line : Int) (F : Option Addr) (fs : List Fld) (c : Nat) (codes : Nat → ByteArray) (q : Nat) (w : World) (e : Ending) (w' : World) : Prop :=
  ∃ (v : Value) (k : Nat), e = .returned (.agg #[.string (textAt fs 0), v]) ∧ TimesOwn w.heap.size w' v (staffT d sl b m n fs) ∧ Scan w' g line F fs.length c k (staffP d sl b m n line fs codes q) ∧ Only g w w'
set_option maxHeartbeats 8000000 in
theorem lines1_walk (B gb nb g : Nat) (d sl b m n line : Int) (F : Option Addr) (fs : List Fld) (c : Nat) (A : Option Addr) (q cr : Nat) (codes : Nat → ByteArray) (X1 : Nat → Value) (w : World) (h1 : gb ≠ g) (h2 : nb ≠ g)
    (h : Stage B gb nb g d sl b m n line F fs c 0 none w) (hl : fs.length = 2) (hB : B ≤ g) (hG : 11 ≤ g) (hs : (textAt fs 1).size < 1073741824) (hq : q ≤ 1000) (hX : CellsAt g w A 2 q fun j => [.string (codes j), X1 j]) :
    Calls Tryz.prog 81 #[.pointer (some ⟨g, 0, none⟩), .slice A q cr, .pointer (some ⟨gb, 0, none⟩), .pointer (some ⟨nb, 0, none⟩)] w fun e w' => OneGives g d sl b m n line F fs c codes q w e w' := by
  have hgl := h.scan.lt
  obtain ⟨l1, l2⟩ := h.cl.lt
  go_enter Tryz.func81, Tryz.ntmps81
  go_wp2_with fail
  have hz0 : (w.alloc (.cells #[.string ⟨#[]⟩, .slice none 0 0] 47)).heap.size = w.heap.size + 1 := World.size_alloc _ _
  have st0 := h.alloc hB (.cells #[.string ⟨#[]⟩, .slice none 0 0] 47)
  obtain ⟨W0, hW0⟩ : ∃ W0, w.alloc (.cells #[.string ⟨#[]⟩, .slice none 0 0] 47) = W0 := ⟨_, rfl⟩
  rw [hW0] at st0 hz0 ⊢
  obtain ⟨r, hr⟩ : ∃ r, w.heap.size = r := ⟨_, rfl⟩
  rw [hr] at hz0 hgl l1 l2 ⊢
  have hc0 := st0.cl
  have hcd : Cl gb nb d sl b m n W0.drew := hc0
  have hgW : g < W0.heap.size := by omega
  have l3 : gb < W0.heap.size := by omega
  have l4 : nb < W0.heap.size := by omega
  have l5 : r < W0.heap.size := by omega
  replace hW0 := hide hW0
  replace hr := hide hr
  replace hz0 := hide hz0
  replace hl := hide hl
  have how : Only g w W0 := by rw [← hW0.out]; exact Only.later (Only.refl _ _) (ext_alloc (Below.refl _ _) _)
  have r0 : W0.cell? ⟨r, 0, none⟩ = some (.string ⟨#[]⟩) := by rw [← hW0.out, ← hr.out]; simp
  have r1 : W0.cell? ⟨r, 1, none⟩ = some (.slice none 0 0) := by rw [← hW0.out, ← hr.out]; simp
  have f0 : W0.frozen? ⟨r, 0, none⟩ = false := by rw [← hW0.out, ← hr.out]; simp
  have f1 : W0.frozen? ⟨r, 1, none⟩ = false := by rw [← hW0.out, ← hr.out]; simp
  replace r0 := hide r0
  replace r1 := hide r1
  replace f0 := hide f0
  replace f1 := hide f1
  replace how := hide how
  clear h
  go_cut [7] (fun s7 wx => LectCut W0 g d sl b m n line F fs c gb nb s7 wx)
  case first =>
    go_region_held3 (fun W' => W'.cell? ⟨gb, 0, none⟩ = some (.int .i64 d) ∧ W'.cell? ⟨gb, 1, none⟩ = some (.int .i64 sl) ∧ W'.cell? ⟨gb, 2, none⟩ = some (.int .i64 b) ∧ W'.cell? ⟨gb, 3, none⟩ = some (.int .i64 m) ∧ W'.cell? ⟨nb, 0, none⟩ = some (.int .i64 n)) (first | ((repeat (first | (with_reducible assumption) | (with_reducible refine Cl.alloc ?_ _) | (with_reducible refine Cl.drew ?_) | (with_reducible refine Cl.set ?_ ?_ ?_ _) | omega)); done)) (first | (go_at_call 82; refine (code_cut (d := d) (sl := sl) (b := b) (m := m) (n := n) (line := line) (F := F) (fs := fs) (c := c) h1 h2 hl.out hB hG (by repeat (first | (with_reducible assumption) | (with_reducible refine Stage.alloc ?_ hB _) | (with_reducible refine Stage.drew ?_ hB)))).mono ?_; rintro e w1 ⟨rfl, hc1, st1, ho1, hz1⟩; (try simp only [World.size_alloc, size_drew'] at hz1); (try have x0 : w1.cell? ⟨W0.heap.size, 0, none⟩ = some (.string ⟨#[]⟩) := (ho1.cell (by first | (simp; done) | omega) (by omega)).trans (by first | (simp; done) | assumption)); (try have xf0 : w1.frozen? ⟨W0.heap.size, 0, none⟩ = false := (ho1.frozen (by first | (simp; done) | omega) (by omega)).trans (by first | (simp; done) | assumption)); (try have x1 : w1.cell? ⟨W0.heap.size, 1, none⟩ = some (.slice none 0 0) := (ho1.cell (by first | (simp; done) | omega) (by omega)).trans (by first | (simp; done) | assumption)); (try have xf1 : w1.frozen? ⟨W0.heap.size, 1, none⟩ = false := (ho1.frozen (by first | (simp; done) | omega) (by omega)).trans (by first | (simp; done) | assumption))) | (go_at_call 83; refine (times_cut (line := line) (F := F) (fs := fs) (c := c) h1 h2 hl.out hB hG hs (by repeat (first | (with_reducible assumption) | (with_reducible refine Stage.alloc ?_ hB _) | (with_reducible refine Stage.drew ?_ hB)))).mono ?_; rintro e w2 ⟨A', q', c', k, rfl, ht2, hc2, st2, ho2, hz2⟩; (try simp only [World.size_alloc] at hz2); (try have y0 : w2.cell? ⟨w1.heap.size, 0, none⟩ = some (.string ⟨#[]⟩) := (ho2.cell (by first | (simp; done) | omega) (by omega)).trans (by first | (simp; done) | assumption)); (try have yf0 : w2.frozen? ⟨w1.heap.size, 0, none⟩ = false := (ho2.frozen (by first | (simp; done) | omega) (by omega)).trans (by first | (simp; done) | assumption)); (try have y1 : w2.cell? ⟨w1.heap.size, 1, none⟩ = some (.slice none 0 0) := (ho2.cell (by first | (simp; done) | omega) (by omega)).trans (by first | (simp; done) | assumption)); (try have yf1 : w2.frozen? ⟨w1.heap.size, 1, none⟩ = false := (ho2.frozen (by first | (simp; done) | omega) (by omega)).trans (by first | (simp; done) | assumption)); (try have z0 : w2.cell? ⟨W0.heap.size, 0, none⟩ = some (.string ⟨#[]⟩) := (ho2.cell (by first | (simp; done) | omega) (by omega)).trans (by first | (simp; done) | assumption)); (try have zf0 : w2.frozen? ⟨W0.heap.size, 0, none⟩ = false := (ho2.frozen (by first | (simp; done) | omega) (by omega)).trans (by first | (simp; done) | assumption)); (try have z1 : w2.cell? ⟨W0.heap.size, 1, none⟩ = some (.slice none 0 0) := (ho2.cell (by first | (simp; done) | omega) (by omega)).trans (by first | (simp; done) | assumption)); (try have zf1 : w2.frozen? ⟨W0.heap.size, 1, none⟩ = false := (ho2.frozen (by first | (simp; done) | omega) (by omega)).trans (by first | (simp; done) | assumption))))
    all_goals
      go_wp2_with fail
      go_meet
      first
        | exact lect_new st2 ht2 (by first | omega | (rw [World.size_alloc]; omega)) (by first | exact only_a ho1 ho2 | exact only_b ho1 ho2 | exact only_c ho1 ho2) hgW
        | exact lect_set st2 ht2 (by first | omega | (rw [World.size_alloc]; omega)) (by first | omega | (rw [World.size_alloc]; omega)) (by first | exact only_a ho1 ho2 | exact only_b ho1 ho2 | exact only_c ho1 ho2) hgW (by omega) (by assumption) (by assumption)
  case rest =>
    obtain ⟨x, k, v, rfl, hx, hxg, x0, x1, ht, hsc, ho, hxo⟩ := hcut
    have hzc := ho.size
    have hX2 : CellsAt wc.heap.size wc A 2 q fun j => [.string (codes j), X1 j] := (hX.below (Only.below (how.out.trans ho) (Nat.le_refl _) (by rw [hr.out]; omega))).more (by omega)
    clear hX st0 hc0 hcd
    obtain ⟨t0, ht0⟩ : ∃ t0, textAt fs 0 = t0 := ⟨_, rfl⟩
    have hP : Hid (staffP d sl b m n line fs codes q = noted (noted (staffP1 d sl b m n line fs) (orTo (fun j => sameS (codes j) t0) q) (line, 0, 11)) (decide ((32 : Int) ≤ q)) (line, 0, 2)) := by rw [← ht0]; exact hide rfl
    rw [ht0] at x0
    replace ht0 := hide ht0
    obtain ⟨dup, hdup⟩ : ∃ dup, orTo (fun j => sameS (codes j) t0) q = dup := ⟨_, rfl⟩
    have hhas := has_walk A q cr t0 codes X1 wc (by omega) hX2
    rw [hdup] at hhas hP
    clear hdup hX2
    go_wp2_with fail
    refine hhas.mono ?_
    rintro e w3 ⟨rfl, hb3⟩
    clear hhas
    have x0' := cell_later hb3 x0
    have x1' := cell_later hb3 x1
    have hz3 := hb3.size
    go_wp2_with fail
    refine (whole_walk g line F fs.length c k _ dup 11 w3 (hsc.later hb3)).mono ?_
    rintro e w4 ⟨rfl, hs4, ho4⟩
    have hxw := World.block_lt_of_cell? _ _ x0'
    have x0'' := (ho4.cell hxw hxg).trans x0'
    have x1'' := (ho4.cell hxw hxg).trans x1'
    have hz4 := ho4.size
    go_wp2_with fail
    refine (whole_walk g line F fs.length c k _ _ 2 w4 hs4).mono ?_
    rintro e w5 ⟨rfl, hs5, ho5⟩
    have y0 := (ho5.cell (Nat.lt_of_lt_of_le hxw hz4) hxg).trans x0''
    have y1 := (ho5.cell (Nat.lt_of_lt_of_le hxw hz4) hxg).trans x1''
    have ho5' : Only g W0 w5 := (Only.later ho hb3).trans (ho4.trans ho5)
    have hrg : r ≠ g := by omega
    have q0 := (ho5'.cell l5 hrg).trans r0.out
    have q1 := (ho5'.cell l5 hrg).trans r1.out
    have g0 := (ho5'.frozen l5 hrg).trans f0.out
    have g1 := (ho5'.frozen l5 hrg).trans f1.out
    have ht5 := owns_only (owns_only (owns_later ht hb3) ho4 hgW) ho5 hgW
    have hxr : x ≠ r := by omega
    clear x0 x1 x0' x1' x0'' x1'' ht hsc hs4 r0 r1 f0 f1 hb3
    obtain ⟨A2, c2, rfl⟩ := owns_form ht5
    go_wp2
    have s0 : (w5.setCell ⟨r, 0, none⟩ (.string t0)).cell? ⟨r, 0, none⟩ = some (.string t0) := World.cell?_setCell_same _ _ _ q0
    have s1 : (w5.setCell ⟨r, 0, none⟩ (.string t0)).cell? ⟨r, 1, none⟩ = some (.slice none 0 0) := (World.cell?_setCell_other _ _ _ _ (by simp)).trans q1
    have hrl : r < W0.heap.size := l5
    have hvr : ∀ z, (Value.slice A2 (staffT d sl b m n fs).length c2).ownBlock = some z → W0.heap.size ≤ z := own_high ht5 (Nat.le_refl _)
    have hvr' : (Value.slice A2 (staffT d sl b m n fs).length c2).ownBlock ≠ some r := fun e => by have := hvr r e; omega
    refine end_lect rfl r (.string t0) (.slice A2 (staffT d sl b m n fs).length c2) rfl rfl ((World.cell?_setCell_other _ _ _ _ (by simp)).trans s0) (World.cell?_setCell_same _ _ _ s1) ⟨_, k, by rw [ht0.out], owns_lower (owns_set (owns_set ht5 hvr') hvr') (by rw [hr.out]; omega), ?_, ?_⟩
    · rw [hP.out]; exact scan_set (scan_set hs5 q0 hrg) s0 hrg
    · exact only_setCell (only_setCell (how.out.trans ho5') (Or.inr (Nat.le_of_eq hr.out)) _) (Or.inr (Nat.le_of_eq hr.out)) _
end Go.Proofs.YtgbkochjoaalhaaGreatDoor
