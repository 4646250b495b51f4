/- Ends of functions whose result is a struct of four numbers that lies in memory. -/
import Derived.Test.YtnbcaklnpflihaaGreatDoorKLib
import Derived.Laws.ResultCell
namespace Go.Proofs.YtnbcaklnpflihaaGreatDoor
open Go.RowKit

theorem set4_cells (w : World) (g : Nat) (a b c d : Value) (h : ∀ j, j < 4 → ∃ v, w.cell? ⟨g, j, none⟩ = some v) (W : World)
    (hW : W = (((w.setCell ⟨g, 0, none⟩ a).setCell ⟨g, 1, none⟩ b).setCell ⟨g, 2, none⟩ c).setCell ⟨g, 3, none⟩ d) :
    W.cell? ⟨g, 0, none⟩ = some a ∧ W.cell? ⟨g, 1, none⟩ = some b ∧ W.cell? ⟨g, 2, none⟩ = some c ∧ W.cell? ⟨g, 3, none⟩ = some d := by
  obtain ⟨v0, h0⟩ := h 0 (by omega)
  obtain ⟨v1, h1⟩ := h 1 (by omega)
  obtain ⟨v2, h2⟩ := h 2 (by omega)
  obtain ⟨v3, h3⟩ := h 3 (by omega)
  subst hW
  have o : ∀ (x : World) (i j : Nat) (u : Value), i ≠ j → (x.setCell ⟨g, i, none⟩ u).cell? ⟨g, j, none⟩ = x.cell? ⟨g, j, none⟩ := fun x i j u hij => World.cell?_setCell_other x _ _ u (fun e => hij (by injection e))
  have s : ∀ (x : World) (i : Nat) (u v : Value), x.cell? ⟨g, i, none⟩ = some v → (x.setCell ⟨g, i, none⟩ u).cell? ⟨g, i, none⟩ = some u := fun x i u v hx => World.cell?_setCell_same _ _ _ (h := hx)
  refine ⟨?_, ?_, ?_, ?_⟩
  · rw [o _ 3 0 _ (by omega), o _ 2 0 _ (by omega), o _ 1 0 _ (by omega)]; exact s _ 0 _ _ h0
  · rw [o _ 3 1 _ (by omega), o _ 2 1 _ (by omega)]; exact s _ 1 _ _ ((o _ 0 1 _ (by omega)).trans h1)
  · rw [o _ 3 2 _ (by omega)]; exact s _ 2 _ _ ((o _ 1 2 _ (by omega)).trans ((o _ 0 2 _ (by omega)).trans h2))
  · exact s _ 3 _ _ ((o _ 2 3 _ (by omega)).trans ((o _ 1 3 _ (by omega)).trans ((o _ 0 3 _ (by omega)).trans h3)))

/-- A struct of four cells read whole. -/
theorem load4 (ty : TypeId) (w : World) (g : Nat) (a b c d : Value) (hty : ty = 24 ∨ ty = 50)
    (h0 : w.cell? ⟨g, 0, none⟩ = some a) (h1 : w.cell? ⟨g, 1, none⟩ = some b) (h2 : w.cell? ⟨g, 2, none⟩ = some c) (h3 : w.cell? ⟨g, 3, none⟩ = some d) :
    (loadVar ty ⟨g, 0, none⟩).run Tryz.prog w = .ok (.agg #[a, b, c, d]) w := by
  rcases hty with rfl | rfl
  all_goals simp [go_sem, h0, h1, h2, h3]
theorem end_struct {fn : Func} {p u : Tmp} {ty : TypeId} (hr : fn.results = #[.cell p ty, .tmp u]) (hty : ty = 24 ∨ ty = 50) {Q : Ending → World → Prop} {act : Act} {w : World} (g : Nat) (a b c d e : Value) (hd : act.defers = [])
    (hp : act.tmps.getD p undef = .pointer (some ⟨g, 0, none⟩)) (he : act.tmps.getD u undef = e)
    (h0 : w.cell? ⟨g, 0, none⟩ = some a) (h1 : w.cell? ⟨g, 1, none⟩ = some b) (h2 : w.cell? ⟨g, 2, none⟩ = some c) (h3 : w.cell? ⟨g, 3, none⟩ = some d)
    (hQ : Q (.returned (.tuple #[.agg #[a, b, c, d], e])) w) : bodyPost Tryz.prog fn Q .ret act w := by
  refine bodyPost_ret (v := .tuple #[.agg #[a, b, c, d], e]) ?_ hd hQ
  rw [results_cell_tmp hr, hp, he]
  simp only [asAddr, Sem.run_pure, Result.andThen_ok]
  rw [load4 ty w g a b c d hty h0 h1 h2 h3]
  rfl
theorem end_struct1 {fn : Func} {p : Tmp} {ty : TypeId} (hr : fn.results = #[.cell p ty]) (hty : ty = 24 ∨ ty = 50) {Q : Ending → World → Prop} {act : Act} {w : World} (g : Nat) (a b c d : Value) (hd : act.defers = [])
    (hp : act.tmps.getD p undef = .pointer (some ⟨g, 0, none⟩))
    (h0 : w.cell? ⟨g, 0, none⟩ = some a) (h1 : w.cell? ⟨g, 1, none⟩ = some b) (h2 : w.cell? ⟨g, 2, none⟩ = some c) (h3 : w.cell? ⟨g, 3, none⟩ = some d)
    (hQ : Q (.returned (.agg #[a, b, c, d])) w) : bodyPost Tryz.prog fn Q .ret act w := by
  refine bodyPost_ret (v := .agg #[a, b, c, d]) ?_ hd hQ
  simp only [results, hr]
  simp [Sem.run_bind, Result.andThen, -Array.getD_eq_getD_getElem?]
  rw [hp]
  simp only [asAddr, Sem.run_pure]
  rw [load4 ty w g a b c d hty h0 h1 h2 h3]
/-- The end of a function that has just stored four cells into its result's block. -/
theorem end_set4 {fn : Func} {p u : Tmp} {ty : TypeId} (hr : fn.results = #[.cell p ty, .tmp u]) (hty : ty = 24 ∨ ty = 50) {Q : Ending → World → Prop} {act : Act} {w : World} (g : Nat) (a b c d e : Value) (hd : act.defers = [])
    (hp : act.tmps.getD p undef = .pointer (some ⟨g, 0, none⟩)) (he : act.tmps.getD u undef = e) (h : ∀ j, j < 4 → ∃ v, w.cell? ⟨g, j, none⟩ = some v)
    (hQ : Q (.returned (.tuple #[.agg #[a, b, c, d], e])) ((((w.setCell ⟨g, 0, none⟩ a).setCell ⟨g, 1, none⟩ b).setCell ⟨g, 2, none⟩ c).setCell ⟨g, 3, none⟩ d)) :
    bodyPost Tryz.prog fn Q .ret act ((((w.setCell ⟨g, 0, none⟩ a).setCell ⟨g, 1, none⟩ b).setCell ⟨g, 2, none⟩ c).setCell ⟨g, 3, none⟩ d) := by
  obtain ⟨h0, h1, h2, h3⟩ := set4_cells w g a b c d h _ rfl
  exact end_struct hr hty g a b c d e hd hp he h0 h1 h2 h3 hQ
theorem end_set4one {fn : Func} {p : Tmp} {ty : TypeId} (hr : fn.results = #[.cell p ty]) (hty : ty = 24 ∨ ty = 50) {Q : Ending → World → Prop} {act : Act} {w : World} (g : Nat) (a b c d : Value) (hd : act.defers = [])
    (hp : act.tmps.getD p undef = .pointer (some ⟨g, 0, none⟩)) (h : ∀ j, j < 4 → ∃ v, w.cell? ⟨g, j, none⟩ = some v)
    (hQ : Q (.returned (.agg #[a, b, c, d])) ((((w.setCell ⟨g, 0, none⟩ a).setCell ⟨g, 1, none⟩ b).setCell ⟨g, 2, none⟩ c).setCell ⟨g, 3, none⟩ d)) :
    bodyPost Tryz.prog fn Q .ret act ((((w.setCell ⟨g, 0, none⟩ a).setCell ⟨g, 1, none⟩ b).setCell ⟨g, 2, none⟩ c).setCell ⟨g, 3, none⟩ d) := by
  obtain ⟨h0, h1, h2, h3⟩ := set4_cells w g a b c d h _ rfl
  exact end_struct1 hr hty g a b c d hd hp h0 h1 h2 h3 hQ
theorem cell_alloc_of {w : World} {p : Addr} {v : Value} (h : w.cell? p = some v) (o : Obj) : (w.alloc o).cell? p = some v := cell_later ((Below.refl _ _).alloc (Nat.le_refl _) o) h
/-- The same with a block laid besides. -/
theorem end_set4a {fn : Func} {p u : Tmp} {ty : TypeId} (hr : fn.results = #[.cell p ty, .tmp u]) (hty : ty = 24 ∨ ty = 50) {Q : Ending → World → Prop} {act : Act} {w : World} {o : Obj} (g : Nat) (a b c d e : Value) (hd : act.defers = [])
    (hp : act.tmps.getD p undef = .pointer (some ⟨g, 0, none⟩)) (he : act.tmps.getD u undef = e) (h : ∀ j, j < 4 → ∃ v, w.cell? ⟨g, j, none⟩ = some v)
    (hQ : Q (.returned (.tuple #[.agg #[a, b, c, d], e])) (((((w.setCell ⟨g, 0, none⟩ a).setCell ⟨g, 1, none⟩ b).setCell ⟨g, 2, none⟩ c).setCell ⟨g, 3, none⟩ d).alloc o)) :
    bodyPost Tryz.prog fn Q .ret act (((((w.setCell ⟨g, 0, none⟩ a).setCell ⟨g, 1, none⟩ b).setCell ⟨g, 2, none⟩ c).setCell ⟨g, 3, none⟩ d).alloc o) := by
  obtain ⟨h0, h1, h2, h3⟩ := set4_cells w g a b c d h _ rfl
  exact end_struct hr hty g a b c d e hd hp he (cell_alloc_of h0 _) (cell_alloc_of h1 _) (cell_alloc_of h2 _) (cell_alloc_of h3 _) hQ
theorem four_set {w : World} {g : Nat} (h : ∀ j, j < 4 → ∃ v, w.cell? ⟨g, j, none⟩ = some v) (p : Addr) (u : Value) : ∀ j, j < 4 → ∃ v, (w.setCell p u).cell? ⟨g, j, none⟩ = some v := by
  intro j hj
  obtain ⟨v, hv⟩ := h j hj
  exact cell?_setCell_some hv
theorem ext_set4 {w W : World} (h : Below w.heap.size w W) {g : Nat} (hg : w.heap.size ≤ g) (a b c d : Value) :
    Below w.heap.size w ((((W.setCell ⟨g, 0, none⟩ a).setCell ⟨g, 1, none⟩ b).setCell ⟨g, 2, none⟩ c).setCell ⟨g, 3, none⟩ d) :=
  ext_set (ext_set (ext_set (ext_set h hg _) hg _) hg _) hg _
/-- A block of four cells, as far as it is read. -/
structure Box4 (w : World) (g : Nat) (a b c d : Value) : Prop where
  c0 : w.cell? ⟨g, 0, none⟩ = some a
  c1 : w.cell? ⟨g, 1, none⟩ = some b
  c2 : w.cell? ⟨g, 2, none⟩ = some c
  c3 : w.cell? ⟨g, 3, none⟩ = some d
theorem Box4.later {w w' : World} {g : Nat} {a b c d : Value} (h : Box4 w g a b c d) (hb : Below w.heap.size w w') : Box4 w' g a b c d :=
  ⟨cell_later hb h.c0, cell_later hb h.c1, cell_later hb h.c2, cell_later hb h.c3⟩
theorem Box4.new (w : World) (t : TypeId) (a b c d : Value) : Box4 (w.alloc (.cells #[a, b, c, d] t)) w.heap.size a b c d := ⟨by simp, by simp, by simp, by simp⟩
theorem Box4.lt {w : World} {g : Nat} {a b c d : Value} (h : Box4 w g a b c d) : g < w.heap.size := World.block_lt_of_cell? _ _ h.c0
theorem heap_new1 (w : World) (o : Obj) : (w.alloc o).heap[w.heap.size]? = some o := heap_alloc_new w o
theorem heap_new2 (w : World) (o1 o2 : Obj) : ((w.alloc o1).alloc o2).heap[w.heap.size + 1]? = some o2 := by
  have := heap_alloc_new (w.alloc o1) o2
  rwa [World.size_alloc] at this
theorem heap_new3 (w : World) (o1 o2 o3 : Obj) : (((w.alloc o1).alloc o2).alloc o3).heap[w.heap.size + 2]? = some o3 := by
  have := heap_alloc_new ((w.alloc o1).alloc o2) o3
  rwa [World.size_alloc, World.size_alloc] at this
/-- Four cells of a block of an elder world. -/
theorem four_of {W w1 : World} {g : Nat} {x0 x1 x2 x3 : Value} {t : TypeId} {r : Nat × Nat} (hg : W.heap[g]? = some (.cells #[x0, x1, x2, x3] t r)) (hb : Below W.heap.size W w1) : ∀ j, j < 4 → ∃ v, w1.cell? ⟨g, j, none⟩ = some v := by
  have hlt : g < W.heap.size := by
    rcases Nat.lt_or_ge g W.heap.size with h | h
    · exact h
    · rw [Array.getElem?_eq_none h] at hg; cases hg
  intro j hj
  have hc : w1.cell? ⟨g, j, none⟩ = W.cell? ⟨g, j, none⟩ := hb.cell (p := ⟨g, j, none⟩) hlt
  rw [hc, cell_of_row W g j _ t r hg]
  match j, hj with
  | 0, _ | 1, _ | 2, _ | 3, _ => exact ⟨_, rfl⟩
end Go.Proofs.YtnbcaklnpflihaaGreatDoor
