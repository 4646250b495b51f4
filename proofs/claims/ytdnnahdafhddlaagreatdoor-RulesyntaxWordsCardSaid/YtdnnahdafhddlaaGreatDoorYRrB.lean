/- Walks of the program's parser of rules: next, is, need, name, number. Conditions: the parser's cells are as PsAt says. Walks of the reference's reader of rules: fail, good, syntax. Conditions: the reader's cells are as Rr says. Walk of the reference's next. Conditions: the reader's cells are as Rr says. -/
import Derived.Test.YtdnnahdafhddlaaGreatDoorYSynW
import Derived.Test.YtdnnahdafhddlaaGreatDoorYTgN
namespace Go.Proofs.YtdnnahdafhddlaaGreatDoor
open Go.RowKit
set_option maxRecDepth 100000

/-- The next word is passed over. -/
def NextG (g : Nat) (t : ByteArray) (e a : Nat) (w : World) (en : Ending) (w' : World) : Prop :=
  Only g w w' ∧ match lookT t e a with
    | .bad b => en = .panicked (wrongC b 5)
    | .tok x p => en = .returned (.agg #[.string x, .int .i64 p]) ∧ PsAt w' g t e (startT t a + x.size)
theorem look_in {t x : ByteArray} {e a p : Nat} (ha : a ≤ t.size) (h : lookT t e a = .tok x p) : startT t a + x.size ≤ t.size := by
  have hs : startT t a ≤ t.size := passT_in blankC t ha
  unfold lookT at h
  by_cases h1 : startT t a < t.size
  · rw [dif_pos h1] at h
    have hw := passT_in wordC t (Nat.le_of_lt h1)
    split at h
    · injection h with h _
      rw [← h, ByteArray.size_extract]; omega
    · split at h
      · injection h with h _
        rw [← h, ByteArray.size_extract]; omega
      · cases h
  · rw [dif_neg h1] at h
    injection h with h _
    rw [← h]
    exact hs
set_option maxHeartbeats 4000000 in
theorem pnext_walk (g : Nat) (t : ByteArray) (e a : Nat) (w : World) (h : PsAt w g t e a) (ha : a ≤ t.size) (hs : t.size < 1073741824) :
    Calls Tryz.prog 138 #[.pointer (some ⟨g, 0, none⟩)] w fun en w' => NextG g t e a w en w' := by
  have hgl := blk_lt h
  have hpk := hide (fun W hW => peek_walk g t e a W hW ha hs)
  go_enter Tryz.func138, Tryz.ntmps138
  go_wp2_with fail
  obtain ⟨W, hW⟩ : ∃ W, w.alloc (.cells #[.string ⟨#[]⟩, .int .i64 0] 166) = W := ⟨_, rfl⟩
  have h1 : PsAt W g t e a := by rw [← hW]; exact h.later (ext_alloc (Below.refl _ _) _)
  have ho1 : Only g w W := by rw [← hW]; exact only_of_below (ext_alloc (Below.refl _ _) _) _
  have hr1 : ∃ x, W.heap[w.heap.size]? = some (.cells #[.string ⟨#[]⟩, x] 166 (0, 0)) := by rw [← hW]; exact ⟨_, heap_alloc_new _ _⟩
  rw [hW]
  refine (hpk.out W h1).mono ?_
  rintro en w1 ⟨ho2, hm⟩
  cases hl : lookT t e a with
  | bad b =>
    rw [hl] at hm
    obtain rfl := hm
    go_wp2
    exact ⟨rfl, ho1.trans ho2, by rw [hl]⟩
  | tok x p =>
    rw [hl] at hm
    obtain ⟨rfl, h2⟩ := hm
    have hin := look_in ha hl
    obtain ⟨x0, hr1⟩ := hr1
    obtain ⟨r, hr⟩ : ∃ r, w.heap.size = r := ⟨_, rfl⟩
    rw [hr] at hr1 hgl ⊢
    have hrl := blk_lt hr1
    have hr2 : w1.heap[r]? = _ := (ho2.block r hrl (by intro e; injection e with e; omega)).trans hr1
    have hrl2 := blk_lt hr2
    obtain ⟨b, hb⟩ : ∃ b, startT t a = b := ⟨_, rfl⟩
    rw [hb] at h2 hin
    obtain ⟨w2, hw2⟩ : ∃ w2, w1.alloc (.cells #[.string x, .int .i64 p] 166) = w2 := ⟨_, rfl⟩
    have hb2 : Below w1.heap.size w1 w2 := by rw [← hw2]; exact ext_alloc (Below.refl _ _) _
    have h3 := h2.later hb2
    have ho3 := Only.later (ho1.trans ho2) hb2
    have hr3 : w2.heap[r]? = _ := (hb2.block r hrl2).trans hr2
    have ht3 : w2.heap[w1.heap.size]? = some (.cells #[.string x, .int .i64 p] 166 (0, 0)) := by rw [← hw2]; exact heap_alloc_new _ _
    clear hr1 hr2 h2 ho1 ho2 h1 hW h hb2
    obtain ⟨q, hq⟩ : ∃ q, w1.heap.size = q := ⟨_, rfl⟩
    go_wp2
    rw [hq] at ht3 hrl2
    obtain ⟨c0, c1, c2, hf, hgl3⟩ := ps_cells h3
    have f2 := hf 2
    clear hf
    obtain ⟨d0, d1, -⟩ := tok_cells ht3
    have e1 : IntKind.i64.wrap ((b : Int) + (x.size : Int)) = (b : Int) + (x.size : Int) := IntWalk.i64_in _ (by omega)
    have hset : PsAt (w2.setCell ⟨g, 2, none⟩ (.int .i64 ((b : Int) + (x.size : Int)))) g t e (b + x.size) ∧ Only g w2 (w2.setCell ⟨g, 2, none⟩ (.int .i64 ((b : Int) + (x.size : Int)))) := ps_set h3 (b + x.size)
    have hdr : Below (w2.setCell ⟨g, 2, none⟩ (.int .i64 ((b : Int) + (x.size : Int)))).heap.size _ (w2.setCell ⟨g, 2, none⟩ (.int .i64 ((b : Int) + (x.size : Int)))).drew := ext_drew (Below.refl _ _)
    have h4 := hset.1.later hdr
    have ho4 := Only.later (ho3.trans hset.2) hdr
    have hr4 := (hdr.block r (blk_lt (row_other (i := 2) hr3 (by omega) _))).trans (row_other (g := r) (r := g) (i := 2) hr3 (by omega) (.int .i64 ((b : Int) + (x.size : Int))))
    have ht4 := (hdr.block q (blk_lt (row_other (i := 2) ht3 (by omega) _))).trans (row_other (g := q) (r := g) (i := 2) ht3 (by omega) (.int .i64 ((b : Int) + (x.size : Int))))
    clear hset hdr h3 hw2
    go_region
    clear c0 c1 c2 f2 d0 d1 ho3 hr3 ht3 hgl3
    generalize (World.setCell _ _ _).drew = w3 at *
    obtain ⟨c0, c1, -, -, hgl3⟩ := ps_cells h4
    obtain ⟨d0, d1, -⟩ := tok_cells ht4
    obtain ⟨y0, y1, hfr⟩ := tok_cells hr4
    have fr0 := hfr 0
    have fr1 := hfr 1
    have hrl4 := blk_lt hr4
    clear hfr c0 c1
    obtain ⟨z0, z1, z2, z3⟩ := tok_done0 ho4 (Only.refl _ _) hr hgl hr4 h4 (.string x) (.int .i64 (p : Int))
    have hdone : Hid (NextG g t e a w (.returned (.agg #[.string x, .int .i64 p])) ((w3.setCell ⟨r, 0, none⟩ (.string x)).setCell ⟨r, 1, none⟩ (.int .i64 (p : Int)))) := ⟨z3, by rw [hl]; exact ⟨rfl, by rw [hb]; exact z2⟩⟩
    clear z2 z3 h4 ho4 hr4 ht4
    go_wp2
    exact end_tok rfl r _ _ rfl rfl z0 z1 hdone.out
theorem run_tok0 (x y : Value) (w : World) : (Instr.field 166 (.agg #[x, y]) 0).run Tryz.prog w = .ok x w := by kernel_rfl
theorem run_tok1 (x y : Value) (w : World) : (Instr.field 166 (.agg #[x, y]) 1).run Tryz.prog w = .ok y w := by kernel_rfl
/-- A text is passed over, if it is the next word. -/
def IsG (g : Nat) (t : ByteArray) (e a : Nat) (k : ByteArray) (w : World) (en : Ending) (w' : World) : Prop :=
  Only g w w' ∧ match lookT t e a with
    | .bad b => en = .panicked (wrongC b 5)
    | .tok x _ => en = .returned (.bool (decide (x = k))) ∧ PsAt w' g t e (if x = k then startT t a + x.size else startT t a)
set_option maxHeartbeats 4000000 in
theorem is_walk (g : Nat) (t : ByteArray) (e a : Nat) (k : ByteArray) (w : World) (h : PsAt w g t e a) (ha : a ≤ t.size) (hs : t.size < 1073741824) :
    Calls Tryz.prog 135 #[.pointer (some ⟨g, 0, none⟩), .string k] w fun en w' => IsG g t e a k w en w' := by
  have hpk := peek_walk g t e a w h ha hs
  have hf0 := run_tok0
  have hnx := hide (fun W hW => pnext_walk g t e (startT t a) W hW (passT_in blankC t ha) hs)
  go_enter Tryz.func135, Tryz.ntmps135
  go_wp2_with fail
  refine hpk.mono ?_
  rintro en w1 ⟨ho1, hm⟩
  cases hl : lookT t e a with
  | bad b =>
    rw [hl] at hm
    obtain rfl := hm
    go_wp2
    exact ⟨rfl, ho1, by rw [hl]⟩
  | tok x p =>
    rw [hl] at hm
    obtain ⟨rfl, h1⟩ := hm
    by_cases hx : x = k
    · have hin := look_in ha hl
      have h2 := hnx.out w1 h1
      go_wp2_with fail
      refine h2.mono ?_
      rintro en w2 ⟨ho2, hm⟩
      rw [lookT_start, hl] at hm
      obtain ⟨rfl, h3⟩ := hm
      rw [startT_twice] at h3
      go_wp2
      go_ret
      exact ⟨ho1.trans ho2, by rw [hl]; exact ⟨by rw [decide_eq_true hx]; rfl, by rw [if_pos hx]; exact h3⟩⟩
    · have hq : (x.toList == k.toList) = false := by rw [toList_inj]; exact decide_eq_false hx
      go_wp2_with fail
      go_ret
      exact ⟨ho1, by rw [hl]; exact ⟨by rw [decide_eq_false hx]; rfl, by rw [if_neg hx]; exact h1⟩⟩
/-- What a reader does: the first error ends in the panic; else the parser stands behind what was read. -/
def RdG {α : Type} (g : Nat) (t : ByteArray) (e : Nat) (val : World → World → α → Value → Prop) (r : Res α) (w : World) (en : Ending) (w' : World) : Prop :=
  Only g w w' ∧ match r with
    | .error y => en = .panicked (wrongC y.1 y.2)
    | .ok (x, b) => PsAt w' g t e b ∧ b ≤ t.size ∧ ∃ v, val w w' x v ∧ en = .returned v
theorem RdG.err {α : Type} {g : Nat} {t : ByteArray} {e : Nat} {val : World → World → α → Value → Prop} {r : Res α} {w w' : World} {b : Nat} {c : Int} (hr : r = .error (b, c)) (ho : Only g w w') : RdG g t e val r w (.panicked (wrongC b c)) w' := ⟨ho, by rw [hr]⟩
theorem RdG.ok {α : Type} {g : Nat} {t : ByteArray} {e : Nat} {val : World → World → α → Value → Prop} {r : Res α} {w w' : World} {x : α} {b : Nat} {v : Value} (hr : r = .ok (x, b)) (ho : Only g w w') (h : PsAt w' g t e b) (hb : b ≤ t.size) (hv : val w w' x v) : RdG g t e val r w (.returned v) w' := ⟨ho, by rw [hr]; exact ⟨h, hb, v, hv, rfl⟩⟩
abbrev vUnit : World → World → Unit → Value → Prop := fun _ _ _ v => v = .tuple #[]
abbrev vStr : World → World → ByteArray → Value → Prop := fun _ _ x v => v = .string x
abbrev vNat : World → World → Nat → Value → Prop := fun _ _ x v => v = .int .i64 x
set_option maxHeartbeats 4000000 in
theorem need_walk (g : Nat) (t : ByteArray) (e a : Nat) (k : ByteArray) (w : World) (h : PsAt w g t e a) (ha : a ≤ t.size) (hs : t.size < 1073741824) :
    Calls Tryz.prog 133 #[.pointer (some ⟨g, 0, none⟩), .string k] w fun en w' => RdG g t e vUnit (needP t e k a) w en w' := by
  have hgl := blk_lt h
  have hnx := pnext_walk g t e a w h ha hs
  go_enter Tryz.func133, Tryz.ntmps133
  go_wp2_with fail
  refine hnx.mono ?_
  rintro en w1 ⟨ho1, hm⟩
  cases hl : lookT t e a with
  | bad b =>
    rw [hl] at hm
    obtain rfl := hm
    go_wp2
    exact ⟨rfl, RdG.err (by unfold needP nextP; rw [hl]) ho1⟩
  | tok x p =>
    rw [hl] at hm
    obtain ⟨rfl, h1⟩ := hm
    have hin := look_in ha hl
    obtain ⟨w2, hw2⟩ : ∃ w2, w1.alloc (.cells #[.string x, .int .i64 (p : Int)] 166) = w2 := ⟨_, rfl⟩
    obtain ⟨q, hq⟩ : ∃ q, w1.heap.size = q := ⟨_, rfl⟩
    have hb2 : Below w1.heap.size w1 w2 := by rw [← hw2]; exact ext_alloc (Below.refl _ _) _
    have h2 := h1.later hb2
    have ho2 := Only.later ho1 hb2
    have ht2 : w2.heap[q]? = some (.cells #[.string x, .int .i64 (p : Int)] 166 (0, 0)) := by rw [← hw2, ← hq]; exact heap_alloc_new _ _
    obtain ⟨d0, d1, -⟩ := tok_cells ht2
    clear h1 ho1 hb2 ht2
    by_cases hx : x = k
    · have hr : needP t e k a = .ok ((), startT t a + x.size) := by unfold needP nextP; rw [hl]; exact if_pos hx
      subst hx
      go_wp2
      go_end0
      exact RdG.ok hr ho2 h2 hin rfl
    · have hr : needP t e k a = .error (p, 15) := by unfold needP nextP; rw [hl]; exact if_neg hx
      have hxk : (x.toList == k.toList) = false := by rw [toList_inj]; exact decide_eq_false hx
      go_wp2_with (go_at_call 137; refine (sfail_walk _ _ _ _).mono ?_; rintro e w' ⟨rfl, rfl⟩)
      exact ⟨rfl, RdG.err hr ho2⟩
set_option maxHeartbeats 4000000 in
theorem ident_walk (g : Nat) (t : ByteArray) (e a : Nat) (w : World) (h : PsAt w g t e a) (ha : a ≤ t.size) (hs : t.size < 1073741824) :
    Calls Tryz.prog 132 #[.pointer (some ⟨g, 0, none⟩)] w fun en w' => RdG g t e vStr (identP codeB t e a) w en w' := by
  have hgl := blk_lt h
  have hnx := pnext_walk g t e a w h ha hs
  go_enter Tryz.func132, Tryz.ntmps132
  go_wp2_with fail
  refine hnx.mono ?_
  rintro en w1 ⟨ho1, hm⟩
  cases hl : lookT t e a with
  | bad b =>
    rw [hl] at hm
    obtain rfl := hm
    go_wp2
    exact ⟨rfl, RdG.err (by unfold identP nextP; rw [hl]) ho1⟩
  | tok x p =>
    rw [hl] at hm
    obtain ⟨rfl, h1⟩ := hm
    have hin := look_in ha hl
    obtain ⟨w2, hw2⟩ : ∃ w2, w1.alloc (.cells #[.string x, .int .i64 (p : Int)] 166) = w2 := ⟨_, rfl⟩
    obtain ⟨q, hq⟩ : ∃ q, w1.heap.size = q := ⟨_, rfl⟩
    have hb2 : Below w1.heap.size w1 w2 := by rw [← hw2]; exact ext_alloc (Below.refl _ _) _
    have h2 := h1.later hb2
    have ho2 := Only.later ho1 hb2
    have ht2 : w2.heap[q]? = some (.cells #[.string x, .int .i64 (p : Int)] 166 (0, 0)) := by rw [← hw2, ← hq]; exact heap_alloc_new _ _
    obtain ⟨d0, d1, -⟩ := tok_cells ht2
    clear h1 ho1 hb2 ht2
    have hcv := cvalid_walk x
    cases hx : codeB x with
    | true =>
      rw [hx] at hcv
      have hr : identP codeB t e a = .ok (x, startT t a + x.size) := by unfold identP nextP; rw [hl]; exact if_pos hx
      go_wp2_with (go_at_call 32; refine (hcv _).mono ?_; rintro e w' ⟨rfl, rfl⟩)
      go_ret
      exact RdG.ok hr ho2 h2 hin rfl
    | false =>
      rw [hx] at hcv
      have hr : identP codeB t e a = .error (p, 15) := by unfold identP nextP; rw [hl]; exact if_neg (by rw [hx]; decide)
      go_wp2_with (first | (go_at_call 32; refine (hcv _).mono ?_; rintro e w' ⟨rfl, rfl⟩) | (go_at_call 137; refine (sfail_walk _ _ _ _).mono ?_; rintro e w' ⟨rfl, rfl⟩))
      exact ⟨rfl, RdG.err hr ho2⟩
end Go.Proofs.YtdnnahdafhddlaaGreatDoor

namespace Go.Proofs.YtdnnahdafhddlaaGreatDoor
open Go.RowKit
set_option maxRecDepth 100000

/-- Block g is a reader of the line t, which ends at e: it stands at p and looks at the word x, which begins at f; its first error's column and code are c, d. -/
def Rr (w : World) (g : Nat) (t : ByteArray) (e p : Nat) (x : ByteArray) (f : Nat) (c d : Int) : Prop :=
  w.heap[g]? = some (.cells #[.string t, .int .i64 e, .int .i64 p, .string x, .int .i64 f, .int .i64 0, .int .i64 0, .int .i64 c, .int .i64 d] 143 (0, 0))
section
variable {w w' : World} {g e p f : Nat} {t x : ByteArray} {c d : Int}
theorem rr_cells (h : Rr w g t e p x f c d) :
    w.cell? ⟨g, 0, none⟩ = some (.string t) ∧ w.cell? ⟨g, 1, none⟩ = some (.int .i64 e) ∧ w.cell? ⟨g, 2, none⟩ = some (.int .i64 p) ∧ w.cell? ⟨g, 3, none⟩ = some (.string x) ∧ w.cell? ⟨g, 4, none⟩ = some (.int .i64 f) ∧ w.cell? ⟨g, 8, none⟩ = some (.int .i64 d) ∧ (∀ j, w.frozen? ⟨g, j, none⟩ = false) ∧ g < w.heap.size := by
  refine ⟨?_, ?_, ?_, ?_, ?_, ?_, fun j => by simp [World.frozen?, show w.heap[g]? = _ from h], blk_lt h⟩ <;> rw [cell_of_row w g _ _ _ _ h] <;> rfl
theorem rr_more (h : Rr w g t e p x f c d) : w.cell? ⟨g, 5, none⟩ = some (.int .i64 0) ∧ w.cell? ⟨g, 6, none⟩ = some (.int .i64 0) ∧ w.cell? ⟨g, 7, none⟩ = some (.int .i64 c) := by
  refine ⟨?_, ?_, ?_⟩ <;> rw [cell_of_row w g _ _ _ _ h] <;> rfl
theorem Rr.later (h : Rr w g t e p x f c d) (hb : Below w.heap.size w w') : Rr w' g t e p x f c d := (hb.block g (blk_lt h)).trans h
theorem Rr.grown {row : Option Nat} (h : Rr w g t e p x f c d) (hg : w.grownBy w' row) (hr : ∀ y, row = some y → g < y) : Rr w' g t e p x f c d :=
  (hg.block g (blk_lt h) (fun e => by have := hr g e.symm; omega)).trans h
theorem rr_pos (h : Rr w g t e p x f c d) (q : Nat) : Rr (w.setCell ⟨g, 2, none⟩ (.int .i64 q)) g t e q x f c d ∧ Only g w (w.setCell ⟨g, 2, none⟩ (.int .i64 q)) := by
  have hg : w.heap[g]? = _ := h
  refine ⟨?_, only_setCell (World.grownBy.refl _ _) (Or.inl rfl) _⟩
  show (w.setCell ⟨g, 2, none⟩ (.int .i64 q)).heap[g]? = _
  simp only [World.setCell, Array.getElem?_modify, hg]
  rfl
theorem rr_word (h : Rr w g t e p x f c d) (y : ByteArray) : Rr (w.setCell ⟨g, 3, none⟩ (.string y)) g t e p y f c d ∧ Only g w (w.setCell ⟨g, 3, none⟩ (.string y)) := by
  have hg : w.heap[g]? = _ := h
  refine ⟨?_, only_setCell (World.grownBy.refl _ _) (Or.inl rfl) _⟩
  show (w.setCell ⟨g, 3, none⟩ (.string y)).heap[g]? = _
  simp only [World.setCell, Array.getElem?_modify, hg]
  rfl
theorem rr_from (h : Rr w g t e p x f c d) (q : Nat) : Rr (w.setCell ⟨g, 4, none⟩ (.int .i64 q)) g t e p x q c d ∧ Only g w (w.setCell ⟨g, 4, none⟩ (.int .i64 q)) := by
  have hg : w.heap[g]? = _ := h
  refine ⟨?_, only_setCell (World.grownBy.refl _ _) (Or.inl rfl) _⟩
  show (w.setCell ⟨g, 4, none⟩ (.int .i64 q)).heap[g]? = _
  simp only [World.setCell, Array.getElem?_modify, hg]
  rfl
theorem cells_set {cs : Array Value} {ty : TypeId} (h : w.heap[g]? = some (.cells cs ty (0, 0))) (j : Nat) (u : Value) : (w.setCell ⟨g, j, none⟩ u).heap[g]? = some (.cells (cs.setIfInBounds j u) ty (0, 0)) := by
  simp only [World.setCell, Array.getElem?_modify, h]
  rfl
theorem rr_bad (h : Rr w g t e p x f c d) (a k : Int) : Rr ((((w.setCell ⟨g, 5, none⟩ (.int .i64 0)).setCell ⟨g, 6, none⟩ (.int .i64 0)).setCell ⟨g, 7, none⟩ (.int .i64 a)).setCell ⟨g, 8, none⟩ (.int .i64 k)) g t e p x f a k ∧
    Only g w ((((w.setCell ⟨g, 5, none⟩ (.int .i64 0)).setCell ⟨g, 6, none⟩ (.int .i64 0)).setCell ⟨g, 7, none⟩ (.int .i64 a)).setCell ⟨g, 8, none⟩ (.int .i64 k)) := by
  have o1 : Only g w (w.setCell ⟨g, 5, none⟩ (.int .i64 0)) := only_setCell (World.grownBy.refl _ _) (Or.inl rfl) _
  have o2 : Only g w ((w.setCell ⟨g, 5, none⟩ (.int .i64 0)).setCell ⟨g, 6, none⟩ (.int .i64 0)) := only_setCell o1 (Or.inl rfl) _
  have o3 : Only g w (((w.setCell ⟨g, 5, none⟩ (.int .i64 0)).setCell ⟨g, 6, none⟩ (.int .i64 0)).setCell ⟨g, 7, none⟩ (.int .i64 a)) := only_setCell o2 (Or.inl rfl) _
  have o4 : Only g w ((((w.setCell ⟨g, 5, none⟩ (.int .i64 0)).setCell ⟨g, 6, none⟩ (.int .i64 0)).setCell ⟨g, 7, none⟩ (.int .i64 a)).setCell ⟨g, 8, none⟩ (.int .i64 k)) := only_setCell o3 (Or.inl rfl) _
  have e1 := cells_set h 5 (.int .i64 0)
  have e2 := cells_set e1 6 (.int .i64 0)
  have e3 := cells_set e2 7 (.int .i64 a)
  have e4 := cells_set e3 8 (.int .i64 k)
  exact ⟨e4, o4⟩
end
set_option maxHeartbeats 1000000 in
theorem rgood_walk (g : Nat) (t : ByteArray) (e p : Nat) (x : ByteArray) (f : Nat) (c d : Int) (w : World) (h : Rr w g t e p x f c d) :
    Calls Tryz.prog 100 #[.pointer (some ⟨g, 0, none⟩)] w fun en w' => en = .returned (.bool (d == 0)) ∧ w = w' := by
  obtain ⟨c0, c1, c2, c3, c4, c8, hf, hgl⟩ := rr_cells h
  go_enter Tryz.func100, Tryz.ntmps100
  go_wp2
  go_ret
  exact ⟨rfl, rfl⟩
set_option maxHeartbeats 1000000 in
theorem rfail_walk (g : Nat) (t : ByteArray) (e p : Nat) (x : ByteArray) (f : Nat) (c d : Int) (a : Nat) (k : Int) (w : World) (h : Rr w g t e p x f c d) (ha : a ≤ 4000000000) :
    Calls Tryz.prog 148 #[.pointer (some ⟨g, 0, none⟩), .int .i64 a, .int .i64 k] w fun en w' => en = .returned (.tuple #[]) ∧ Only g w w' ∧ Rr w' g t e p x f (if d = 0 then (a : Int) + 1 else c) (if d = 0 then k else d) := by
  obtain ⟨c0, c1, c2, c3, c4, c8, hf, hgl⟩ := rr_cells h
  obtain ⟨c5, c6, c7⟩ := rr_more h
  have f5 := hf 5
  have f6 := hf 6
  have f7 := hf 7
  have f8 := hf 8
  have e1 : IntKind.i64.wrap ((a : Int) + 1) = (a : Int) + 1 := IntWalk.i64_in _ (by omega)
  obtain ⟨r1, o1⟩ := rr_bad h ((a : Int) + 1) k
  by_cases hd : d = 0
  · have hend := hide (And.intro o1 r1)
    rw [if_pos hd, if_pos hd]
    subst hd
    clear hf h r1 o1
    go_enter Tryz.func148, Tryz.ntmps148
    go_wp2
    go_end0
    exact ⟨rfl, hend.out⟩
  · rw [if_neg hd, if_neg hd]
    have hd0 : (d == 0) = false := by rw [beq_eq_false_iff_ne]; exact hd
    replace hd := hide hd
    have hh := hide h
    clear hf h r1 o1
    go_enter Tryz.func148, Tryz.ntmps148
    go_wp2
    go_end0
    exact ⟨rfl, Only.refl _ _, hh.out⟩
/-- The first error is noted. -/
def RBad (w : World) (g : Nat) (t : ByteArray) (e : Nat) (y : Nat × Int) : Prop := ∃ p x f, Rr w g t e p x f ((y.1 : Int) + 1) y.2 ∧ y.2 ≠ 0 ∧ p ≤ t.size ∧ x.size ≤ t.size ∧ f ≤ t.size + e
/-- The reader stands at a and has looked at what comes there. -/
def RdyAt (w : World) (g : Nat) (t : ByteArray) (e a : Nat) : Prop := match lookT t e a with
  | .bad b => RBad w g t e (b, 5)
  | .tok x p => Rr w g t e (startT t a + x.size) x p 0 0 ∧ startT t a + x.size ≤ t.size ∧ x.size ≤ t.size ∧ p ≤ t.size + e
set_option maxHeartbeats 1000000 in
theorem rsyntax_walk (g : Nat) (t : ByteArray) (e p : Nat) (x : ByteArray) (f : Nat) (w : World) (h : Rr w g t e p x f 0 0) (hf : f ≤ t.size + e) (hs : t.size + e ≤ 4000000000) (hp : p ≤ t.size) (hx : x.size ≤ t.size) :
    Calls Tryz.prog 152 #[.pointer (some ⟨g, 0, none⟩)] w fun en w' => en = .returned (.tuple #[]) ∧ Only g w w' ∧ RBad w' g t e (f, 15) := by
  have hfl := rfail_walk g t e p x f 0 0 f 15 w h (by omega)
  rw [if_pos rfl, if_pos rfl] at hfl
  obtain ⟨c0, c1, c2, c3, c4, c8, hfr, hgl⟩ := rr_cells h
  clear hfr
  go_enter Tryz.func152, Tryz.ntmps152
  go_wp2_with fail
  refine hfl.mono ?_
  rintro en w1 ⟨rfl, ho, hr⟩
  have hend : Hid (RBad w1 g t e (f, 15)) := hide ⟨p, x, f, hr, (by show (15 : Int) ≠ 0; decide), hp, hx, hf⟩
  clear hr hfl
  go_wp2
  go_end0
  exact ⟨rfl, ho, hend.out⟩
end Go.Proofs.YtdnnahdafhddlaaGreatDoor

namespace Go.Proofs.YtdnnahdafhddlaaGreatDoor
open Go.RowKit
set_option maxRecDepth 100000

theorem psLeft_rr {w : World} {g e p f : Nat} {t x : ByteArray} {c d : Int} (h : Rr w g t e p x f c d) : psLeft g t w = t.size - p := by
  unfold psLeft
  rw [(rr_cells h).2.2.1]
  rfl
theorem look_end {t : ByteArray} {e a : Nat} (h : ¬ startT t a < t.size) : lookT t e a = .tok ⟨#[]⟩ e := by unfold lookT; rw [dif_neg h]
theorem look_wd {t : ByteArray} {e a s : Nat} (hs : startT t a = s) (h : s < t.size) (hw : s < passT wordC t s) : lookT t e a = .tok (t.extract s (passT wordC t s)) s := by
  subst hs
  unfold lookT
  rw [dif_pos h, if_pos hw]
theorem look_sg {t : ByteArray} {e a s : Nat} (hs : startT t a = s) (h : s < t.size) (hw : wordC t[s] = false) (hg : signC t[s] = true) : lookT t e a = .tok (t.extract s (s + 1)) s := by
  subst hs
  unfold lookT
  rw [dif_pos h, if_neg (by rw [passT_stop h hw]; omega), if_pos (show signC (t.get _ h) = true from hg)]
theorem look_bd {t : ByteArray} {e a s : Nat} (hs : startT t a = s) (h : s < t.size) (hw : wordC t[s] = false) (hg : signC t[s] = false) : lookT t e a = .bad s := by
  subst hs
  unfold lookT
  rw [dif_pos h, if_neg (by rw [passT_stop h hw]; omega), if_neg (by rw [show signC (t.get _ h) = false from hg]; decide)]
theorem rdy_tok {w : World} {g : Nat} {t x : ByteArray} {e a p q : Nat} (hl : lookT t e a = .tok x p) (hq : startT t a + x.size = q) (hr : Rr w g t e q x p 0 0) (h1 : q ≤ t.size) (h2 : p ≤ t.size + e) : RdyAt w g t e a := by
  subst hq
  unfold RdyAt
  rw [hl]
  exact ⟨hr, h1, by omega, h2⟩
theorem rdy_bad {w : World} {g : Nat} {t : ByteArray} {e a b : Nat} (hl : lookT t e a = .bad b) (h : RBad w g t e (b, 5)) : RdyAt w g t e a := by
  unfold RdyAt
  rw [hl]
  exact h
/-- What next does. -/
def NxG (g : Nat) (t : ByteArray) (e a : Nat) (w : World) (en : Ending) (w' : World) : Prop := en = .returned (.tuple #[]) ∧ Only g w w' ∧ RdyAt w' g t e a
set_option maxHeartbeats 4000000 in
theorem rnext_walk (g : Nat) (t : ByteArray) (e a : Nat) (x : ByteArray) (f : Nat) (w : World) (h : Rr w g t e a x f 0 0) (ha : a ≤ t.size) (hs : t.size + e < 1073741824) :
    Calls Tryz.prog 99 #[.pointer (some ⟨g, 0, none⟩)] w fun en w' => NxG g t e a w en w' := by
  have hgl0 := blk_lt h
  go_enter Tryz.func99, Tryz.ntmps99
  go_wp2
  go_loopw [] (fun wr => ∃ b, Rr wr g t e b x f 0 0 ∧ b ≤ t.size ∧ Hid (startT t b = startT t a) ∧ Only g w wr) (fun wr => psLeft g t wr)
  case atStart => exact ⟨a, h, ha, rfl, Only.refl _ _⟩
  case round =>
    clear h ha
    obtain ⟨b, hb, hbl, hst, ho⟩ := hrel
    obtain ⟨c0, c1, c2, c3, c4, c8, hf, hgl⟩ := rr_cells hb
    have hlw := hide (psLeft_rr hb)
    have hbd := hb.later (ext_drew (Below.refl _ _))
    have hod := ho.later (ext_drew (Below.refl _ _))
    obtain ⟨d0, d1, d2, d3, d4, d8, hfd, -⟩ := rr_cells hbd
    have hfd2 := hfd 2
    have hfd3 := hfd 3
    have hfd4 := hfd 4
    clear hfd ho hf c1 c3 c4 c8
    by_cases hlt : b < t.size
    · obtain ⟨n, hn⟩ : ∃ n, t[b].toNat = n := ⟨_, rfl⟩
      have hn256 : n < 256 := by rw [← hn]; exact t[b].toNat_lt
      have hbn : blankC t[b] = blankN n := by rw [blankC_nat, hn]
      have hz0 : (0 : Int) ≤ (b : Int) := by omega
      have hz1 : (b : Int) < (t.size : Int) := by omega
      by_cases q : n = 32 ∨ n = 9
      · have hgo : Hid (startT t (b + 1) = startT t a) := by
          rw [← hst.out]
          exact (passT_go hlt (by rw [hbn]; exact decide_eq_true q)).symm
        have hbl' : ((b : Int) + 1) ≤ 9223372036854775807 := by omega
        have hset := hide (rr_pos hbd (b + 1))
        clear hbn hbd
        rcases q with rfl | rfl
        all_goals
          go_wp2
          go_region
          clear c0 c2 hb
          generalize wr.drew = wd at *
          go_wp2
          go_roundw
          case rel => exact ⟨b + 1, hset.out.1, by omega, hgo, hod.trans hset.out.2⟩
          case measure =>
            rw [hlw.out, show ((b : Int) + 1) = ((b + 1 : Nat) : Int) from rfl, psLeft_rr hset.out.1]
            omega
      · have hend : Hid (startT t a = b) := by
          rw [← hst.out]
          exact passT_stop hlt (by rw [hbn]; exact decide_eq_false q)
        have q1 : ((n : Int) == 32) = false := by rw [beq_eq_false_iff_ne]; omega
        have q2 : ((n : Int) == 9) = false := by rw [beq_eq_false_iff_ne]; omega
        have q0 : ((b : Int) == (t.size : Int)) = false := by rw [beq_eq_false_iff_ne]; omega
        have hwn : Hid (wordC t[b] = wordN n) := hide (by rw [wordC_nat, hn])
        have hsn : Hid (signC t[b] = signN6 n) := hide (by rw [signC_nat, hn])
        have hset1 := rr_from hbd b
        have hset2 := rr_word hset1.1 ⟨#[]⟩
        have hor2 := hod.trans (hset1.2.trans hset2.2)
        replace q := hide q
        clear hbn hlw hst
        go_wp2
        go_region
        clear c0 c2 hb
        generalize wr.drew = wd at *
        go_wp2
        obtain ⟨hr2, -⟩ := hset2
        generalize (wd.setCell ⟨g, 4, none⟩ (Value.int .i64 (b : Int))).setCell ⟨g, 3, none⟩ (Value.string ⟨#[]⟩) = w2 at *
        clear d0 d1 d2 d3 d4 d8 hfd2 hfd3 hfd4 hset1 hbd hod
        obtain ⟨d0, d1, d2, d3, d4, d8, hfd, hgl2⟩ := rr_cells hr2
        have hr3 := hr2.later (ext_drew (Below.refl _ _))
        have ho3 := Only.later hor2 (ext_drew (Below.refl _ _))
        clear hfd d1 d3 d4 d8
        go_region
        clear d0 d2 hr2 hor2 hgl2
        generalize w2.drew = w3 at *
        obtain ⟨d0, d1, d2, d3, d4, d8, hfd, hgl3⟩ := rr_cells hr3
        have hr4 := hr3.later (ext_drew (Below.refl _ _))
        have ho4 := Only.later ho3 (ext_drew (Below.refl _ _))
        clear hfd d1 d3 d4 d8
        go_wp2
        go_region
        clear d0 d2 hr3 ho3 hgl3
        generalize w3.drew = w4 at *
        have hcall := rinWord_walk n
        obtain ⟨WN, hWN⟩ : ∃ WN, wordN n = WN := ⟨_, rfl⟩
        rw [hWN] at hcall hwn
        cases WN with
        | true =>
          replace hWN := hide hWN
          go_wp2_with fail
          refine (hcall _).mono ?_
          rintro en w5 ⟨rfl, rfl⟩
          clear hcall
          go_wp2
          go_loopw [] (fun wr => ∃ k : Nat, b ≤ k ∧ k ≤ t.size ∧ Rr wr g t e k ⟨#[]⟩ b 0 0 ∧ Hid (passT wordC t b = passT wordC t k) ∧ Only g w wr) (fun wr => psLeft g t wr)
          case atStart => exact ⟨b, Nat.le_refl _, hbl, hr4, hide rfl, ho4⟩
          case round =>
            clear hr4 ho4
            obtain ⟨k, hbk, hkl, hrk, hpk, hok⟩ := hrel
            obtain ⟨d0, d1, d2, d3, d4, d8, hfd, hglk⟩ := rr_cells hrk
            have hlw := hide (psLeft_rr hrk)
            clear hfd d1 d3 d4 d8
            have hk0 : (0 : Int) ≤ (k : Int) := by omega
            by_cases hk : k < t.size
            · obtain ⟨m, hm⟩ : ∃ m, t[k].toNat = m := ⟨_, rfl⟩
              have hwm : wordC t[k] = wordN m := by rw [wordC_nat, hm]
              have hk1 : (k : Int) < (t.size : Int) := by omega
              have hcall := rinWord_walk m
              cases hw : wordN m with
              | true =>
                rw [hw] at hcall
                have hnx : Hid (passT wordC t b = passT wordC t (k + 1)) := hide (by rw [hpk.out]; exact passT_go hk (hwm.trans hw))
                have hkb : ((k : Int) + 1) ≤ 9223372036854775807 := by omega
                clear hwm hw
                go_upto_region 8 with fail
                go_quiet ((go_at_call 147; exact Calls.quiet_of_same ((hcall _).mono fun e w' hh => ⟨hh.1, hh.2.symm⟩)))
                have hrd := hrk.later (ext_drewN (Below.refl _ _) nq)
                have hod := Only.later hok (ext_drewN (Below.refl _ _) nq)
                clear d0 d2 hglk hrk hok hcall
                generalize wr.drewN nq = wx at *
                obtain ⟨d0, d1, d2, d3, d4, d8, hfd, hglk⟩ := rr_cells hrd
                have f2 := hfd 2
                have hset := hide (rr_pos hrd (k + 1))
                clear hfd d0 d1 d3 d4 d8
                go_wp2
                go_roundw
                case rel => exact ⟨k + 1, by omega, by omega, hset.out.1, hnx, hod.trans hset.out.2⟩
                case measure =>
                  rw [hlw.out, show ((k : Int) + 1) = ((k + 1 : Nat) : Int) from rfl, psLeft_rr hset.out.1]
                  omega
              | false =>
                rw [hw] at hcall
                have hpe : Hid (passT wordC t b = k) := hide (by rw [hpk.out]; exact passT_stop hk (hwm.trans hw))
                clear hwm hw
                go_upto_region 8 with fail
                go_quiet ((go_at_call 147; exact Calls.quiet_of_same ((hcall _).mono fun e w' hh => ⟨hh.1, hh.2.symm⟩)))
                have hrd := hrk.later (ext_drewN (Below.refl _ _) nq)
                have hod := Only.later hok (ext_drewN (Below.refl _ _) nq)
                clear d0 d2 hglk hrk hok hcall
                generalize wr.drewN nq = wx at *
                have hbk2 : b < k := by
                  rw [← hpe.out, passT_go hlt hwn.out]
                  exact Nat.lt_of_lt_of_le (Nat.lt_succ_self b) (passT_ge _ _ _)
                have hlk : Hid (lookT t e a = .tok (t.extract b k) b) := hide (by rw [look_wd hend.out hlt (by rw [hpe.out]; exact hbk2), hpe.out])
                clear hpk hpe hlw
                (
                                have hfin : Hid (NxG g t e a w (.returned (.tuple #[])) ((wx.setCell ⟨g, 3, none⟩ (.string (t.extract b k))).drew)) := by
                                  have h1 := rr_word hrd (t.extract b k)
                                  have h3 := h1.1.later (ext_drew (Below.refl _ _))
                                  have h2 := Only.later (hod.trans h1.2) (ext_drew (Below.refl _ _))
                                  have hsz : (t.extract b k).size = k - b := by rw [ByteArray.size_extract]; omega
                                  exact hide ⟨rfl, h2, rdy_tok hlk.out (by rw [hend.out, hsz]; omega) h3 hkl (by omega)⟩
                                obtain ⟨d0, d1, d2, d3, d4, d8, hfd, hglk⟩ := rr_cells hrd
                                have f3 := hfd 3
                                have hb0 : (0 : Int) ≤ (b : Int) := by omega
                                have hbk1 : (b : Int) ≤ (k : Int) := by omega
                                have hkt : (k : Int) ≤ (t.size : Int) := by omega
                                clear hfd d1 d8 hrd hod hlk hend
                                go_wp2
                                go_region
                                go_wp2
                                go_end0
                                exact hfin.out)
            · obtain rfl : k = t.size := by omega
              have hpe : Hid (passT wordC t b = t.size) := hide (by rw [hpk.out]; exact passT_end (by omega))
              go_upto_region 8 with fail
              go_quiet (fail)
              have hrd := hrk.later (ext_drewN (Below.refl _ _) nq)
              have hod := Only.later hok (ext_drewN (Below.refl _ _) nq)
              clear d0 d2 hglk hrk hok
              generalize wr.drewN nq = wx at *
              have hlk : Hid (lookT t e a = .tok (t.extract b t.size) b) := hide (by rw [look_wd hend.out hlt (by rw [hpe.out]; exact hlt), hpe.out])
              obtain ⟨k, hkk⟩ : ∃ k, t.size = k := ⟨_, rfl⟩
              rw [hkk] at hrd hlk hbk
              have hkl : k ≤ t.size := by omega
              clear hpk hpe hlw
              replace hkk := hide hkk
              (
                              have hfin : Hid (NxG g t e a w (.returned (.tuple #[])) ((wx.setCell ⟨g, 3, none⟩ (.string (t.extract b k))).drew)) := by
                                have h1 := rr_word hrd (t.extract b k)
                                have h3 := h1.1.later (ext_drew (Below.refl _ _))
                                have h2 := Only.later (hod.trans h1.2) (ext_drew (Below.refl _ _))
                                have hsz : (t.extract b k).size = k - b := by rw [ByteArray.size_extract]; omega
                                exact hide ⟨rfl, h2, rdy_tok hlk.out (by rw [hend.out, hsz]; omega) h3 hkl (by omega)⟩
                              obtain ⟨d0, d1, d2, d3, d4, d8, hfd, hglk⟩ := rr_cells hrd
                              have f3 := hfd 3
                              have hb0 : (0 : Int) ≤ (b : Int) := by omega
                              have hbk1 : (b : Int) ≤ (k : Int) := by omega
                              have hkt : (k : Int) ≤ (t.size : Int) := by omega
                              clear hfd d1 d8 hrd hod hlk hend
                              go_wp2
                              go_region
                              go_wp2
                              go_end0
                              exact hfin.out)
        | false =>
          replace hWN := hide hWN
          go_wp2_with fail
          refine (hcall _).mono ?_
          rintro en w5 ⟨rfl, rfl⟩
          clear hcall
          by_cases q6 : n = 58 ∨ n = 44 ∨ n = 40 ∨ n = 41 ∨ n = 91 ∨ n = 93
          · have hlk : Hid (lookT t e a = .tok (t.extract b (b + 1)) b) := hide (look_sg hend.out hlt hwn.out (hsn.out.trans (decide_eq_true q6)))
            obtain ⟨d0, d1, d2, d3, d4, d8, hfd, hglk⟩ := rr_cells hr4
            have f2 := hfd 2
            have hset := rr_pos hr4 (b + 1)
            have hrd : Rr (w4.setCell ⟨g, 2, none⟩ (.int .i64 ((b : Int) + 1))) g t e (b + 1) ⟨#[]⟩ b 0 0 := hset.1
            have hod : Only g w (w4.setCell ⟨g, 2, none⟩ (.int .i64 ((b : Int) + 1))) := ho4.trans hset.2
            have hbb : ((b : Int) + 1) ≤ 9223372036854775807 := by omega
            have hkl : b + 1 ≤ t.size := hlt
            clear hfd d0 d1 d3 d4 d8 hset hr4 ho4 hwn hsn
            rcases q6 with rfl | rfl | rfl | rfl | rfl | rfl
            all_goals
              go_upto_region 12 with fail
              clear d2 f2
              generalize w4.setCell ⟨g, 2, none⟩ (Value.int .i64 ((b : Int) + 1)) = wx at *
              obtain ⟨k, hkk⟩ : ∃ k, b + 1 = k := ⟨_, rfl⟩
              rw [hkk] at hrd hlk hkl
              have hbk : b ≤ k := by omega
              (
                              have hfin : Hid (NxG g t e a w (.returned (.tuple #[])) ((wx.setCell ⟨g, 3, none⟩ (.string (t.extract b k))).drew)) := by
                                have h1 := rr_word hrd (t.extract b k)
                                have h3 := h1.1.later (ext_drew (Below.refl _ _))
                                have h2 := Only.later (hod.trans h1.2) (ext_drew (Below.refl _ _))
                                have hsz : (t.extract b k).size = k - b := by rw [ByteArray.size_extract]; omega
                                exact hide ⟨rfl, h2, rdy_tok hlk.out (by rw [hend.out, hsz]; omega) h3 hkl (by omega)⟩
                              obtain ⟨d0, d1, d2, d3, d4, d8, hfd, hglk⟩ := rr_cells hrd
                              have f3 := hfd 3
                              have hb0 : (0 : Int) ≤ (b : Int) := by omega
                              have hbk1 : (b : Int) ≤ (k : Int) := by omega
                              have hkt : (k : Int) ≤ (t.size : Int) := by omega
                              clear hfd d1 d8 hrd hod hlk hend
                              go_wp2
                              go_region
                              go_wp2
                              go_end0
                              exact hfin.out)
          · have hlk : lookT t e a = .bad b := look_bd hend.out hlt hwn.out (hsn.out.trans (decide_eq_false q6))
            have e1 : ((n : Int) == 58) = false := by rw [beq_eq_false_iff_ne]; omega
            have e2 : ((n : Int) == 44) = false := by rw [beq_eq_false_iff_ne]; omega
            have e3 : ((n : Int) == 40) = false := by rw [beq_eq_false_iff_ne]; omega
            have e4 : ((n : Int) == 41) = false := by rw [beq_eq_false_iff_ne]; omega
            have e5 : ((n : Int) == 91) = false := by rw [beq_eq_false_iff_ne]; omega
            have e6 : ((n : Int) == 93) = false := by rw [beq_eq_false_iff_ne]; omega
            have hfl := rfail_walk g t e b ⟨#[]⟩ b 0 0 b 5 w4 hr4 (by omega)
            rw [if_pos rfl, if_pos rfl] at hfl
            obtain ⟨d0, d1, d2, d3, d4, d8, hfd, hglk⟩ := rr_cells hr4
            replace q6 := hide q6
            replace hlk := hide hlk
            clear hfd d0 d1 d3 d4 d8 hr4
            go_wp2_with fail
            refine hfl.mono ?_
            rintro en w5 ⟨rfl, ho5, hr5⟩
            have hend2 : Hid (NxG g t e a w (.returned (.tuple #[])) w5) := hide ⟨rfl, ho4.trans ho5, rdy_bad hlk.out ⟨b, ⟨#[]⟩, b, hr5, (by show (5 : Int) ≠ 0; decide), hbl, Nat.zero_le _, by omega⟩⟩
            clear hfl hr5 d2
            go_wp2
            go_end0
            exact hend2.out
    · obtain rfl : b = t.size := by omega
      have hend : Hid (startT t a = t.size) := hide (by
        rw [← hst.out]
        exact passT_end (by omega))
      have hlk : Hid (lookT t e a = .tok ⟨#[]⟩ e) := hide (look_end (by rw [hend.out]; omega))
      have hset1 := rr_from hbd t.size
      have hset2 := rr_word hset1.1 ⟨#[]⟩
      have hor2 := hod.trans (hset1.2.trans hset2.2)
      clear hlw hst
      go_wp2
      go_region
      clear c0 c2 hb
      generalize wr.drew = wd at *
      go_wp2
      obtain ⟨hr2, -⟩ := hset2
      generalize (wd.setCell ⟨g, 4, none⟩ (Value.int .i64 (t.size : Int))).setCell ⟨g, 3, none⟩ (Value.string ⟨#[]⟩) = w2 at *
      clear d0 d1 d2 d3 d4 d8 hfd2 hfd3 hfd4 hset1 hbd hod
      obtain ⟨d0, d1, d2, d3, d4, d8, hfd, hgl2⟩ := rr_cells hr2
      have hr3 := hr2.later (ext_drew (Below.refl _ _))
      have ho3 := Only.later hor2 (ext_drew (Below.refl _ _))
      clear hfd d1 d3 d4 d8
      go_region
      clear d0 d2 hr2 hor2 hgl2
      generalize w2.drew = w3 at *
      obtain ⟨d0, d1, d2, d3, d4, d8, hfd, hgl3⟩ := rr_cells hr3
      have f4 := hfd 4
      have hfin : Hid (NxG g t e a w (.returned (.tuple #[])) (w3.setCell ⟨g, 4, none⟩ (.int .i64 (e : Int)))) := by
        have h1 := rr_from hr3 e
        exact hide ⟨rfl, ho3.trans h1.2, rdy_tok hlk.out (by rw [hend.out]; rfl) h1.1 (Nat.le_refl _) (by omega)⟩
      clear hfd d0 d2 d3 d8 hr3 ho3 hlk hend
      go_wp2
      go_end0
      exact hfin.out
end Go.Proofs.YtdnnahdafhddlaaGreatDoor
