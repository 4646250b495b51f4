/- Walks of timetableref07.Found, timetableref02.Whole, At. Conditions: the record's cells. -/
import Derived.Test.YtgbkochjoaalhaaGreatDoorR9C
namespace Go.Proofs.YtgbkochjoaalhaaGreatDoor
open Go.RowKit
set_option maxRecDepth 100000

theorem load4p (w : World) (g : Nat) (a b c d : Value) (h0 : w.cell? ⟨g, 0, none⟩ = some a) (h1 : w.cell? ⟨g, 1, none⟩ = some b) (h2 : w.cell? ⟨g, 2, none⟩ = some c) (h3 : w.cell? ⟨g, 3, none⟩ = some d) :
    (loadVar 76 ⟨g, 0, none⟩).run Tryz.prog w = .ok (.agg #[a, b, c, d]) w := by
  simp [go_sem, h0, h1, h2, h3]
theorem end_prob {fn : Func} {p : Tmp} (hr : fn.results = #[.cell p 76]) {Q : Ending → World → Prop} {act : Act} {w : World} (g : Nat) (a b c d : Value) (hd : act.defers = [])
    (hp : act.tmps.getD p undef = .pointer (some ⟨g, 0, none⟩))
    (h : ∀ j, j < 4 → ∃ v, w.cell? ⟨g, j, none⟩ = some v)
    (hQ : Q (.returned (.agg #[a, b, c, d])) ((((w.setCell ⟨g, 0, none⟩ a).setCell ⟨g, 1, none⟩ b).setCell ⟨g, 2, none⟩ c).setCell ⟨g, 3, none⟩ d)) :
    bodyPost Tryz.prog fn Q .ret act ((((w.setCell ⟨g, 0, none⟩ a).setCell ⟨g, 1, none⟩ b).setCell ⟨g, 2, none⟩ c).setCell ⟨g, 3, none⟩ d) := by
  obtain ⟨h0, h1, h2, h3⟩ := set4_cells w g a b c d h _ rfl
  refine bodyPost_ret (v := .agg #[a, b, c, d]) ?_ hd hQ
  simp only [results, hr]
  simp [Sem.run_bind, Result.andThen, -Array.getD_eq_getD_getElem?]
  rw [hp]
  simp only [asAddr, Sem.run_pure]
  rw [load4p _ g a b c d h0 h1 h2 h3]
theorem end_prob1 {fn : Func} {p : Tmp} (hr : fn.results = #[.cell p 76]) {Q : Ending → World → Prop} {act : Act} {w : World} (g : Nat) (a b c d : Value) (hd : act.defers = [])
    (hp : act.tmps.getD p undef = .pointer (some ⟨g, 0, none⟩))
    (h0 : w.cell? ⟨g, 0, none⟩ = some a) (h1 : w.cell? ⟨g, 1, none⟩ = some b) (h2 : w.cell? ⟨g, 2, none⟩ = some c) (h3 : w.cell? ⟨g, 3, none⟩ = some d)
    (hQ : Q (.returned (.agg #[a, b, c, d])) w) : bodyPost Tryz.prog fn Q .ret act w := by
  refine bodyPost_ret (v := .agg #[a, b, c, d]) ?_ hd hQ
  simp only [results, hr]
  simp [Sem.run_bind, Result.andThen, -Array.getD_eq_getD_getElem?]
  rw [hp]
  simp only [asAddr, Sem.run_pure]
  rw [load4p _ g a b c d h0 h1 h2 h3]
set_option maxHeartbeats 2000000 in
theorem r2Whole_walk (line : Int) (v : Value) (e : Int) (w : World) :
    Calls Tryz.prog 86 #[.agg #[.int .i64 line, v], .int .i64 e] w fun en w' => en = .returned (.agg #[.int .i64 0, .int .i64 line, .int .i64 0, .int .i64 e]) ∧ Below w.heap.size w w' := by
  go_enter Tryz.func86, Tryz.ntmps86
  go_wp2
  obtain ⟨c0, c1, c2, c3, -⟩ := scan_cells (heap_new2 w (.cells #[.int .i64 line, v] 27) (.cells #[.int .i64 0, .int .i64 line, .int .i64 0, .int .i64 e] 76))
  exact end_prob1 rfl (w.heap.size + 1) _ _ _ _ rfl rfl c0 c1 c2 c3 ⟨rfl, (by repeat (first | exact Below.refl _ _ | refine ext_alloc ?_ _ | refine ext_drewN ?_ _ | refine ext_drew ?_ | refine ext_trans ?_ (by assumption)))⟩
set_option maxHeartbeats 4000000 in
theorem r2At_walk (line : Int) (F : Option Addr) (fs : List Fld) (c k : Nat) (e : Int) (w : World) (hF : FieldsAt w.heap.size w F fs) (hk : k < fs.length) :
    Calls Tryz.prog 87 #[.agg #[.int .i64 line, .slice F fs.length c], .int .i64 k, .int .i64 e] w fun en w' => en = .returned (.agg #[.int .i64 0, .int .i64 line, .int .i64 (colAt fs (k + 1)), .int .i64 e]) ∧ Below w.heap.size w w' := by
  obtain ⟨fb, fo, rfl, hfb, hfc⟩ := hF (by omega)
  obtain ⟨-, f1, -⟩ := hfc k hk
  have hcol : (fs[k]'hk).2.1 = colAt fs (k + 1) := by
    unfold colAt; rw [show k + 1 - 1 = k from rfl, List.getD_eq_getElem?_getD, List.getElem?_eq_getElem hk]; rfl
  rw [hcol] at f1
  have hfb1 : fb < w.heap.size + 1 := by omega
  have hk1 : (k : Int) < (fs.length : Int) := by omega
  have hk0 : (0 : Int) ≤ (k : Int) := by omega
  clear hcol hfc hF
  go_enter Tryz.func87, Tryz.ntmps87
  go_wp2_with fail
  go_region
  all_goals
    go_wp2_with fail
    obtain ⟨c0, c1, c2, c3, -⟩ := scan_cells (heap_new2 w (.cells #[.int .i64 line, .slice (some ⟨fb, fo, none⟩) fs.length c] 27) (.cells #[.int .i64 0, .int .i64 line, .int .i64 (colAt fs (k + 1)), .int .i64 e] 76))
    exact end_prob1 rfl (w.heap.size + 1) _ _ _ _ rfl rfl c0 c1 c2 c3 ⟨rfl, (by repeat (first | exact Below.refl _ _ | refine ext_alloc ?_ _ | refine ext_drewN ?_ _ | refine ext_drew ?_ | refine ext_trans ?_ (by assumption)))⟩
/-- The place of a problem: of a field, or (-1) of the record. -/
def placeOf (fs : List Fld) (k : Int) : Int := if k < 0 then 0 else colAt fs (k.toNat + 1)
set_option maxHeartbeats 4000000 in
theorem r7Found_walk (line : Int) (F : Option Addr) (fs : List Fld) (c : Nat) (k e : Int) (w : World) (hF : FieldsAt w.heap.size w F fs) (hk : k < fs.length) :
    Calls Tryz.prog 44 #[.agg #[.int .i64 line, .slice F fs.length c], .int .i64 k, .int .i64 e] w fun en w' => en = .returned (.agg #[.int .i64 0, .int .i64 line, .int .i64 (placeOf fs k), .int .i64 e]) ∧ Below w.heap.size w w' := by
  have hb0 : Below w.heap.size w ((w.alloc (.cells #[.int .i64 line, .slice F fs.length c] 27)).alloc (.cells #[.int .i64 0, .int .i64 0, .int .i64 0, .int .i64 0] 76)) := (by repeat (first | exact Below.refl _ _ | refine ext_alloc ?_ _ | refine ext_drewN ?_ _ | refine ext_drew ?_ | refine ext_trans ?_ (by assumption)))
  have hn := heap_new2 w (.cells #[.int .i64 line, .slice F fs.length c] 27) (.cells #[.int .i64 0, .int .i64 0, .int .i64 0, .int .i64 0] 76)
  obtain ⟨W, hW⟩ : ∃ W, (w.alloc (.cells #[.int .i64 line, .slice F fs.length c] 27)).alloc (.cells #[.int .i64 0, .int .i64 0, .int .i64 0, .int .i64 0] 76) = W := ⟨_, rfl⟩
  rw [hW] at hb0 hn
  have hl1 : w.heap.size + 1 < W.heap.size := blk_lt hn
  replace hW := hide hW
  by_cases h0 : k < 0
  · have hp : placeOf fs k = 0 := if_pos h0
    rw [hp]
    clear hF hk hp
    go_enter Tryz.func44, Tryz.ntmps44
    go_wp2_with fail
    rw [hW.out]
    refine (r2Whole_walk line _ e W).mono ?_
    rintro en w1 ⟨rfl, hb1⟩
    obtain ⟨c0, c1, c2, c3, hf⟩ := scan_cells hn
    have f0 := (hb1.frozen (p := ⟨w.heap.size + 1, 0, none⟩) hl1).trans (hf 0)
    have f1 := (hb1.frozen (p := ⟨w.heap.size + 1, 1, none⟩) hl1).trans (hf 1)
    have f2 := (hb1.frozen (p := ⟨w.heap.size + 1, 2, none⟩) hl1).trans (hf 2)
    have f3 := (hb1.frozen (p := ⟨w.heap.size + 1, 3, none⟩) hl1).trans (hf 3)
    replace c0 := cell_later hb1 c0
    replace c1 := cell_later hb1 c1
    replace c2 := cell_later hb1 c2
    replace c3 := cell_later hb1 c3
    have hb := ext_trans hb0 hb1
    have h4 := four_of hn hb1
    clear hW hn hb0 hb1 hf
    go_wp2
    exact end_prob rfl (w.heap.size + 1) _ _ _ _ rfl rfl h4 ⟨rfl, ext_set4 hb (by omega) _ _ _ _⟩
  · obtain ⟨j, rfl⟩ := Int.eq_ofNat_of_zero_le (by omega : 0 ≤ k)
    have hp : placeOf fs (j : Int) = colAt fs (j + 1) := by unfold placeOf; rw [if_neg h0, Int.toNat_natCast]
    rw [hp]
    have hFW := (hF.below hb0).more hb0.size
    clear hF hp
    go_enter Tryz.func44, Tryz.ntmps44
    go_wp2_with fail
    rw [hW.out]
    refine (r2At_walk line F fs c j e W hFW (by omega)).mono ?_
    rintro en w1 ⟨rfl, hb1⟩
    obtain ⟨c0, c1, c2, c3, hf⟩ := scan_cells hn
    have f0 := (hb1.frozen (p := ⟨w.heap.size + 1, 0, none⟩) hl1).trans (hf 0)
    have f1 := (hb1.frozen (p := ⟨w.heap.size + 1, 1, none⟩) hl1).trans (hf 1)
    have f2 := (hb1.frozen (p := ⟨w.heap.size + 1, 2, none⟩) hl1).trans (hf 2)
    have f3 := (hb1.frozen (p := ⟨w.heap.size + 1, 3, none⟩) hl1).trans (hf 3)
    replace c0 := cell_later hb1 c0
    replace c1 := cell_later hb1 c1
    replace c2 := cell_later hb1 c2
    replace c3 := cell_later hb1 c3
    have hb := ext_trans hb0 hb1
    have h4 := four_of hn hb1
    clear hW hn hb0 hb1 hf hFW
    go_wp2
    exact end_prob rfl (w.heap.size + 1) _ _ _ _ rfl rfl h4 ⟨rfl, ext_set4 hb (by omega) _ _ _ _⟩
/-- The same, told by what is wrong with the record. -/
theorem step_err {d sl b m n line : Int} {fs : List Fld} {s : RS} (_hq : s.ls.length ≤ 32) (h : (oneKE d sl b m n fs (codesOf s.ls) s.ls.length).2 ≠ 0) :
    recStep d sl b m n s (line, fs) = ⟨s.ls, s.lines, s.ps ++ [(line, placeOf fs (oneKE d sl b m n fs (codesOf s.ls) s.ls.length).1, (oneKE d sl b m n fs (codesOf s.ls) s.ls.length).2)]⟩ := by
  revert h
  unfold recStep oneKE staffP staffP1 probOf
  by_cases h2 : fs.length = 2
  · simp only [h2, ne_eq, not_true_eq_false, if_false, if_true]
    cases hc : codeB (textAt fs 0)
    · intro _; simp [noted, placeOf, colAt]
    · simp only [if_true]
      by_cases he : timesE d sl b m n (partsOf (textAt fs 1)) = 0
      · simp only [he, if_true, not_true_eq_false, if_false]
        cases hd : orTo (fun j => sameS (codesOf s.ls j) (textAt fs 0)) s.ls.length
        · by_cases h3 : s.ls.length = 32
          · intro _; simp [noted, placeOf, h3]
          · intro h; simp [h3] at h
        · intro _; simp [noted, placeOf]
      · intro _; simp [he, noted, placeOf]
  · intro _; simp [h2, placeOf]
theorem step_ok {d sl b m n line : Int} {fs : List Fld} {s : RS} (hq : s.ls.length ≤ 32) (h : (oneKE d sl b m n fs (codesOf s.ls) s.ls.length).2 = 0) :
    recStep d sl b m n s (line, fs) = ⟨s.ls ++ [(textAt fs 0, staffT d sl b m n fs)], s.lines ++ [line], s.ps⟩ := by
  revert h
  unfold recStep oneKE staffP staffP1 probOf
  by_cases h2 : fs.length = 2
  · simp only [h2, ne_eq, not_true_eq_false, if_false, if_true]
    cases hc : codeB (textAt fs 0)
    · intro h; simp at h
    · simp only [if_true]
      by_cases he : timesE d sl b m n (partsOf (textAt fs 1)) = 0
      · simp only [he, if_true, not_true_eq_false, if_false]
        cases hd : orTo (fun j => sameS (codesOf s.ls j) (textAt fs 0)) s.ls.length
        · by_cases h3 : s.ls.length = 32
          · intro h; simp [h3] at h
          · have h4 : ¬ (32 : Int) ≤ (s.ls.length : Int) := by omega
            intro _; simp [noted, h4]
        · intro h; simp at h
      · intro h; simp [he] at h
  · intro h; simp [h2] at h
theorem place_lt {d sl b m n : Int} {fs : List Fld} {codes : Nat → ByteArray} {q : Nat} : (oneKE d sl b m n fs codes q).1 < fs.length ∨ fs.length = 0 ∧ (oneKE d sl b m n fs codes q).1 < 0 := by
  unfold oneKE
  by_cases h2 : fs.length = 2
  · left
    rw [if_neg (by simp [h2])]
    split
    · simp; omega
    · split
      · simp; omega
      · split
        · simp; omega
        · split
          · simp; omega
          · simp; omega
  · rw [if_pos h2]
    left; simp; omega
end Go.Proofs.YtgbkochjoaalhaaGreatDoor
