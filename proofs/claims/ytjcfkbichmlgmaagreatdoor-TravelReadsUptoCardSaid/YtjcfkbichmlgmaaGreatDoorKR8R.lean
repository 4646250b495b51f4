/- Walks of timetableref07.Found, timetableref02.Whole, At. Conditions: the record's cells. Walk of timetableref08.one. Conditions: the cells. Walk of timetableref08.unknown. No condition but the length. Walk of timetableref08.Read. Conditions: the cells. -/
import Derived.Test.YtjcfkbichmlgmaaGreatDoorKFieldsC
import Derived.Test.YtjcfkbichmlgmaaGreatDoorKEnds
import Derived.Test.YtjcfkbichmlgmaaGreatDoorKTravR
namespace Go.Proofs.YtjcfkbichmlgmaaGreatDoor
open Go.RowKit
set_option maxRecDepth 100000

theorem load4p (w : World) (g : Nat) (a b c d : Value) (h0 : w.cell? ⟨g, 0, none⟩ = some a) (h1 : w.cell? ⟨g, 1, none⟩ = some b) (h2 : w.cell? ⟨g, 2, none⟩ = some c) (h3 : w.cell? ⟨g, 3, none⟩ = some d) :
    (loadVar 87 ⟨g, 0, none⟩).run Tryz.prog w = .ok (.agg #[a, b, c, d]) w := by
  simp [go_sem, h0, h1, h2, h3]
theorem end_prob {fn : Func} {p : Tmp} (hr : fn.results = #[.cell p 87]) {Q : Ending → World → Prop} {act : Act} {w : World} (g : Nat) (a b c d : Value) (hd : act.defers = [])
    (hp : act.tmps.getD p undef = .pointer (some ⟨g, 0, none⟩))
    (h : ∀ j, j < 4 → ∃ v, w.cell? ⟨g, j, none⟩ = some v)
    (hQ : Q (.returned (.agg #[a, b, c, d])) ((((w.setCell ⟨g, 0, none⟩ a).setCell ⟨g, 1, none⟩ b).setCell ⟨g, 2, none⟩ c).setCell ⟨g, 3, none⟩ d)) :
    bodyPost Tryz.prog fn Q .ret act ((((w.setCell ⟨g, 0, none⟩ a).setCell ⟨g, 1, none⟩ b).setCell ⟨g, 2, none⟩ c).setCell ⟨g, 3, none⟩ d) := by
  obtain ⟨h0, h1, h2, h3⟩ := set4_cells w g a b c d h _ rfl
  refine bodyPost_ret (v := .agg #[a, b, c, d]) ?_ hd hQ
  simp only [results, hr]
  simp [Sem.run_bind, Result.andThen, -Array.getD_eq_getD_getElem?]
  rw [hp]
  simp only [asAddr, Sem.run_pure]
  rw [load4p _ g a b c d h0 h1 h2 h3]
theorem end_prob1 {fn : Func} {p : Tmp} (hr : fn.results = #[.cell p 87]) {Q : Ending → World → Prop} {act : Act} {w : World} (g : Nat) (a b c d : Value) (hd : act.defers = [])
    (hp : act.tmps.getD p undef = .pointer (some ⟨g, 0, none⟩))
    (h0 : w.cell? ⟨g, 0, none⟩ = some a) (h1 : w.cell? ⟨g, 1, none⟩ = some b) (h2 : w.cell? ⟨g, 2, none⟩ = some c) (h3 : w.cell? ⟨g, 3, none⟩ = some d)
    (hQ : Q (.returned (.agg #[a, b, c, d])) w) : bodyPost Tryz.prog fn Q .ret act w := by
  refine bodyPost_ret (v := .agg #[a, b, c, d]) ?_ hd hQ
  simp only [results, hr]
  simp [Sem.run_bind, Result.andThen, -Array.getD_eq_getD_getElem?]
  rw [hp]
  simp only [asAddr, Sem.run_pure]
  rw [load4p _ g a b c d h0 h1 h2 h3]
set_option maxHeartbeats 2000000 in
theorem r2Whole_walk (line : Int) (v : Value) (e : Int) (w : World) :
    Calls Tryz.prog 88 #[.agg #[.int .i64 line, v], .int .i64 e] w fun en w' => en = .returned (.agg #[.int .i64 0, .int .i64 line, .int .i64 0, .int .i64 e]) ∧ Below w.heap.size w w' := by
  go_enter Tryz.func88, Tryz.ntmps88
  go_wp2
  obtain ⟨c0, c1, c2, c3, -⟩ := scan_cells (heap_new2 w (.cells #[.int .i64 line, v] 25) (.cells #[.int .i64 0, .int .i64 line, .int .i64 0, .int .i64 e] 87))
  exact end_prob1 rfl (w.heap.size + 1) _ _ _ _ rfl rfl c0 c1 c2 c3 ⟨rfl, (by repeat (first | exact Below.refl _ _ | refine ext_alloc ?_ _ | refine ext_drewN ?_ _ | refine ext_drew ?_ | refine ext_trans ?_ (by assumption)))⟩
set_option maxHeartbeats 4000000 in
theorem r2At_walk (line : Int) (F : Option Addr) (fs : List Fld) (c k : Nat) (e : Int) (w : World) (hF : FieldsAt w.heap.size w F fs) (hk : k < fs.length) :
    Calls Tryz.prog 89 #[.agg #[.int .i64 line, .slice F fs.length c], .int .i64 k, .int .i64 e] w fun en w' => en = .returned (.agg #[.int .i64 0, .int .i64 line, .int .i64 (colAt fs (k + 1)), .int .i64 e]) ∧ Below w.heap.size w w' := by
  obtain ⟨fb, fo, rfl, hfb, hfc⟩ := hF (by omega)
  obtain ⟨-, f1, -⟩ := hfc k hk
  have hcol : (fs[k]'hk).2.1 = colAt fs (k + 1) := by
    unfold colAt; rw [show k + 1 - 1 = k from rfl, List.getD_eq_getElem?_getD, List.getElem?_eq_getElem hk]; rfl
  rw [hcol] at f1
  have hfb1 : fb < w.heap.size + 1 := by omega
  have hk1 : (k : Int) < (fs.length : Int) := by omega
  have hk0 : (0 : Int) ≤ (k : Int) := by omega
  clear hcol hfc hF
  go_enter Tryz.func89, Tryz.ntmps89
  go_wp2_with fail
  go_region
  all_goals
    go_wp2_with fail
    obtain ⟨c0, c1, c2, c3, -⟩ := scan_cells (heap_new2 w (.cells #[.int .i64 line, .slice (some ⟨fb, fo, none⟩) fs.length c] 25) (.cells #[.int .i64 0, .int .i64 line, .int .i64 (colAt fs (k + 1)), .int .i64 e] 87))
    exact end_prob1 rfl (w.heap.size + 1) _ _ _ _ rfl rfl c0 c1 c2 c3 ⟨rfl, (by repeat (first | exact Below.refl _ _ | refine ext_alloc ?_ _ | refine ext_drewN ?_ _ | refine ext_drew ?_ | refine ext_trans ?_ (by assumption)))⟩
/-- The place of a problem: of a field, or (-1) of the record. -/
def placeOf (fs : List Fld) (k : Int) : Int := if k < 0 then 0 else colAt fs (k.toNat + 1)
set_option maxHeartbeats 4000000 in
theorem r7Found_walk (line : Int) (F : Option Addr) (fs : List Fld) (c : Nat) (k e : Int) (w : World) (hF : FieldsAt w.heap.size w F fs) (hk : k < fs.length) :
    Calls Tryz.prog 48 #[.agg #[.int .i64 line, .slice F fs.length c], .int .i64 k, .int .i64 e] w fun en w' => en = .returned (.agg #[.int .i64 0, .int .i64 line, .int .i64 (placeOf fs k), .int .i64 e]) ∧ Below w.heap.size w w' := by
  have hb0 : Below w.heap.size w ((w.alloc (.cells #[.int .i64 line, .slice F fs.length c] 25)).alloc (.cells #[.int .i64 0, .int .i64 0, .int .i64 0, .int .i64 0] 87)) := (by repeat (first | exact Below.refl _ _ | refine ext_alloc ?_ _ | refine ext_drewN ?_ _ | refine ext_drew ?_ | refine ext_trans ?_ (by assumption)))
  have hn := heap_new2 w (.cells #[.int .i64 line, .slice F fs.length c] 25) (.cells #[.int .i64 0, .int .i64 0, .int .i64 0, .int .i64 0] 87)
  obtain ⟨W, hW⟩ : ∃ W, (w.alloc (.cells #[.int .i64 line, .slice F fs.length c] 25)).alloc (.cells #[.int .i64 0, .int .i64 0, .int .i64 0, .int .i64 0] 87) = W := ⟨_, rfl⟩
  rw [hW] at hb0 hn
  have hl1 : w.heap.size + 1 < W.heap.size := blk_lt hn
  replace hW := hide hW
  by_cases h0 : k < 0
  · have hp : placeOf fs k = 0 := if_pos h0
    rw [hp]
    clear hF hk hp
    go_enter Tryz.func48, Tryz.ntmps48
    go_wp2_with fail
    rw [hW.out]
    refine (r2Whole_walk line _ e W).mono ?_
    rintro en w1 ⟨rfl, hb1⟩
    obtain ⟨c0, c1, c2, c3, hf⟩ := scan_cells hn
    have f0 := (hb1.frozen (p := ⟨w.heap.size + 1, 0, none⟩) hl1).trans (hf 0)
    have f1 := (hb1.frozen (p := ⟨w.heap.size + 1, 1, none⟩) hl1).trans (hf 1)
    have f2 := (hb1.frozen (p := ⟨w.heap.size + 1, 2, none⟩) hl1).trans (hf 2)
    have f3 := (hb1.frozen (p := ⟨w.heap.size + 1, 3, none⟩) hl1).trans (hf 3)
    replace c0 := cell_later hb1 c0
    replace c1 := cell_later hb1 c1
    replace c2 := cell_later hb1 c2
    replace c3 := cell_later hb1 c3
    have hb := ext_trans hb0 hb1
    have h4 := four_of hn hb1
    clear hW hn hb0 hb1 hf
    go_wp2
    exact end_prob rfl (w.heap.size + 1) _ _ _ _ rfl rfl h4 ⟨rfl, ext_set4 hb (by omega) _ _ _ _⟩
  · obtain ⟨j, rfl⟩ := Int.eq_ofNat_of_zero_le (by omega : 0 ≤ k)
    have hp : placeOf fs (j : Int) = colAt fs (j + 1) := by unfold placeOf; rw [if_neg h0, Int.toNat_natCast]
    rw [hp]
    have hFW := (hF.below hb0).more hb0.size
    clear hF hp
    go_enter Tryz.func48, Tryz.ntmps48
    go_wp2_with fail
    rw [hW.out]
    refine (r2At_walk line F fs c j e W hFW (by omega)).mono ?_
    rintro en w1 ⟨rfl, hb1⟩
    obtain ⟨c0, c1, c2, c3, hf⟩ := scan_cells hn
    have f0 := (hb1.frozen (p := ⟨w.heap.size + 1, 0, none⟩) hl1).trans (hf 0)
    have f1 := (hb1.frozen (p := ⟨w.heap.size + 1, 1, none⟩) hl1).trans (hf 1)
    have f2 := (hb1.frozen (p := ⟨w.heap.size + 1, 2, none⟩) hl1).trans (hf 2)
    have f3 := (hb1.frozen (p := ⟨w.heap.size + 1, 3, none⟩) hl1).trans (hf 3)
    replace c0 := cell_later hb1 c0
    replace c1 := cell_later hb1 c1
    replace c2 := cell_later hb1 c2
    replace c3 := cell_later hb1 c3
    have hb := ext_trans hb0 hb1
    have h4 := four_of hn hb1
    clear hW hn hb0 hb1 hf hFW
    go_wp2
    exact end_prob rfl (w.heap.size + 1) _ _ _ _ rfl rfl h4 ⟨rfl, ext_set4 hb (by omega) _ _ _ _⟩

end Go.Proofs.YtjcfkbichmlgmaaGreatDoor

namespace Go.Proofs.YtjcfkbichmlgmaaGreatDoor
open Go.RowKit
set_option maxRecDepth 100000

def oneKE8 (fs : List Fld) (ws : List Way) (nm : List ByteArray) : Option (Int × Int) := if fs.length = 3 then refKE fs ws nm else some (-1, 9)
def keV (o : Option (Int × Int)) : Int × Int := o.getD (0, 0)
def One8 (fs : List Fld) (K : Option (Int × Int)) (w : World) (e : Ending) (w' : World) : Prop :=
  ∃ x : Way, e = .returned (.tuple #[.agg #[.string x.1, .string x.2.1, .int .i64 x.2.2], .int .i64 (keV K).1, .int .i64 (keV K).2]) ∧ (K = none → x = wayOf fs) ∧ Below w.heap.size w w'
theorem one8_some {fs : List Fld} {K : Option (Int × Int)} {w w' : World} {a b : ByteArray} {n k er : Int} (hK : K = some (k, er)) (hb : Below w.heap.size w w') : One8 fs K w (.returned (.tuple #[.agg #[.string a, .string b, .int .i64 n], .int .i64 k, .int .i64 er])) w' := by
  subst hK
  exact ⟨(a, b, n), rfl, (fun h => by cases h), hb⟩
theorem load3r (w : World) (g : Nat) (a b d : Value) (h0 : w.cell? ⟨g, 0, none⟩ = some a) (h1 : w.cell? ⟨g, 1, none⟩ = some b) (h2 : w.cell? ⟨g, 2, none⟩ = some d) :
    (loadVar 83 ⟨g, 0, none⟩).run Tryz.prog w = .ok (.agg #[a, b, d]) w := by
  simp [go_sem, h0, h1, h2]
theorem end_wayr {fn : Func} {p u v : Tmp} (hr : fn.results = #[.cell p 83, .tmp u, .tmp v]) {Q : Ending → World → Prop} {act : Act} {w : World} (g : Nat) (a b d x y : Value) (hd : act.defers = [])
    (hp : act.tmps.getD p undef = .pointer (some ⟨g, 0, none⟩)) (hx : act.tmps.getD u undef = x) (hy : act.tmps.getD v undef = y)
    (h0 : w.cell? ⟨g, 0, none⟩ = some a) (h1 : w.cell? ⟨g, 1, none⟩ = some b) (h2 : w.cell? ⟨g, 2, none⟩ = some d)
    (hQ : Q (.returned (.tuple #[.agg #[a, b, d], x, y])) w) : bodyPost Tryz.prog fn Q .ret act w := by
  refine bodyPost_ret (v := .tuple #[.agg #[a, b, d], x, y]) ?_ hd hQ
  simp only [results, hr]
  simp [Sem.run_bind, Result.andThen, -Array.getD_eq_getD_getElem?]
  rw [hp, hx, hy]
  simp only [asAddr, Sem.run_pure]
  rw [load3r w g a b d h0 h1 h2]
theorem three_cells {w : World} {g : Nat} {a b c : Value} {t : TypeId} (h : w.heap[g]? = some (.cells #[a, b, c] t (0, 0))) : w.cell? ⟨g, 0, none⟩ = some a ∧ w.cell? ⟨g, 1, none⟩ = some b ∧ w.cell? ⟨g, 2, none⟩ = some c ∧ (∀ j, w.frozen? ⟨g, j, none⟩ = false) := by
  refine ⟨?_, ?_, ?_, fun j => by simp [World.frozen?, h]⟩ <;> rw [cell_of_row w g _ _ _ _ h] <;> rfl
theorem three_set {W : World} {g : Nat} {a b c x y z : Value} (h0 : W.cell? ⟨g, 0, none⟩ = some a) (h1 : W.cell? ⟨g, 1, none⟩ = some b) (h2 : W.cell? ⟨g, 2, none⟩ = some c) :
    (((W.setCell ⟨g, 0, none⟩ x).setCell ⟨g, 1, none⟩ y).setCell ⟨g, 2, none⟩ z).cell? ⟨g, 0, none⟩ = some x ∧ (((W.setCell ⟨g, 0, none⟩ x).setCell ⟨g, 1, none⟩ y).setCell ⟨g, 2, none⟩ z).cell? ⟨g, 1, none⟩ = some y ∧ (((W.setCell ⟨g, 0, none⟩ x).setCell ⟨g, 1, none⟩ y).setCell ⟨g, 2, none⟩ z).cell? ⟨g, 2, none⟩ = some z := by
  obtain ⟨k0, k1⟩ := two_setT h0 h1 (x := x) (y := y)
  have k2 : ((W.setCell ⟨g, 0, none⟩ x).setCell ⟨g, 1, none⟩ y).cell? ⟨g, 2, none⟩ = some c := (World.cell?_setCell_other _ _ _ _ (by simp)).trans ((World.cell?_setCell_other _ _ _ _ (by simp)).trans h2)
  exact ⟨(World.cell?_setCell_other _ _ _ _ (by simp)).trans k0, (World.cell?_setCell_other _ _ _ _ (by simp)).trans k1, World.cell?_setCell_same _ _ _ k2⟩
theorem below_set3 {w W : World} {g : Nat} (h : Below w.heap.size w W) (hg : w.heap.size ≤ g) (x y z : Value) : Below w.heap.size w (((W.setCell ⟨g, 0, none⟩ x).setCell ⟨g, 1, none⟩ y).setCell ⟨g, 2, none⟩ z) :=
  ext_set (ext_set (ext_set h (p := ⟨g, 0, none⟩) hg x) (p := ⟨g, 1, none⟩) hg y) (p := ⟨g, 2, none⟩) hg z
/-- The two ways of one: the result's, and the one that is read. -/
structure OB (w : World) (rg xg : Nat) (t0 t1 : ByteArray) (n : Int) (W : World) : Prop where
  x : W.heap[xg]? = some (.cells #[.string t0, .string t1, .int .i64 n] 83 (0, 0))
  r : W.heap[rg]? = some (.cells #[.string ⟨#[]⟩, .string ⟨#[]⟩, .int .i64 0] 83 (0, 0))
  below : Below w.heap.size w W
theorem OB.drew {w W : World} {rg xg : Nat} {t0 t1 : ByteArray} {n : Int} (h : OB w rg xg t0 t1 n W) : OB w rg xg t0 t1 n W.drew := ⟨h.x, h.r, ext_drew h.below⟩
theorem OB.put {w W : World} {rg xg : Nat} {t0 t1 : ByteArray} {n : Int} (h : OB w rg xg t0 t1 n W) (hne : xg ≠ rg) (hx : w.heap.size ≤ xg) (u : Int) : OB w rg xg t0 t1 u (W.setCell ⟨xg, 2, none⟩ (.int .i64 u)) := by
  refine ⟨?_, ?_, ext_set h.below (p := ⟨xg, 2, none⟩) hx _⟩
  · have := h.x
    simp [World.setCell, Array.getElem?_modify, this]
  · have ho : Only xg W (W.setCell ⟨xg, 2, none⟩ (.int .i64 u)) := only_setCell (Only.refl xg W) (Or.inl rfl) _
    exact (ho.block rg (blk_lt h.r) (fun e => hne (Option.some.inj e).symm)).trans h.r
def O8Cut (w : World) (rg : Nat) (t0 t1 : ByteArray) (s : Value) (W : World) : Prop := ∃ xg, s = .pointer (some ⟨xg, 0, none⟩) ∧ rg < xg ∧ OB w rg xg t0 t1 0 W
def O8Loop (w : World) (rg xg : Nat) (t0 t1 : ByteArray) (n : Int) (ws : List Way) (i : Value) (W : World) : Prop := ∃ j : Nat, j ≤ ws.length ∧ i = .int .i64 j ∧ dupTo (t0, t1, n) (ws.take j) = false ∧ OB w rg xg t0 t1 n W
theorem textAt_get {fs : List Fld} {k : Nat} (h : k < fs.length) : (fs[k]'h).1 = textAt fs k := by
  unfold textAt; rw [List.getD_eq_getElem?_getD, List.getElem?_eq_getElem h]; rfl
set_option maxHeartbeats 8000000 in
theorem r8one_walk (line : Int) (F : Option Addr) (fs : List Fld) (c : Nat) (A : Option Addr) (ws : List Way) (cr : Nat) (D : Option Addr) (nm : List ByteArray) (cn : Nat) (w : World)
    (hF : FieldsAt w.heap.size w F fs) (hq : ws.length ≤ 64) (hn : nm.length ≤ 8) (hA : At kWay (· < w.heap.size) w A ws) (hD : At kStr (· < w.heap.size) w D nm) :
    Calls Tryz.prog 47 #[.agg #[.int .i64 line, .slice F fs.length c], .slice A ws.length cr, .slice D nm.length cn] w fun e w' => One8 fs (oneKE8 fs ws nm) w e w' := by
  by_cases hm : fs.length = 3
  · obtain ⟨fb, fo, rfl, hfb, hfc⟩ := hF (by omega)
    obtain ⟨f0, -, -⟩ := hfc 0 (by omega)
    obtain ⟨f1, -, -⟩ := hfc 1 (by omega)
    obtain ⟨f2, -, -⟩ := hfc 2 (by omega)
    rw [textAt_get] at f0 f1 f2
    rw [Nat.zero_mul, Nat.add_zero] at f0
    rw [Nat.one_mul] at f1
    rw [show 2 * 3 = 6 from rfl] at f2
    have hm2 : ((fs.length : Int) != 3) = false := by simp; omega
    have hKE : oneKE8 fs ws nm = refKE fs ws nm := if_pos hm
    unfold refKE at hKE
    obtain ⟨t0, ht0⟩ : ∃ t0, textAt fs 0 = t0 := ⟨_, rfl⟩
    obtain ⟨t1, ht1⟩ : ∃ t1, textAt fs 1 = t1 := ⟨_, rfl⟩
    obtain ⟨t2, ht2⟩ : ∃ t2, textAt fs 2 = t2 := ⟨_, rfl⟩
    have hwo : wayOf fs = (t0, t1, (((numE 2 t2).getD 0 : Nat) : Int)) := by unfold wayOf; rw [ht0, ht1, ht2]
    rw [ht0, ht1, ht2, hwo] at hKE
    rw [ht0] at f0
    rw [ht1] at f1
    rw [ht2] at f2
    obtain ⟨K, hKK⟩ : ∃ K, oneKE8 fs ws nm = K := ⟨_, rfl⟩
    rw [hKK] at hKE ⊢
    replace hKE := hide hKE
    replace hwo := hide hwo
    have hl0 : 0 < fs.length := by omega
    have hl1 : (1 : Int) < (fs.length : Int) := by omega
    have hl2 : (2 : Int) < (fs.length : Int) := by omega
    replace hm := hide hm
    clear hKK ht0 ht1 ht2 hfc hF
    have u1 := heap_new2 w (.cells #[.int .i64 line, .slice (some ⟨fb, fo, none⟩) fs.length c] 25) (.cells #[.string ⟨#[]⟩, .string ⟨#[]⟩, .int .i64 0] 83)
    have hbU : Below w.heap.size w ((w.alloc (.cells #[.int .i64 line, .slice (some ⟨fb, fo, none⟩) fs.length c] 25)).alloc (.cells #[.string ⟨#[]⟩, .string ⟨#[]⟩, .int .i64 0] 83)) := (by repeat (first | exact Below.refl _ _ | refine ext_alloc ?_ _ | refine ext_drewN ?_ _ | refine ext_drew ?_ | refine ext_trans ?_ (by assumption)))
    have hfb1 : fb < w.heap.size + 1 := by omega
    have hfb2 : fb < w.heap.size + 1 + 1 := by omega
    go_enter Tryz.func47, Tryz.ntmps47
    go_upto_region 4 with fail
    go_cut [10] (fun s10 wx => O8Cut w (w.heap.size + 1) t0 t1 s10 wx)
    case first =>
      go_region
      all_goals
        go_wp2_with fail
        go_meet
        exact ⟨w.heap.size + 1 + 1, rfl, Nat.lt_succ_self _, heap_new3 _ _ _ _, block_after u1, (by repeat (first | exact Below.refl _ _ | refine ext_alloc ?_ _ | refine ext_drewN ?_ _ | refine ext_drew ?_ | refine ext_trans ?_ (by assumption)))⟩
    case rest =>
      clear u1 hbU
      obtain ⟨xg, rfl, hxr, hO⟩ := hcut
      obtain ⟨x0, x1, x2, -⟩ := three_cells hO.x
      have hxl := blk_lt hO.x
      go_wp2_with fail
      refine (r3valid_walk t0 _).mono ?_
      rintro e W ⟨rfl, rfl⟩
      cases hv0 : codeB t0 with
      | false =>
        have hK : K = some (0, 10) := by rw [hKE.out, hv0]; rfl
        clear hKE hv0
        (obtain ⟨o0, o1, o2, of⟩ := three_cells hO.r; have hrl := blk_lt hO.r; have of0 := of 0; have of1 := of 1; have of2 := of 2; have hbf := fun a b c => below_set3 hO.below (Nat.le_succ w.heap.size) a b c; have hks := fun a b c => three_set o0 o1 o2 (x := a) (y := b) (z := c); clear hO of; go_wp2; exact end_wayr rfl (w.heap.size + 1) _ _ _ _ _ rfl rfl rfl rfl (hks _ _ _).1 (hks _ _ _).2.1 (hks _ _ _).2.2 (one8_some hK (hbf _ _ _)))
      | true =>
        go_wp2_with fail
        refine (r3valid_walk t1 _).mono ?_
        rintro e W ⟨rfl, rfl⟩
        cases hv1 : codeB t1 with
        | false =>
          have hK : K = some (1, 10) := by rw [hKE.out, hv0, hv1]; rfl
          clear hKE hv0 hv1
          (obtain ⟨o0, o1, o2, of⟩ := three_cells hO.r; have hrl := blk_lt hO.r; have of0 := of 0; have of1 := of 1; have of2 := of 2; have hbf := fun a b c => below_set3 hO.below (Nat.le_succ w.heap.size) a b c; have hks := fun a b c => three_set o0 o1 o2 (x := a) (y := b) (z := c); clear hO of; go_wp2; exact end_wayr rfl (w.heap.size + 1) _ _ _ _ _ rfl rfl rfl rfl (hks _ _ _).1 (hks _ _ _).2.1 (hks _ _ _).2.2 (one8_some hK (hbf _ _ _)))
        | true =>
          have f2x : wc.cell? ⟨fb, fo + 6, none⟩ = some (.string t2) := (hO.below.cell (p := ⟨fb, fo + 6, none⟩) hfb).trans f2
          have hfb3 : fb < wc.heap.size := by have := hO.below.size; omega
          have hfb4 : (fb : Nat) < w.heap.size := hfb
          rw [hv0, hv1] at hKE
          clear f0 f1 f2 hv0 hv1
          go_wp2_with fail
          have hd := r3digits_walk t2 2 (by omega) wc
          cases hnum : numE 2 t2 with
          | none =>
            have hK : K = some (2, 4) := by rw [hKE.out, hnum]; rfl
            rw [hnum, show digV none = .tuple #[.int .i64 0, .bool false] from rfl] at hd
            clear hKE hnum
            refine hd.mono ?_
            rintro e W ⟨rfl, rfl⟩
            clear hd f2x
            (obtain ⟨o0, o1, o2, of⟩ := three_cells hO.r; have hrl := blk_lt hO.r; have of0 := of 0; have of1 := of 1; have of2 := of 2; have hbf := fun a b c => below_set3 hO.below (Nat.le_succ w.heap.size) a b c; have hks := fun a b c => three_set o0 o1 o2 (x := a) (y := b) (z := c); clear hO of; go_wp2; exact end_wayr rfl (w.heap.size + 1) _ _ _ _ _ rfl rfl rfl rfl (hks _ _ _).1 (hks _ _ _).2.1 (hks _ _ _).2.2 (one8_some hK (hbf _ _ _)))
          | some n =>
            rw [hnum] at hKE hwo
            rw [hnum, show digV (some n) = .tuple #[.int .i64 (n : Int), .bool true] from rfl] at hd
            refine hd.mono ?_
            rintro e W ⟨rfl, rfl⟩
            clear hd
            by_cases h24 : 24 < n
            · have hK : K = some (2, 3) := by rw [hKE.out]; exact if_pos h24
              have h24i : (24 : Int) < (n : Int) := by omega
              clear hKE hnum f2x hwo
              (obtain ⟨o0, o1, o2, of⟩ := three_cells hO.r; have hrl := blk_lt hO.r; have of0 := of 0; have of1 := of 1; have of2 := of 2; have hbf := fun a b c => below_set3 hO.below (Nat.le_succ w.heap.size) a b c; have hks := fun a b c => three_set o0 o1 o2 (x := a) (y := b) (z := c); clear hO of; go_wp2; exact end_wayr rfl (w.heap.size + 1) _ _ _ _ _ rfl rfl rfl rfl (hks _ _ _).1 (hks _ _ _).2.1 (hks _ _ _).2.2 (one8_some hK (hbf _ _ _)))
            · have h24i : ¬ (24 : Int) < (n : Int) := by omega
              have hwo : Hid (wayOf fs = (t0, t1, (n : Int))) := hwo
              have hKE2 : Hid (K = if sameS t0 t1 = true then some (-1, 1) else if dupTo (t0, t1, (n : Int)) ws = true then some (-1, 11) else if 8 < nm.length + moreOf nm t0 t1 then some (-1, 2) else none) := hide (hKE.out.trans (if_neg h24))
              have hO2 := hO.put (u := (n : Int)) (by omega) (by omega)
              have xf2 : wc.frozen? ⟨xg, 2, none⟩ = false := (three_cells hO.x).2.2.2 2
              obtain ⟨y0, y1, y2, -⟩ := three_cells hO2.x
              have hxl2 := blk_lt hO2.x
              clear hKE hnum f2x hO
              cases hss : sameS t0 t1 with
              | true =>
                have hK : K = some (-1, 1) := by rw [hKE2.out, hss]; rfl
                have hq : (t0.toList == t1.toList) = true := hss
                obtain ⟨hO, -⟩ := And.intro hO2 trivial
                clear hKE2 hss hO2
                (obtain ⟨o0, o1, o2, of⟩ := three_cells hO.r; have hrl := blk_lt hO.r; have of0 := of 0; have of1 := of 1; have of2 := of 2; have hbf := fun a b c => below_set3 hO.below (Nat.le_succ w.heap.size) a b c; have hks := fun a b c => three_set o0 o1 o2 (x := a) (y := b) (z := c); clear hO of; go_wp2; exact end_wayr rfl (w.heap.size + 1) _ _ _ _ _ rfl rfl rfl rfl (hks _ _ _).1 (hks _ _ _).2.1 (hks _ _ _).2.2 (one8_some hK (hbf _ _ _)))
              | false =>
                have hq : (t0.toList == t1.toList) = false := hss
                rw [hss] at hKE2
                have hKE3 : Hid (K = if dupTo (t0, t1, (n : Int)) ws = true then some (-1, 11) else if 8 < nm.length + moreOf nm t0 t1 then some (-1, 2) else none) := hide hKE2.out
                clear hKE2 hss
                go_wp2_with fail
                clear x0 x1 x2 xf2 hxl y0 y1 y2 hxl2
                go_loopw [13] (fun i W => O8Loop w (w.heap.size + 1) xg t0 t1 n ws i W) (fun i _ => ws.length - (intOf i).toNat)
                case atStart => exact ⟨0, Nat.zero_le _, rfl, rfl, hO2⟩
                case round =>
                  clear hO2
                  obtain ⟨j, hj, rfl, hdup, hO⟩ := hrel
                  obtain ⟨x0, x1, x2, -⟩ := three_cells hO.x
                  have hxl := blk_lt hO.x
                  by_cases hlt : j < ws.length
                  · obtain ⟨y, hy⟩ : ∃ y, ws[j]? = some y := ⟨_, List.getElem?_eq_getElem hlt⟩
                    obtain ⟨wb, off, rfl, -, hwb, p0, p1, -⟩ := way_get (hA.below hO.below) hy
                    obtain ⟨a, b, m⟩ := y
                    dsimp only at p0 p1
                    have hsw : sameW (t0, t1, (n : Int)) (a, b, m) = (((a.toList == t0.toList) && (b.toList == t1.toList)) || ((b.toList == t0.toList) && (a.toList == t1.toList))) := by
                      show (((t0.toList == a.toList) && (t1.toList == b.toList)) || ((t0.toList == b.toList) && (t1.toList == a.toList))) = _
                      rw [BEq.comm (a := t0.toList), BEq.comm (a := t1.toList), BEq.comm (a := t0.toList), BEq.comm (a := t1.toList)]
                    have hhit := fun hs => hide (dup_hit hy (x := (t0, t1, (n : Int))) hs)
                    have hnx := fun hs => hide (dup_next hy (x := (t0, t1, (n : Int))) hs hdup)
                    replace hsw := hide hsw
                    have hj0 : (0 : Int) ≤ (j : Int) := by omega
                    have hj1 : (j : Int) < (ws.length : Int) := by omega
                    clear hy hdup
                    go_upto_region 20 with fail
                    go_cut [106] (fun s W => s = .bool (sameW (t0, t1, (n : Int)) (a, b, m)) ∧ OB w (w.heap.size + 1) xg t0 t1 n W)
                    case first =>
                      have hOd := hO.drew
                      cases h1 : (a.toList == t0.toList) with
                      | true =>
                        cases h2 : (b.toList == t1.toList) with
                        | true => (have hb := hsw.out; rw [h1, h2] at hb; replace hb := hide hb; clear hsw hhit hnx; go_region; all_goals (go_wp2_with fail; go_meet; exact ⟨by rw [hb.out]; simp, by first | exact hO | exact hOd⟩))
                        | false =>
                          cases h3 : (a.toList == t1.toList) with
                          | true => (cases h4 : (b.toList == t0.toList) with
                            | true => (have hb := hsw.out; rw [h1, h2, h3, h4] at hb; replace hb := hide hb; clear hsw hhit hnx; go_region; all_goals (go_wp2_with fail; go_meet; exact ⟨by rw [hb.out]; simp, by first | exact hO | exact hOd⟩))
                            | false => (have hb := hsw.out; rw [h1, h2, h3, h4] at hb; replace hb := hide hb; clear hsw hhit hnx; go_region; all_goals (go_wp2_with fail; go_meet; exact ⟨by rw [hb.out]; simp, by first | exact hO | exact hOd⟩)))
                          | false => (have hb := hsw.out; rw [h1, h2, h3] at hb; replace hb := hide hb; clear hsw hhit hnx; go_region; all_goals (go_wp2_with fail; go_meet; exact ⟨by rw [hb.out]; simp, by first | exact hO | exact hOd⟩))
                      | false =>
                        cases h3 : (a.toList == t1.toList) with
                        | true => (cases h4 : (b.toList == t0.toList) with
                          | true => (have hb := hsw.out; rw [h1, h3, h4] at hb; replace hb := hide hb; clear hsw hhit hnx; go_region; all_goals (go_wp2_with fail; go_meet; exact ⟨by rw [hb.out]; simp, by first | exact hO | exact hOd⟩))
                          | false => (have hb := hsw.out; rw [h1, h3, h4] at hb; replace hb := hide hb; clear hsw hhit hnx; go_region; all_goals (go_wp2_with fail; go_meet; exact ⟨by rw [hb.out]; simp, by first | exact hO | exact hOd⟩)))
                        | false => (have hb := hsw.out; rw [h1, h3] at hb; replace hb := hide hb; clear hsw hhit hnx; go_region; all_goals (go_wp2_with fail; go_meet; exact ⟨by rw [hb.out]; simp, by first | exact hO | exact hOd⟩))
                    case rest =>
                      obtain ⟨rfl, hO⟩ := hcut
                      obtain ⟨x0, x1, x2, -⟩ := three_cells hO.x
                      have hxl := blk_lt hO.x
                      cases hs : sameW (t0, t1, (n : Int)) (a, b, m) with
                      | true =>
                        have hK : K = some (-1, 11) := by rw [hKE3.out, (hhit hs).out]; rfl
                        clear hhit hnx hsw p0 p1
                        (obtain ⟨o0, o1, o2, of⟩ := three_cells hO.r; have hrl := blk_lt hO.r; have of0 := of 0; have of1 := of 1; have of2 := of 2; have hbf := fun a b c => below_set3 hO.below (Nat.le_succ w.heap.size) a b c; have hks := fun a b c => three_set o0 o1 o2 (x := a) (y := b) (z := c); clear hO of; go_wp2; exact end_wayr rfl (w.heap.size + 1) _ _ _ _ _ rfl rfl rfl rfl (hks _ _ _).1 (hks _ _ _).2.1 (hks _ _ _).2.2 (one8_some hK (hbf _ _ _)))
                      | false =>
                        have hn2 := hnx hs
                        clear hhit hnx hsw p0 p1
                        go_wp2_with fail
                        go_roundw
                        case rel => exact ⟨j + 1, by omega, by go_num, hn2.out, hO⟩
                        case measure => simp [intOf]; omega
                  · obtain rfl : j = ws.length := by omega
                    rw [List.take_length] at hdup
                    have hKE4 : Hid (K = if 8 < nm.length + moreOf nm t0 t1 then some (-1, 2) else none) := by
                      have := hKE3.out
                      rw [hdup] at this
                      exact this
                    have hDw : At kStr AnyB wr D nm := (hD.below hO.below).any
                    have s1 := r8place_walk D nm cn t0 wr (by omega) hDw
                    have s2 := r8place_walk D nm cn t1 wr (by omega) hDw
                    obtain ⟨i0, hi0⟩ : ∃ i0, idxS t0 nm = i0 := ⟨_, rfl⟩
                    obtain ⟨i1, hi1⟩ : ∃ i1, idxS t1 nm = i1 := ⟨_, rfl⟩
                    have hmo : moreOf nm t0 t1 = (if i0 < 0 then 1 else 0) + (if i1 < 0 then 1 else 0) := by unfold moreOf; rw [hi0, hi1]
                    rw [hi0] at s1
                    rw [hi1] at s2
                    clear hi0 hi1 hDw hdup hKE3
                    go_wp2_with fail
                    refine s1.mono ?_
                    rintro e W ⟨rfl, rfl⟩
                    by_cases g0 : i0 < 0
                    · rw [if_pos g0] at hmo
                      go_wp2_with fail
                      refine s2.mono ?_
                      rintro e W ⟨rfl, rfl⟩
                      by_cases g1 : i1 < 0
                      · rw [if_pos g1] at hmo
                        (by_cases h8 : 8 < nm.length + moreOf nm t0 t1; all_goals (first | (have hK : K = some (-1, 2) := hKE4.out.trans (if_pos h8); rw [hmo] at h8; clear hKE4 hmo; first | (exfalso; omega) | (obtain ⟨o0, o1, o2, of⟩ := three_cells hO.r; have hrl := blk_lt hO.r; have of0 := of 0; have of1 := of 1; have of2 := of 2; have hbf := fun a b c => below_set3 hO.below (Nat.le_succ w.heap.size) a b c; have hks := fun a b c => three_set o0 o1 o2 (x := a) (y := b) (z := c); clear hO of; go_wp2; exact end_wayr rfl (w.heap.size + 1) _ _ _ _ _ rfl rfl rfl rfl (hks _ _ _).1 (hks _ _ _).2.1 (hks _ _ _).2.2 (one8_some hK (hbf _ _ _)))) | (have hK : K = none := hKE4.out.trans (if_neg h8); rw [hmo] at h8; clear hKE4 hmo; (obtain ⟨o0, o1, o2, of⟩ := three_cells hO.r; have hrl := blk_lt hO.r; have of0 := of 0; have of1 := of 1; have of2 := of 2; have hbf := fun a b c => below_set3 hO.below (Nat.le_succ w.heap.size) a b c; have hks := fun a b c => three_set o0 o1 o2 (x := a) (y := b) (z := c); clear hO of; go_wp2; exact end_wayr rfl (w.heap.size + 1) _ _ _ _ _ rfl rfl rfl rfl (hks _ _ _).1 (hks _ _ _).2.1 (hks _ _ _).2.2 ⟨(t0, t1, (n : Int)), by rw [hK]; rfl, fun _ => hwo.out.symm, hbf _ _ _⟩))))
                      · rw [if_neg g1] at hmo
                        (by_cases h8 : 8 < nm.length + moreOf nm t0 t1; all_goals (first | (have hK : K = some (-1, 2) := hKE4.out.trans (if_pos h8); rw [hmo] at h8; clear hKE4 hmo; first | (exfalso; omega) | (obtain ⟨o0, o1, o2, of⟩ := three_cells hO.r; have hrl := blk_lt hO.r; have of0 := of 0; have of1 := of 1; have of2 := of 2; have hbf := fun a b c => below_set3 hO.below (Nat.le_succ w.heap.size) a b c; have hks := fun a b c => three_set o0 o1 o2 (x := a) (y := b) (z := c); clear hO of; go_wp2; exact end_wayr rfl (w.heap.size + 1) _ _ _ _ _ rfl rfl rfl rfl (hks _ _ _).1 (hks _ _ _).2.1 (hks _ _ _).2.2 (one8_some hK (hbf _ _ _)))) | (have hK : K = none := hKE4.out.trans (if_neg h8); rw [hmo] at h8; clear hKE4 hmo; (obtain ⟨o0, o1, o2, of⟩ := three_cells hO.r; have hrl := blk_lt hO.r; have of0 := of 0; have of1 := of 1; have of2 := of 2; have hbf := fun a b c => below_set3 hO.below (Nat.le_succ w.heap.size) a b c; have hks := fun a b c => three_set o0 o1 o2 (x := a) (y := b) (z := c); clear hO of; go_wp2; exact end_wayr rfl (w.heap.size + 1) _ _ _ _ _ rfl rfl rfl rfl (hks _ _ _).1 (hks _ _ _).2.1 (hks _ _ _).2.2 ⟨(t0, t1, (n : Int)), by rw [hK]; rfl, fun _ => hwo.out.symm, hbf _ _ _⟩))))
                    · rw [if_neg g0] at hmo
                      go_wp2_with fail
                      refine s2.mono ?_
                      rintro e W ⟨rfl, rfl⟩
                      by_cases g1 : i1 < 0
                      · rw [if_pos g1] at hmo
                        (by_cases h8 : 8 < nm.length + moreOf nm t0 t1; all_goals (first | (have hK : K = some (-1, 2) := hKE4.out.trans (if_pos h8); rw [hmo] at h8; clear hKE4 hmo; first | (exfalso; omega) | (obtain ⟨o0, o1, o2, of⟩ := three_cells hO.r; have hrl := blk_lt hO.r; have of0 := of 0; have of1 := of 1; have of2 := of 2; have hbf := fun a b c => below_set3 hO.below (Nat.le_succ w.heap.size) a b c; have hks := fun a b c => three_set o0 o1 o2 (x := a) (y := b) (z := c); clear hO of; go_wp2; exact end_wayr rfl (w.heap.size + 1) _ _ _ _ _ rfl rfl rfl rfl (hks _ _ _).1 (hks _ _ _).2.1 (hks _ _ _).2.2 (one8_some hK (hbf _ _ _)))) | (have hK : K = none := hKE4.out.trans (if_neg h8); rw [hmo] at h8; clear hKE4 hmo; (obtain ⟨o0, o1, o2, of⟩ := three_cells hO.r; have hrl := blk_lt hO.r; have of0 := of 0; have of1 := of 1; have of2 := of 2; have hbf := fun a b c => below_set3 hO.below (Nat.le_succ w.heap.size) a b c; have hks := fun a b c => three_set o0 o1 o2 (x := a) (y := b) (z := c); clear hO of; go_wp2; exact end_wayr rfl (w.heap.size + 1) _ _ _ _ _ rfl rfl rfl rfl (hks _ _ _).1 (hks _ _ _).2.1 (hks _ _ _).2.2 ⟨(t0, t1, (n : Int)), by rw [hK]; rfl, fun _ => hwo.out.symm, hbf _ _ _⟩))))
                      · rw [if_neg g1] at hmo
                        (by_cases h8 : 8 < nm.length + moreOf nm t0 t1; all_goals (first | (have hK : K = some (-1, 2) := hKE4.out.trans (if_pos h8); rw [hmo] at h8; clear hKE4 hmo; first | (exfalso; omega) | (obtain ⟨o0, o1, o2, of⟩ := three_cells hO.r; have hrl := blk_lt hO.r; have of0 := of 0; have of1 := of 1; have of2 := of 2; have hbf := fun a b c => below_set3 hO.below (Nat.le_succ w.heap.size) a b c; have hks := fun a b c => three_set o0 o1 o2 (x := a) (y := b) (z := c); clear hO of; go_wp2; exact end_wayr rfl (w.heap.size + 1) _ _ _ _ _ rfl rfl rfl rfl (hks _ _ _).1 (hks _ _ _).2.1 (hks _ _ _).2.2 (one8_some hK (hbf _ _ _)))) | (have hK : K = none := hKE4.out.trans (if_neg h8); rw [hmo] at h8; clear hKE4 hmo; (obtain ⟨o0, o1, o2, of⟩ := three_cells hO.r; have hrl := blk_lt hO.r; have of0 := of 0; have of1 := of 1; have of2 := of 2; have hbf := fun a b c => below_set3 hO.below (Nat.le_succ w.heap.size) a b c; have hks := fun a b c => three_set o0 o1 o2 (x := a) (y := b) (z := c); clear hO of; go_wp2; exact end_wayr rfl (w.heap.size + 1) _ _ _ _ _ rfl rfl rfl rfl (hks _ _ _).1 (hks _ _ _).2.1 (hks _ _ _).2.2 ⟨(t0, t1, (n : Int)), by rw [hK]; rfl, fun _ => hwo.out.symm, hbf _ _ _⟩))))
  · have hm2 : ((fs.length : Int) != 3) = true := by simp; omega
    have hK : oneKE8 fs ws nm = some (-1, 9) := if_neg hm
    obtain ⟨K, hKK⟩ : ∃ K, oneKE8 fs ws nm = K := ⟨_, rfl⟩
    rw [hKK] at hK ⊢
    have u1 := heap_new2 w (.cells #[.int .i64 line, .slice F fs.length c] 25) (.cells #[.string ⟨#[]⟩, .string ⟨#[]⟩, .int .i64 0] 83)
    have hbU : Below w.heap.size w ((w.alloc (.cells #[.int .i64 line, .slice F fs.length c] 25)).alloc (.cells #[.string ⟨#[]⟩, .string ⟨#[]⟩, .int .i64 0] 83)) := (by repeat (first | exact Below.refl _ _ | refine ext_alloc ?_ _ | refine ext_drewN ?_ _ | refine ext_drew ?_ | refine ext_trans ?_ (by assumption)))
    obtain ⟨U, hU⟩ : ∃ U, (w.alloc (.cells #[.int .i64 line, .slice F fs.length c] 25)).alloc (.cells #[.string ⟨#[]⟩, .string ⟨#[]⟩, .int .i64 0] 83) = U := ⟨_, rfl⟩
    rw [hU] at u1 hbU
    have hO : OB w (w.heap.size + 1) (w.heap.size + 1) ⟨#[]⟩ ⟨#[]⟩ 0 U := ⟨u1, u1, hbU⟩
    replace hU := hide hU
    clear hF hA hD hKK u1 hbU
    go_enter Tryz.func47, Tryz.ntmps47
    go_upto_region 2 with fail
    rw [hU.out]
    clear hU
    (obtain ⟨o0, o1, o2, of⟩ := three_cells hO.r; have hrl := blk_lt hO.r; have of0 := of 0; have of1 := of 1; have of2 := of 2; have hbf := fun a b c => below_set3 hO.below (Nat.le_succ w.heap.size) a b c; have hks := fun a b c => three_set o0 o1 o2 (x := a) (y := b) (z := c); clear hO of; go_wp2; exact end_wayr rfl (w.heap.size + 1) _ _ _ _ _ rfl rfl rfl rfl (hks _ _ _).1 (hks _ _ _).2.1 (hks _ _ _).2.2 (one8_some hK (hbf _ _ _)))
end Go.Proofs.YtjcfkbichmlgmaaGreatDoor

namespace Go.Proofs.YtjcfkbichmlgmaaGreatDoor
open Go.RowKit
set_option maxRecDepth 100000

def rowTo (n j k : Nat) : List Int := (List.range n).map fun i => if i < k ∧ i ≠ j then -1 else 0
theorem rowTo_zero (n j : Nat) : rowTo n j 0 = List.replicate n 0 := by
  unfold rowTo
  apply List.ext_getElem
  · simp
  · intro i h1 h2; simp
theorem rowTo_all {n j : Nat} : rowTo n j n = unkRow n j := by
  unfold rowTo unkRow
  apply List.ext_getElem
  · simp
  · intro i h1 h2
    simp only [List.length_map, List.length_range] at h1
    rw [List.getElem_set]
    simp only [List.getElem_map, List.getElem_range, List.getElem_replicate]
    by_cases h : j = i
    · rw [if_pos h, if_neg (fun e => e.2 h.symm)]
    · rw [if_neg h, if_pos ⟨h1, fun e => h e.symm⟩]
theorem rowTo_set {n j k : Nat} (h : k ≠ j) : (rowTo n j k).set k (-1) = rowTo n j (k + 1) := by
  unfold rowTo
  apply List.ext_getElem
  · simp
  · intro i h1 h2
    rw [List.getElem_set]
    simp only [List.getElem_map, List.getElem_range]
    by_cases e : k = i
    · subst e; rw [if_pos rfl, if_pos ⟨Nat.lt_succ_self _, h⟩]
    · rw [if_neg e]
      by_cases e2 : i < k ∧ i ≠ j
      · rw [if_pos e2, if_pos ⟨by omega, e2.2⟩]
      · rw [if_neg e2, if_neg (fun q => e2 ⟨by omega, q.2⟩)]
theorem rowTo_skip (n k : Nat) : rowTo n k k = rowTo n k (k + 1) := by
  unfold rowTo
  apply List.ext_getElem
  · simp
  · intro i h1 h2
    simp only [List.getElem_map, List.getElem_range]
    by_cases e : i < k ∧ i ≠ k
    · rw [if_pos e, if_pos ⟨by omega, e.2⟩]
    · rw [if_neg e, if_neg (fun q => e ⟨by omega, q.2⟩)]
theorem rowTo_get {n j k i : Nat} (h : i < n) : ∃ z, (rowTo n j k)[i]? = some z := by
  refine ⟨_, List.getElem?_eq_getElem ?_⟩
  simpa [rowTo] using h
def UnkEnd (A : Option Addr) (nm : List ByteArray) (c : Nat) (w : World) (e : Ending) (w' : World) : Prop :=
  ∃ v hs, e = .returned (.agg #[.slice A nm.length c, v]) ∧ Mat nm.length w.heap.size w' v hs (unkM nm.length) ∧ Below w.heap.size w w'
abbrev TU (w1 : World) (v : Value) (n : Nat) (hs : List Nat) (m : List (List Int)) (W : World) : Prop := TR 68 w1 (.slice none 0 0) (.slice none 0 0) (.slice none 0 0) v [] [] [] n hs m W
def UnkLoop (w1 : World) (g n : Nat) (a : Value) (i : Value) (wr : World) : Prop :=
  ∃ (j : Nat) (hs : List Nat) (v : Value), j ≤ n ∧ i = .int .i64 j ∧ TBox wr g a v ∧ TU w1 v n hs ((unkM n).take j) wr
def UnkIn (w1 : World) (g n j h : Nat) (hs : List Nat) (a v : Value) (i : Value) (wr : World) : Prop :=
  ∃ k : Nat, k ≤ n ∧ i = .int .i64 k ∧ TBox wr g a v ∧ TU w1 v n hs ((unkM n).take j) wr ∧ RowOwn w1.heap.size n wr h (rowTo n j k) ∧ h < wr.heap.size
set_option maxHeartbeats 8000000 in
theorem r8unk_walk (A : Option Addr) (nm : List ByteArray) (c : Nat) (w : World) (hn : nm.length ≤ 1000) :
    Calls Tryz.prog 50 #[.slice A nm.length c] w fun e w' => UnkEnd A nm c w e w' := by
  have hb0 : Below w.heap.size w (w.alloc (.cells #[.slice none 0 0, .slice none 0 0] 30)) := (by repeat (first | exact Below.refl _ _ | refine ext_alloc ?_ _ | refine ext_drewN ?_ _ | refine ext_drew ?_ | refine ext_trans ?_ (by assumption)))
  have r0 : TBox (w.alloc (.cells #[.slice none 0 0, .slice none 0 0] 30)) w.heap.size (.slice none 0 0) (.slice none 0 0) := heap_alloc_new _ _
  have hfin : Hid (∀ e w', UnkEnd A nm c w e w' = (∃ v hs, e = .returned (.agg #[.slice A nm.length c, v]) ∧ Mat nm.length w.heap.size w' v hs (unkM nm.length) ∧ Below w.heap.size w w')) := hide fun _ _ => rfl
  obtain ⟨w1, hw1⟩ : ∃ w1, w.alloc (.cells #[.slice none 0 0, .slice none 0 0] 30) = w1 := ⟨_, rfl⟩
  rw [hw1] at hb0 r0
  obtain ⟨n, hnn⟩ : ∃ n, nm.length = n := ⟨_, rfl⟩
  rw [hnn] at hn hfin ⊢
  obtain ⟨rg, hrg⟩ : ∃ rg, w.heap.size = rg := ⟨_, rfl⟩
  rw [hrg] at r0
  have hrl := blk_lt r0
  have hbx4 : TBox (w1.alloc (.cells #[.slice A n c, .slice none 0 0] 30)) w1.heap.size (.slice A n c) (.slice none 0 0) := heap_alloc_new _ _
  have hT4 : TU w1 (.slice none 0 0) n [] [] (w1.alloc (.cells #[.slice A n c, .slice none 0 0] 30)) := ⟨Own.nil, Own.nil, World.ownsRow_nil _ _ _ _, Mat.nil, ext_alloc (Below.refl _ _) _⟩
  obtain ⟨w4, hw4⟩ : ∃ w4, w1.alloc (.cells #[.slice A n c, .slice none 0 0] 30) = w4 := ⟨_, rfl⟩
  rw [hw4] at hbx4 hT4
  have hs1 : w1.heap.size = rg + 1 := by rw [← hw1, World.size_alloc, hrg]
  obtain ⟨g, hg⟩ : ∃ g, rg + 1 = g := ⟨_, rfl⟩
  rw [hs1, hg] at hbx4
  have hg1 : w1.heap.size ≤ g := by omega
  replace hs1 := hide hs1
  obtain ⟨iI, hiI, hI0, hI1, hI2⟩ := info_parts infoInt3
  replace hw4 := hide hw4
  replace hg := hide hg
  replace hw1 := hide hw1
  replace hrg := hide hrg
  clear hnn
  go_enter Tryz.func50, Tryz.ntmps50
  go_wp2_with fail
  rw [hw1.out, hrg.out, hw4.out, hg.out]
  go_loopw [4] (fun i wr => UnkLoop w1 g n (.slice A n c) i wr) (fun i _ => n - (intOf i).toNat)
  case atStart => exact ⟨0, [], _, Nat.zero_le _, rfl, hbx4, hT4⟩
  case round =>
    obtain ⟨j, hs, v, hj, rfl, hbx, hT⟩ := hrel
    clear hbx4 hT4
    by_cases hlt : j < n
    · have hgl := blk_lt hbx
      have hj0 : (0 : Int) ≤ (j : Int) := by omega
      have hj1 : (j : Int) < (n : Int) := by omega
      go_wp2_with (at_make; refine wpList_make_full _ rfl _ _ 41 rfl w1.heap.size 3 iI (.int .i64 0) 1 Tryz.underlying41 hiI hI0 hI1 .i64 .i64 n n n rfl rfl rfl rfl ?b2 ?b3 ?b4 ?_)
      case b2 => rw [hI2]; omega
      case b3 => unfold maxLen; omega
      case b4 => exact hT.below.size
      intro w2 hown hgrow
      have hbw : Below wr.heap.size wr w2 := Below.grown (Below.refl _ _) hgrow (Nat.le_refl _) (fun k hk => by cases hk)
      rw [toList_madeCells_one] at hown
      have hr2 : RowOwn w1.heap.size n w2 wr.heap.size (rowTo n j 0) := by
        rw [rowTo_zero]; unfold RowOwn ints; rw [List.map_replicate]; exact ⟨_, hown⟩
      have hT2 := hT.later hbw
      have hbx2 := tbox_later hbx hbw
      have hlt1 : Hid (∀ c ∈ hs, c ≠ wr.heap.size) := hide fun c hc => by have := (hT.mat.lt c hc).2; omega
      have hz := hT.below.size
      obtain ⟨h, hh⟩ : ∃ h, wr.heap.size = h := ⟨_, rfl⟩
      rw [hh] at hr2 hlt1 hgl
      have hhl : h < w2.heap.size := by obtain ⟨cur, -, hb⟩ := row_blk hr2; exact blk_lt hb
      have hhw : w1.heap.size ≤ h := by omega
      clear hT hbx hown hgrow hbw
      replace hh := hide hh
      go_wp2_with fail
      rw [hh.out]
      go_loopw [6] (fun i wr => UnkIn w1 g n j h hs (.slice A n c) v i wr) (fun i _ => n - (intOf i).toNat)
      case atStart => exact ⟨0, Nat.zero_le _, rfl, hbx2, hT2, hr2, hhl⟩
      case round =>
        clear hhl
        obtain ⟨k, hk, rfl, hbx, hT, hr, hhl⟩ := hrel
        clear hbx2 hT2 hr2
        by_cases hlt2 : k < n
        · have hk0 : (0 : Int) ≤ (k : Int) := by omega
          have hk1 : (k : Int) < (n : Int) := by omega
          by_cases hkj : k = j
          · have hr3 : RowOwn w1.heap.size n wr h (rowTo n j (k + 1)) := by rw [hkj, ← rowTo_skip, ← hkj]; rw [← hkj] at hr; exact hr
            clear hr
            subst hkj
            go_wp2_with fail
            go_roundw
            case rel => exact ⟨k + 1, by omega, by go_num, hbx, hT, hr3, hhl⟩
            case measure => simp [intOf]; omega
          · obtain ⟨z, hz⟩ := rowTo_get (j := j) (k := k) hlt2
            have q0 := row_cell hr hz
            have qf := row_free hr k
            have hT3 := hT.beside (k := k) apart_way hr hhw hlt1.out (.int .i64 (-1))
            obtain ⟨hr3, ho3⟩ := row_set (k := k) hr (-1)
            rw [rowTo_set hkj] at hr3
            have hbx3 := tbox_only hbx ho3 (by omega)
            have hkji : ¬ ((k : Int) = (j : Int)) := by omega
            clear hT hr hbx ho3 hz
            go_wp2_with fail
            go_roundw
            case rel => exact ⟨k + 1, by omega, by go_num, hbx3, hT3, hr3, by simpa using hhl⟩
            case measure => simp [intOf]; omega
        · obtain rfl : k = n := by omega
          rw [rowTo_all] at hr
          obtain ⟨e0, e1, f0, f1⟩ := tbox_cells hbx
          have hgl7 := blk_lt hbx
          go_wp2_with (at_builtin; refine wpList_own rfl _ _ rfl (apd_rows k) (Nat.lt_succ_self 0) rfl (hT.mat.own.alloc _) ?d1 (by decide) ⟨_, 0, none⟩ 1 rfl h [.slice (some ⟨h, 0, none⟩) k k] ⟨_, Nat.le_refl _, rfl⟩ (World.news_of_block (cs := #[.slice (some ⟨h, 0, none⟩) k k]) (t := 41) (fr := (0, 0)) (heap_alloc_new _ _)) (by decide) (Nat.zero_le _) ?d2 ?_)
          case d1 => rw [hT.mat.len, List.length_take]; omega
          case d2 => rw [World.size_alloc]; have := hT.below.size; omega
          intro v' w8 hown8 hg8
          obtain ⟨A8, c8, rfl⟩ := hown8.form
          rw [show (hs ++ [h]).length = hs.length + 1 from by simp] at hown8
          have hbx8 := tbox_snoc (tbox_later hbx (ext_alloc (Below.refl _ _) _)) (hT.alloc _).mat hg8
          have hT8 := (hT.alloc _).snoc apart_way (hr.later (ext_alloc (Below.refl _ _) _)) hlt1.out hg8 hown8
          clear e0 e1 f0 f1 hT hbx hr hown8 hg8
          obtain ⟨e0, e1, f0, f1⟩ := tbox_cells hbx8
          have hgl8 := blk_lt hbx8
          have hbx9 := tbox_set hbx8 (.slice A8 (hs.length + 1) c8)
          have hT9 := hT8.only apart_way (only_setCell (p := ⟨g, 1, none⟩) (Only.refl g w8) (Or.inl rfl) (.slice A8 (hs.length + 1) c8)) hbx8 hg1
          rw [← unk_snoc _ _ hlt] at hT9
          clear hT8 hbx8
          go_wp2
          go_roundw
          case rel => exact ⟨j + 1, hs ++ [h], _, by omega, by go_num, hbx9, hT9⟩
          case measure => simp [intOf]; omega
    · obtain rfl : j = n := by omega
      have hall : (unkM j).take j = unkM j := List.take_of_length_le (by simp [unkM])
      rw [hall] at hT
      obtain ⟨e0, e1, -, -⟩ := tbox_cells hbx
      have hrr := tbox_later r0 hT.below
      obtain ⟨Av, nv, cv, rfl⟩ : ∃ A n c, v = .slice A n c := by obtain ⟨A, c, e⟩ := hT.mat.form; exact ⟨A, _, c, e⟩
      obtain ⟨o0, o1, f0, f1⟩ := tbox_cells hrr
      have hrl2 := blk_lt hrr
      have ho2 : Only rg wr ((wr.setCell ⟨rg, 0, none⟩ (.slice A j c)).setCell ⟨rg, 1, none⟩ (.slice Av nv cv)) := only_setCell (only_setCell (Only.refl rg wr) (Or.inl rfl) _) (Or.inl rfl) _
      obtain ⟨d1, d2, d3⟩ := hT.parts ho2 hrr
      have hbf : Below w.heap.size w ((wr.setCell ⟨rg, 0, none⟩ (.slice A j c)).setCell ⟨rg, 1, none⟩ (.slice Av nv cv)) := ext_set (ext_set (ext_trans hb0 hT.below) (p := ⟨rg, 0, none⟩) (Nat.le_of_eq hrg.out) _) (p := ⟨rg, 1, none⟩) (Nat.le_of_eq hrg.out) _
      obtain ⟨k0, k1⟩ := two_setT o0 o1 (x := .slice A j c) (y := .slice Av nv cv)
      have hz0 := hb0.size
      clear hT hbx hrr
      go_wp2
      refine end_trav1 rfl rg _ _ rfl rfl k0 k1 ?_
      rw [hfin.out]
      exact ⟨_, hs, rfl, d3.lower hz0, hbf⟩
end Go.Proofs.YtjcfkbichmlgmaaGreatDoor

namespace Go.Proofs.YtjcfkbichmlgmaaGreatDoor
open Go.RowKit
set_option maxRecDepth 100000

theorem apd_waysR : Apd Tryz.prog 81 83 3 40 := apd Tryz.underlying81 (z := .agg #[.string ⟨#[]⟩, .string ⟨#[]⟩, .int .i64 0]) (by kernel_rfl) rfl
theorem apart_wayR : ApartW 83 := by unfold ApartW; decide
theorem refKE_ne {fs : List Fld} {ws : List Way} {nm : List ByteArray} {k er : Int} (h : refKE fs ws nm = some (k, er)) : er ≠ 0 ∧ k < 3 := by
  unfold refKE at h
  repeat' (split at h)
  all_goals first | (injection h with h; injection h with h1 h2; subst h1; subst h2; exact ⟨by decide, by decide⟩) | cases h
theorem oneKE_ne {fs : List Fld} {ws : List Way} {nm : List ByteArray} {k er : Int} (h : oneKE8 fs ws nm = some (k, er)) : er ≠ 0 ∧ k < fs.length := by
  unfold oneKE8 at h
  by_cases hm : fs.length = 3
  · rw [if_pos hm] at h; have := refKE_ne h; exact ⟨this.1, by omega⟩
  · rw [if_neg hm] at h; injection h with h; injection h with h1 h2; subst h1; subst h2; exact ⟨by decide, by omega⟩
theorem way_step8 (st : RW) (line : Int) (fs : List Fld) : wayStep st (line, fs) = match oneKE8 fs st.ls (bldV st.ls) with | some ke => ⟨st.ls, st.lines, st.ps ++ [foundP line fs ke]⟩ | none => ⟨st.ls ++ [wayOf fs], st.lines ++ [line], st.ps⟩ := by
  unfold wayStep oneKE8
  by_cases hm : fs.length = 3
  · rw [if_pos hm, if_pos hm]
    dsimp only
    rw [wayP_ref]
    cases refKE fs st.ls (bldV st.ls) <;> rfl
  · rw [if_neg hm, if_neg hm]
    rfl
/-- What the first loop gathers. -/
structure G8 (w0 : World) (u4 u5 u6 : Value) (ls : List Way) (ps : List Prob) (nm : List ByteArray) (W : World) : Prop where
  ways : Own kWay 83 [] 0 w0.heap.size W u4 ls
  nms : Own kStr 9 [] 0 w0.heap.size W u5 nm
  ps : ProbsOwn w0.heap.size W u6 ps
  below : Below w0.heap.size w0 W
section
variable {w0 W W' : World} {u4 u5 u6 : Value} {ls : List Way} {ps : List Prob} {nm : List ByteArray}
theorem G8.later (h : G8 w0 u4 u5 u6 ls ps nm W) (hb : Below W.heap.size W W') : G8 w0 u4 u5 u6 ls ps nm W' := ⟨h.ways.later hb, h.nms.later hb, owns_later h.ps hb, ext_trans h.below hb⟩
theorem G8.alloc (h : G8 w0 u4 u5 u6 ls ps nm W) (o : Obj) : G8 w0 u4 u5 u6 ls ps nm (W.alloc o) := h.later (ext_alloc (Below.refl _ _) _)
theorem G8.prob {v' : Value} {p : Prob} (h : G8 w0 u4 u5 u6 ls ps nm W) (hg : W.grownBy W' u6.ownBlock) (hn : W'.ownsRow w0.heap.size 87 4 v' (ps.length + 1) (ps.flatMap encP ++ encP p)) : G8 w0 u4 u5 v' ls (ps ++ [p]) nm W' :=
  ⟨h.ways.grown h.ps (Nat.zero_le _) hg (by decide) (by decide), h.nms.grown h.ps (Nat.zero_le _) hg (by decide) (by decide), by unfold ProbsOwn; rw [List.length_append, flatP_snoc]; exact hn, Below.grown h.below hg h.below.size (fun j hj => (h.ps.lt j hj).1)⟩
theorem G8.way {v' : Value} {x : Way} (h : G8 w0 u4 u5 u6 ls ps nm W) (hg : W.grownBy W' u4.ownBlock) (hn : Own kWay 83 [] 0 w0.heap.size W' v' (ls ++ [x])) : G8 w0 v' u5 u6 (ls ++ [x]) ps nm W' := by
  obtain ⟨vss, -, e2, -⟩ := h.ways
  exact ⟨hn, h.nms.grown e2 (Nat.zero_le _) hg (by decide) (by decide), World.ownsRow.kept h.ps hg (own_ne h.ps e2 (by decide)), Below.grown h.below hg h.below.size (fun j hj => (e2.lt j hj).1)⟩
theorem G8.name {v' : Value} {z : ByteArray} (h : G8 w0 u4 u5 u6 ls ps nm W) (hg : W.grownBy W' u5.ownBlock) (hn : Own kStr 9 [] 0 w0.heap.size W' v' (nm ++ [z])) : G8 w0 u4 v' u6 ls ps (nm ++ [z]) W' := by
  obtain ⟨vss, -, e2, -⟩ := h.nms
  exact ⟨h.ways.grown e2 (Nat.zero_le _) hg (by decide) (by decide), hn, World.ownsRow.kept h.ps hg (own_ne h.ps e2 (by decide)), Below.grown h.below hg h.below.size (fun j hj => (e2.lt j hj).1)⟩
end
def R8Loop (rs : List Rec) (w1 : World) (v4 v5 v6 i : Value) (wr : World) : Prop :=
  ∃ j : Nat, j ≤ rs.length ∧ i = .int .i64 j ∧ G8 w1 v4 v5 v6 (readWays (rs.take j)).ls (readWays (rs.take j)).ps (bldV (readWays (rs.take j)).ls) wr
abbrev WBox (W : World) (g : Nat) (a b : ByteArray) (n : Int) : Prop := W.heap[g]? = some (.cells #[.string a, .string b, .int .i64 n] 83 (0, 0))
set_option maxHeartbeats 8000000 in
theorem r8read_walk (A : Option Addr) (rs : List Rec) (cap : Nat) (w : World) (hR : RecsAt w.heap.size w A rs) (hN : rs.length ≤ 4000000000000) :
    Calls Tryz.prog 12 #[.slice A rs.length cap] w fun e w' => TravGives rs w e w' := by
  have hb0 : Below w.heap.size w (w.alloc (.cells #[.slice none 0 0, .slice none 0 0] 30)) := (by repeat (first | exact Below.refl _ _ | refine ext_alloc ?_ _ | refine ext_drewN ?_ _ | refine ext_drew ?_ | refine ext_trans ?_ (by assumption)))
  have r0 : TBox (w.alloc (.cells #[.slice none 0 0, .slice none 0 0] 30)) w.heap.size (.slice none 0 0) (.slice none 0 0) := heap_alloc_new _ _
  obtain ⟨w1, hw1⟩ : ∃ w1, w.alloc (.cells #[.slice none 0 0, .slice none 0 0] 30) = w1 := ⟨_, rfl⟩
  rw [hw1] at hb0 r0
  have hR1 := (hR.below hb0).more hb0.size
  have hfin : Hid (∀ e w', TravGives rs w e w' = (∃ A1 c1 v hs u6, e = .returned (.tuple #[.agg #[.slice A1 (bldV (readWays rs).ls).length c1, v], u6]) ∧ Own kStr 9 [] 0 w.heap.size w' (.slice A1 (bldV (readWays rs).ls).length c1) (bldV (readWays rs).ls) ∧
    Mat (bldV (readWays rs).ls).length w.heap.size w' v hs (tabM (bldV (readWays rs).ls) (readWays rs).ls) ∧ ProbsOwn w.heap.size w' u6 (readWays rs).ps ∧ Below w.heap.size w w')) := hide fun _ _ => rfl
  obtain ⟨iP, hiP, hP0, hP1, hP2⟩ := info_parts infoProb
  obtain ⟨rg, hrg⟩ : ∃ rg, w.heap.size = rg := ⟨_, rfl⟩
  rw [hrg] at r0
  have hrl := blk_lt r0
  obtain ⟨N, hNN⟩ : ∃ N, rs.length = N := ⟨_, rfl⟩
  rw [hNN] at hN ⊢
  replace hNN := hide hNN
  replace hw1 := hide hw1
  replace hrg := hide hrg
  clear hR
  go_enter Tryz.func12, Tryz.ntmps12
  go_wp2_with fail
  rw [hw1.out, hrg.out]
  go_loopw [4, 5, 6, 7] (fun v4 v5 v6 i wr => R8Loop rs w1 v4 v5 v6 i wr) (fun _ _ _ i _ => N - (intOf i).toNat)
  case atStart => exact ⟨0, Nat.zero_le _, rfl, Own.nil, Own.nil, World.ownsRow_nil _ _ _ _, Below.refl _ _⟩
  case round =>
    obtain ⟨j, hj, rfl, hG⟩ := hrel
    rw [hNN.out] at hj
    by_cases hlt : j < N
    · obtain ⟨r, hr⟩ : ∃ r, rs[j]? = some r := ⟨_, List.getElem?_eq_getElem (by rw [hNN.out]; exact hlt)⟩
      obtain ⟨rb, off, rfl, hrb, hcell⟩ := (hR1.below hG.below) (by rw [hNN.out]; omega)
      obtain ⟨F, c, k0, k1, hF⟩ := hcell j r hr
      have hstep := hide (take_way rs j r hr)
      obtain ⟨st, hst⟩ : ∃ st, readWays (rs.take j) = st := ⟨_, rfl⟩
      have hlen := readWays_len (rs.take j)
      rw [List.length_take, hNN.out] at hlen
      rw [hst] at hG hlen hstep
      obtain ⟨⟨n1, n2⟩, n3⟩ := hlen
      have hnm8 := n1.1
      have hls := n1.len
      obtain ⟨line, fs⟩ := r
      dsimp only at k0 k1 hF
      rw [way_step8] at hstep
      have hz := hG.below.size
      have hrb2 : rb < wr.heap.size := by omega
      have h3N : st.ps.length ≤ 4000000000000 := by omega
      have hbs := fun x => bldV_snoc st.ls x
      obtain ⟨nm, hnm⟩ : ∃ nm, bldV st.ls = nm := ⟨_, rfl⟩
      rw [hnm] at hG hnm8 hstep hbs
      obtain ⟨A4, c4, rfl⟩ := hG.ways.form
      obtain ⟨A5, c5, rfl⟩ := hG.nms.form
      have hFw := hF.more hz
      have hone := r8one_walk line F fs c A4 st.ls c4 A5 nm c5 wr hFw hls hnm8 hG.ways.any' hG.nms.any'
      have hj0 : (0 : Int) ≤ (j : Int) := by omega
      have hj1 : (j : Int) < (N : Int) := by omega
      replace hbs := hide hbs
      replace hnm := hide hnm
      clear hcell hr hst hR1 n3 n1 n2 hF
      cases hK : oneKE8 fs st.ls nm with
      | some ke =>
        obtain ⟨k, er⟩ := ke
        rw [hK] at hone hstep
        obtain ⟨he0, hkl⟩ := oneKE_ne hK
        have he2 : (er != 0) = true := by simpa using he0
        replace he0 := hide he0
        have hstep2 : Hid (readWays (rs.take (j + 1)) = ⟨st.ls, st.lines, st.ps ++ [foundP line fs (k, er)]⟩) := hide hstep.out
        clear hK hstep
        go_wp2_with fail
        refine hone.mono ?_
        rintro e w2 ⟨⟨a, b, n⟩, rfl, -, hb2⟩
        dsimp only [keV, Option.getD]
        have hG3 := (hG.later hb2).alloc (.cells #[.string a, .string b, .int .i64 n] 83)
        have hbx : Below wr.heap.size wr (w2.alloc (.cells #[.string a, .string b, .int .i64 n] 83)) := ext_alloc hb2 _
        obtain ⟨W3, hW3⟩ : ∃ W3, w2.alloc (.cells #[.string a, .string b, .int .i64 n] 83) = W3 := ⟨_, rfl⟩
        rw [hW3] at hG3 hbx
        have q0 := cell_later hbx k0
        have q1 := cell_later hbx k1
        have hF3 := (hFw.below hbx).more hbx.size
        have hrb3 : rb < W3.heap.size := by have := hbx.size; omega
        replace hW3 := hide hW3
        clear hone hG k0 k1 hb2 hFw
        go_upto_region 9 with fail
        rw [hW3.out]
        clear hW3
        go_wp2_with fail
        refine (r7Found_walk line F fs c k er _ hF3 hkl).mono ?_
        rintro e w3 ⟨rfl, hb3⟩
        have hG4 := hG3.later hb3
        have hz3 := hG4.below.size
        clear hG3 q0 q1 hF3 hb3 hbx
        go_wp2_with (at_builtin; refine wpList_append_own _ rfl _ _ 31 rfl w1.heap.size 87 iP (.agg #[.int .i64 0, .int .i64 0, .int .i64 0, .int .i64 0]) 4 32 Tryz.underlying31 hiP hP0 hP1 hP2 rfl (by decide) _ _ _ rfl (hG4.alloc _).ps ⟨w3.heap.size, 0, none⟩ 1 1 (encP (line, placeOf fs k, er)) rfl rfl (new_prob _ _ _ _ _) (one_prob _) ?c3 ?c4 ?c5 ?_)
        case c3 => unfold maxLen; omega
        case c4 => omega
        case c5 => rw [World.size_alloc]; omega
        intro v' w4 hPn hgrow _
        have hGn := (hG4.alloc _).prob (p := (line, placeOf fs k, er)) hgrow hPn
        clear hG4 hPn hgrow
        go_wp2
        go_roundw
        case rel => exact ⟨j + 1, by rw [hNN.out]; omega, by go_num, by rw [hstep2.out]; dsimp only; rw [hnm.out]; exact hGn⟩
        case measure => simp [intOf]; omega
      | none =>
        rw [hK] at hone hstep
        have hstep2 : Hid (readWays (rs.take (j + 1)) = ⟨st.ls ++ [wayOf fs], st.lines ++ [line], st.ps⟩) := hide hstep.out
        clear hK hstep
        go_wp2_with fail
        refine hone.mono ?_
        rintro e w2 ⟨x, rfl, hx, hb2⟩
        dsimp only [keV, Option.getD]
        rw [← hx rfl] at hstep2
        have hbs2 := hide (hbs.out x)
        obtain ⟨a, b, n⟩ := x
        dsimp only at hbs2 ⊢
        have hG2 := hG.later hb2
        have hne := hide (hG2.ways.new (Nat.le_refl _))
        have hG3 := hG2.alloc (.cells #[.string a, .string b, .int .i64 n] 83)
        have hB3 : WBox (w2.alloc (.cells #[.string a, .string b, .int .i64 n] 83)) w2.heap.size a b n := heap_alloc_new _ _
        obtain ⟨W3, hW3⟩ : ∃ W3, w2.alloc (.cells #[.string a, .string b, .int .i64 n] 83) = W3 := ⟨_, rfl⟩
        obtain ⟨bg, hbg⟩ : ∃ bg, w2.heap.size = bg := ⟨_, rfl⟩
        rw [hW3] at hG3 hB3
        rw [hbg] at hB3 hne
        replace hW3 := hide hW3
        replace hbg := hide hbg
        clear hone hG hG2 k0 k1 hb2 hFw hx
        go_upto_region 10 with fail
        rw [hW3.out, hbg.out]
        clear hW3 hbg
        obtain ⟨y0, y1, y2, -⟩ := three_cells hB3
        have hbl := blk_lt hB3
        have hz3 := hG3.below.size
        go_wp2_with (at_builtin; refine wpList_own rfl _ _ rfl apd_waysR (by decide) rfl (hG3.ways.alloc _) ?d1 (by decide) ⟨_, 0, none⟩ 1 rfl (a, b, n) [.string a, .string b, .int .i64 n] ⟨[_], [_, _], rfl, rfl, [_], [_], rfl, rfl, rfl⟩ (World.news_of_block (cs := #[.string a, .string b, .int .i64 n]) (t := 83) (fr := (0, 0)) (heap_alloc_new _ _)) (by decide) (Nat.zero_le _) ?d2 ?_)
        case d1 => omega
        case d2 => rw [World.size_alloc]; omega
        intro v' w4 hown4 hg4
        have hG4 := (hG3.alloc _).way hg4 hown4
        have hB4 : WBox w4 bg a b n := (hg4.block bg (by rw [World.size_alloc]; omega) (fun e => hne.out e)).trans (block_after hB3)
        clear hG3 hB3 y0 y1 y2 hown4 hg4 hne hbl
        obtain ⟨y0, y1, -, -⟩ := three_cells hB4
        have hbl := blk_lt hB4
        have hz4 := hG4.below.size
        have s1 := r8place_walk A5 nm c5 a w4 (by omega) hG4.nms.any'.any
        obtain ⟨i0, hi0⟩ : ∃ i0, idxS a nm = i0 := ⟨_, rfl⟩
        rw [hi0] at s1
        go_wp2_with fail
        refine s1.mono ?_
        rintro e w5 ⟨rfl, rfl⟩
        clear s1
        by_cases g0 : i0 < 0
        all_goals
          obtain ⟨nm1, hnm1⟩ : ∃ nm1, addS nm a = nm1 := ⟨_, rfl⟩
          have hl1 := addS_len nm a
          rw [hnm1] at hl1
          first
            | have hs : nm1 = nm ++ [a] := hnm1.symm.trans (if_neg (by rw [hi0]; omega))
              clear hi0
              replace hs := hide hs
              replace hnm1 := hide hnm1
              go_wp2_with (at_builtin; refine wpList_own rfl _ _ rfl apd_strs (by decide) rfl (hG4.nms.alloc _) ?d1 (by decide) ⟨_, 0, none⟩ 1 rfl a [.string a] rfl (World.news_of_block (cs := #[.string a]) (t := 9) (fr := (0, 0)) (heap_alloc_new _ _)) (by decide) (Nat.zero_le _) ?d2 ?_)
              case d1 => omega
              case d2 => rw [World.size_alloc]; omega
              intro v5 w6 hown6 hg6
              have hG6 := (hG4.alloc _).name hg6 hown6
              have hB6 : WBox w6 bg a b n := (hg6.block bg (by rw [World.size_alloc]; omega) (by obtain ⟨vss, -, e2, -⟩ := (hG4.alloc (.cells #[.string a] 9)).nms; exact own_ne_blk e2 (block_after hB4) (by decide))).trans (block_after hB4)
              rw [← hs.out] at hG6
              obtain ⟨Ax, cx, rfl⟩ := hG6.nms.form
              clear hG4 hB4 y0 y1 hown6 hg6 hs hbl
            | have hs : nm1 = nm := hnm1.symm.trans (if_pos (by rw [hi0]; omega))
              subst hs
              have hG6 := hG4
              have hB6 := hB4
              replace hnm1 := hide hnm1
              clear hi0 hG4 hB4 y0 y1 hbl
          obtain ⟨y0, y1, -, -⟩ := three_cells hB6
          have hbl := blk_lt hB6
          have hz6 := hG6.below.size
          go_wp2_with fail
          refine (r8place_walk _ nm1 _ b _ (by omega) hG6.nms.any'.any).mono ?_
          rintro e w7 ⟨rfl, rfl⟩
          have hl2 := addS_len nm1 b
          by_cases g1 : idxS b nm1 < 0
          · have hs : Hid (bldV (st.ls ++ [(a, b, n)]) = nm1 ++ [b]) := hide (hbs2.out.trans (by show addS (addS _ a) b = _; rw [hnm1.out]; exact if_neg (by omega)))
            go_wp2_with (at_builtin; refine wpList_own rfl _ _ rfl apd_strs (by decide) rfl (hG6.nms.alloc _) ?d1 (by decide) ⟨_, 0, none⟩ 1 rfl b [.string b] rfl (World.news_of_block (cs := #[.string b]) (t := 9) (fr := (0, 0)) (heap_alloc_new _ _)) (by decide) (Nat.zero_le _) ?d2 ?_)
            case d1 => omega
            case d2 => rw [World.size_alloc]; omega
            intro v8 w8 hown8 hg8
            have hG8 := (hG6.alloc _).name hg8 hown8
            clear hG6 hB6 y0 y1 hown8 hg8 hbl
            go_wp2
            go_roundw
            case rel => exact ⟨j + 1, by rw [hNN.out]; omega, by go_num, by rw [hstep2.out]; dsimp only; rw [hs.out]; exact hG8⟩
            case measure => simp [intOf]; omega
          · have hs : Hid (bldV (st.ls ++ [(a, b, n)]) = nm1) := hide (hbs2.out.trans (by show addS (addS _ a) b = _; rw [hnm1.out]; exact if_pos (by omega)))
            clear hB6 y0 y1 hbl
            go_wp2_with fail
            go_roundw
            case rel => exact ⟨j + 1, by rw [hNN.out]; omega, by go_num, by rw [hstep2.out]; dsimp only; rw [hs.out]; exact hG6⟩
            case measure => simp [intOf]; omega
    · obtain rfl : j = N := by omega
      have hall : rs.take j = rs := by rw [← hNN.out]; exact List.take_length
      rw [hall] at hG
      have hok := (readWays_len rs).1
      obtain ⟨st, hst⟩ : ∃ st, readWays rs = st := ⟨_, rfl⟩
      rw [hst] at hG hok hfin
      have hn8 := hok.1.1
      have hnw := hok.1.len
      have hidx := fun (j : Nat) (x : Way) (hx : st.ls[j]? = some x) => way_idx hx
      obtain ⟨nm, hnm⟩ : ∃ nm, bldV st.ls = nm := ⟨_, rfl⟩
      rw [hnm] at hG hn8 hfin hidx
      replace hidx := hide hidx
      obtain ⟨A4, c4, rfl⟩ := hG.ways.form
      obtain ⟨A1, c1, rfl⟩ := hG.nms.form
      have hunk := r8unk_walk A1 nm c1 wr (by omega)
      clear hall hst hok hnm hR1
      go_wp2_with fail
      refine hunk.mono ?_
      rintro e w2 ⟨v, hs, rfl, hM, hb2⟩
      have hG2 := hG.later hb2
      obtain ⟨Av, nv, cv, rfl⟩ : ∃ A n c, v = .slice A n c := by obtain ⟨A, c, e⟩ := hM.form; exact ⟨A, _, c, e⟩
      have hT2 : TR 83 w1 (.slice A4 st.ls.length c4) u6 (.slice A1 nm.length c1) (.slice Av nv cv) st.ls st.ps nm nm.length hs (unkM nm.length) w2 := ⟨hG2.nms, hG2.ways, hG2.ps, hM.lower hG.below.size, hG2.below⟩
      have hbx4 : TBox (w2.alloc (.cells #[.slice A1 nm.length c1, .slice Av nv cv] 30)) w2.heap.size (.slice A1 nm.length c1) (.slice Av nv cv) := heap_alloc_new _ _
      have hT4 := hT2.alloc (.cells #[.slice A1 nm.length c1, .slice Av nv cv] 30)
      have hg1 : w1.heap.size ≤ w2.heap.size := hT2.below.size
      obtain ⟨w4, hw4⟩ : ∃ w4, w2.alloc (.cells #[.slice A1 nm.length c1, .slice Av nv cv] 30) = w4 := ⟨_, rfl⟩
      rw [hw4] at hbx4 hT4
      obtain ⟨g, hg⟩ : ∃ g, w2.heap.size = g := ⟨_, rfl⟩
      rw [hg] at hbx4 hg1
      replace hw4 := hide hw4
      replace hg := hide hg
      clear hT2 hG hG2 hM hb2 hunk
      go_wp2_with fail
      rw [hw4.out, hg.out]
      go_loopw [12] (fun i wr => PutLoop 83 w1 g (.slice A4 st.ls.length c4) u6 (.slice A1 nm.length c1) st.ls st.ps nm i wr) (fun i _ => st.ls.length - (intOf i).toNat)
      case atStart => exact ⟨0, hs, _, Nat.zero_le _, rfl, hbx4, hT4⟩
      case round =>
        clear hbx4 hT4
        obtain ⟨j, hs, v, hj, rfl, hbx, hT⟩ := hrel
        by_cases hlt : j < st.ls.length
        · obtain ⟨x, hx⟩ : ∃ x, st.ls[j]? = some x := ⟨_, List.getElem?_eq_getElem hlt⟩
          obtain ⟨⟨i, hi, hil⟩, k, hk, hkl⟩ := hidx.out j x hx
          have hstep := take_put nm st.ls hx (unkM nm.length)
          have hsq : Sq nm.length ((st.ls.take j).foldl (putW nm) (unkM nm.length)) := sq_fold _ (sq_unk _)
          obtain ⟨m, hm⟩ : ∃ m, (st.ls.take j).foldl (putW nm) (unkM nm.length) = m := ⟨_, rfl⟩
          rw [hm] at hstep hsq hT
          obtain ⟨xb, off, rfl, -, hxb, q0, q1, q2⟩ := way_get hT.ways.any' hx
          obtain ⟨xcs, hxt⟩ : ∃ cs, wr.heap[xb]? = some (.cells cs 83 (0, 0)) := by
            obtain ⟨vss, -, h, -⟩ := hT.ways
            rcases h.2 with ⟨e, _⟩ | ⟨y, cap', cur, e, _, hy, _⟩
            · cases e
            · injection e with e; injection e with e; injection e with e; subst e; exact ⟨_, hy⟩
          obtain ⟨a, b, u⟩ := x
          dsimp only at hi hk q0 q1 q2
          have hput : putW nm m (a, b, u) = setM (setM m i k u) k i u := by unfold putW; dsimp only; rw [hi, hk]; rfl
          rw [hput] at hstep
          have hj0 : (0 : Int) ≤ (j : Int) := by omega
          have hj1 : (j : Int) < (st.ls.length : Int) := by omega
          replace hstep := hide hstep
          have hat := hT.nms.any'.any
          have hSL : Cn2 xb (off + j * 3) ((.string a)) xb (off + j * 3 + 1) ((.string b)) wr := ⟨q0, q1⟩
          have s1 := hide (fun (W : World) (hW : Below wr.heap.size wr W) => (r8place_walk A1 nm c1 a W (by omega) (hat.later hW)).mono fun e _ ⟨he, hb⟩ => (⟨by rw [he, hi], hb ▸ hW, hSL.later (hb ▸ hW)⟩ : e = Ending.returned (.int .i64 (i : Int)) ∧ Below wr.heap.size wr _ ∧ Cn2 xb (off + j * 3) ((.string a)) xb (off + j * 3 + 1) ((.string b)) _))
          have s2 := hide (fun (W : World) (hW : Below wr.heap.size wr W) => (r8place_walk A1 nm c1 b W (by omega) (hat.later hW)).mono fun e _ ⟨he, hb⟩ => (⟨by rw [he, hk], hb ▸ hW, hSL.later (hb ▸ hW)⟩ : e = Ending.returned (.int .i64 (k : Int)) ∧ Below wr.heap.size wr _ ∧ Cn2 xb (off + j * 3) ((.string a)) xb (off + j * 3 + 1) ((.string b)) _))
          have hSd := hSL.drew
          have hrefl := Below.refl wr.heap.size wr
          have hi0 : (0 : Int) ≤ (i : Int) := by omega
          have hi1 : (i : Int) < (nm.length : Int) := by omega
          have hk0 : (0 : Int) ≤ (k : Int) := by omega
          have hk1 : (k : Int) < (nm.length : Int) := by omega
          clear hx hm hput hat hi hk
          go_upto_region 19 with fail
          go_region_held3 (fun W' => W'.cell? ⟨xb, off + j * 3, none⟩ = some ((.string a)) ∧ W'.cell? ⟨xb, off + j * 3 + 1, none⟩ = some ((.string b))) (first | ((repeat (first | (with_reducible assumption) | (with_reducible refine Cn2.alloc ?_ _) | (with_reducible refine Cn2.drew ?_) | (with_reducible refine Cn2.set ?_ ?_ ?_ _) | omega)); done)) (first | (go_at_call 49; (with_reducible refine (s1.out _ ?_).mono ?_); (repeat (first | (with_reducible assumption) | (with_reducible refine ext_alloc ?_ _) | (with_reducible refine ext_drew ?_))); rintro e w6 ⟨rfl, hb6, hx6⟩) | (go_at_call 49; (with_reducible refine (s2.out _ ?_).mono ?_); (repeat (first | (with_reducible assumption) | (with_reducible refine ext_alloc ?_ _) | (with_reducible refine ext_drew ?_))); rintro e w7 ⟨rfl, hb7, hx7⟩))
          have hT7 := hT.later hb7
          have hbx7 := tbox_later hbx hb7
          have x7 := cell_later hb7 q2
          have hx5 := (hb7.block xb hxb).trans hxt
          clear hT hbx hSL hSd s1 s2 hrefl hb6 hx6 hx7 q0 q1 q2 hxt
          have hgl7 := blk_lt hbx7
          have hxl7 : xb < w7.heap.size := blk_lt hx5
          obtain ⟨sb, cc, bi, bk, ci, ck, zz, zz2, rfl, hsb, hbi, hbk, hn1, hn2, hhi, hhk, c1', c2', p0, pf, p1, pf2, hty⟩ := hT7.seen apart_wayR hsq hil hkl u
          obtain ⟨-, e1, -, -⟩ := tbox_cells hbx7
          obtain ⟨y1, -⟩ := hty _ _ _ hx5 (by decide)
          obtain ⟨y2, -⟩ := hty _ _ _ hbx7 (by decide)
          have z1 : (w7.setCell ⟨bi, k, none⟩ (.int .i64 u)).cell? ⟨xb, off + j * 3 + 2, none⟩ = some (.int .i64 u) := (World.cell?_setCell_other _ _ _ _ (fun e => y1 (by injection e with e; exact e.symm))).trans x7
          have z2 : (w7.setCell ⟨bi, k, none⟩ (.int .i64 u)).cell? ⟨g, 1, none⟩ = some (.slice (some ⟨sb, 0, none⟩) nm.length cc) := (World.cell?_setCell_other _ _ _ _ (fun e => y2 (by injection e with e; exact e.symm))).trans e1
          have z3 : (w7.setCell ⟨bi, k, none⟩ (.int .i64 u)).cell? ⟨sb, i, none⟩ = some (.slice (some ⟨bi, 0, none⟩) nm.length ci) := (World.cell?_setCell_other _ _ _ _ (fun e => hn1 (by injection e))).trans c1'
          have z4 : (w7.setCell ⟨bi, k, none⟩ (.int .i64 u)).cell? ⟨sb, k, none⟩ = some (.slice (some ⟨bk, 0, none⟩) nm.length ck) := (World.cell?_setCell_other _ _ _ _ (fun e => hn1 (by injection e))).trans c2'
          have hput := hide (hT7.put apart_wayR hbx7 hsq hil hkl hhi hhk u)
          have hputd := hide (hT7.drew.put apart_wayR (tbox_later hbx7 (ext_drew (Below.refl _ _))) hsq hil hkl hhi hhk u)
          clear hT7 hbx7 hb7 hhi hhk hsq hty hx5 y1 y2
          go_upto_region 20 with fail
          go_region
          all_goals
            clear z1 z2 z3 z4 x7 e1 c1' c2' p0 pf p1 pf2
            go_wp2
            go_roundw
            case rel => first | exact ⟨j + 1, hs, _, by omega, by go_num, hputd.out.2, by rw [hstep.out]; exact hputd.out.1⟩ | exact ⟨j + 1, hs, _, by omega, by go_num, hput.out.2, by rw [hstep.out]; exact hput.out.1⟩
            case measure => simp [intOf]; omega
        · obtain rfl : j = st.ls.length := by omega
          rw [List.take_length] at hT
          obtain ⟨e0, e1, -, -⟩ := tbox_cells hbx
          have hrr := tbox_later r0 hT.below
          obtain ⟨Av, nv, cv, rfl⟩ : ∃ A n c, v = .slice A n c := by obtain ⟨A, c, e⟩ := hT.mat.form; exact ⟨A, _, c, e⟩
          obtain ⟨o0, o1, f0, f1⟩ := tbox_cells hrr
          have hrl2 := blk_lt hrr
          have ho2 : Only rg wr ((wr.setCell ⟨rg, 0, none⟩ (.slice A1 nm.length c1)).setCell ⟨rg, 1, none⟩ (.slice Av nv cv)) := only_setCell (only_setCell (Only.refl rg wr) (Or.inl rfl) _) (Or.inl rfl) _
          obtain ⟨d1, d2, d3⟩ := hT.parts ho2 hrr
          have hbf : Below w.heap.size w ((wr.setCell ⟨rg, 0, none⟩ (.slice A1 nm.length c1)).setCell ⟨rg, 1, none⟩ (.slice Av nv cv)) := ext_set (ext_set (ext_trans hb0 hT.below) (p := ⟨rg, 0, none⟩) (Nat.le_of_eq hrg.out) _) (p := ⟨rg, 1, none⟩) (Nat.le_of_eq hrg.out) _
          obtain ⟨k0, k1⟩ := two_setT o0 o1 (x := .slice A1 nm.length c1) (y := .slice Av nv cv)
          have hz0 := hb0.size
          clear hT hbx hrr
          go_wp2
          refine end_trav2 rfl rg _ _ _ rfl rfl rfl k0 k1 ?_
          rw [hfin.out]
          exact ⟨A1, c1, _, hs, _, rfl, d1.lower hz0, d3.lower hz0, owns_lower d2 hz0, hbf⟩
end Go.Proofs.YtjcfkbichmlgmaaGreatDoor
