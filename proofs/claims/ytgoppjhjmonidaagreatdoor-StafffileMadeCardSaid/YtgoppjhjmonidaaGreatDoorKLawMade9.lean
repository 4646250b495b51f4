/- The statement StafffileMade: its walk. Conditions: the numbers can be read; what the program's variables hold. -/
import Derived.Test.YtgoppjhjmonidaaGreatDoorKLawRet9
import Derived.Test.YtgoppjhjmonidaaGreatDoorKDiceU
import Derived.Test.YtgoppjhjmonidaaGreatDoorKLawV9
import Derived.Test.YtgoppjhjmonidaaGreatDoorKLawReads9
namespace Go.Proofs.YtgoppjhjmonidaaGreatDoor
open Go.RowKit
set_option maxRecDepth 100000

/-- What stays while the statement's data are made. -/
structure M9 (w0 : World) (g gk B4 B7 : Nat) (d s b m : Int) (v6 v7 : Value) (ls : List Lect) (xs : List (List ByteArray)) (W : World) : Prop where
  dice : DiceOk w0.heap.size W g
  grid : Box4 W gk (.int .i64 d) (.int .i64 s) (.int .i64 b) (.int .i64 m)
  below : Below w0.heap.size w0 W
  lects : Own kLect 49 [41] 0 B4 W v6 ls
  rows : Own (kSlice kStr) 27 [9] 0 B7 W v7 xs
  big : B7 ≤ W.heap.size
def RowsB (n : Nat) (xs : List (List ByteArray)) : Prop := xs.length ≤ n ∧ ∀ x ∈ xs, x.length ≤ 2 ∧ ∀ z ∈ x, z.size ≤ 1001
section
variable {w0 : World} {g gk B4 B7 : Nat} {d s b m : Int} {v6 v7 : Value} {ls : List Lect} {xs : List (List ByteArray)} {W W' : World}
theorem M9.later (h : M9 w0 g gk B4 B7 d s b m v6 v7 ls xs W) (hb : Below W.heap.size W W') : M9 w0 g gk B4 B7 d s b m v6 v7 ls xs W' := ⟨h.dice.later hb, h.grid.later hb, ext_trans h.below hb, h.lects.later hb, h.rows.later hb, Nat.le_trans h.big hb.size⟩
theorem M9.alloc (h : M9 w0 g gk B4 B7 d s b m v6 v7 ls xs W) (o : Obj) : M9 w0 g gk B4 B7 d s b m v6 v7 ls xs (W.alloc o) := h.later (ext_alloc (Below.refl _ _) _)
theorem M9.drew (h : M9 w0 g gk B4 B7 d s b m v6 v7 ls xs W) : M9 w0 g gk B4 B7 d s b m v6 v7 ls xs W.drew := h.later (ext_drew (Below.refl _ _))
theorem M9.on (h : M9 w0 g gk B4 B7 d s b m v6 v7 ls xs W) (hg : w0.heap.size ≤ g) (h1 : g < gk) (h2 : g < B4) (h3 : g < B7) (T : Thrown w0.heap.size W g W') : M9 w0 g gk B4 B7 d s b m v6 v7 ls xs W' :=
  ⟨T.dice, T.box (by omega) h.grid, T.ext h.below hg, h.lects.thrown T h2 (Nat.zero_le _), h.rows.thrown T h3 (Nat.zero_le _), Nat.le_trans h.big T.size⟩
theorem M9.store (h : M9 w0 g gk B4 B7 d s b m v6 v7 ls xs W) (hg : w0.heap.size ≤ g) (h1 : g < gk) (h3 : gk < B7) {sb o n : Nat} {z : ByteArray} (ht : TyAt [9] W sb) (hB : B7 ≤ sb) (hx : RowsB n xs) (hz : z.size ≤ 1001) :
    ∃ xs', xs'.length = xs.length ∧ RowsB n xs' ∧ M9 w0 g gk B4 B7 d s b m v6 v7 ls xs' (W.setCell ⟨sb, o, none⟩ (.string z)) := by
  obtain ⟨cs, t, hc, ht⟩ := ht
  simp only [List.mem_singleton] at ht
  subst ht
  obtain ⟨xs', hr, hl, hm⟩ := h.rows.restore (o' := o) (z := z) hc (by decide) hB
  have hne : gk ≠ sb := by omega
  obtain ⟨c0, c1, c2, c3⟩ := h.grid
  refine ⟨xs', hl, ⟨by rw [hl]; exact hx.1, fun x' hx' => ?_⟩, h.dice.set (p := ⟨sb, o, none⟩) (by show w0.heap.size ≤ sb; omega) (by show sb ≠ g; omega) _, ⟨cell_set_other c0 hne _, cell_set_other c1 hne _, cell_set_other c2 hne _, cell_set_other c3 hne _⟩, ext_set h.below (p := ⟨sb, o, none⟩) (by show w0.heap.size ≤ sb; omega) _,
    h.lects.only (only_setCell (World.grownBy.refl _ _) (Or.inl rfl) _) hc (Nat.zero_le _) (by decide) (by decide), hr, by rw [size_set]; exact h.big⟩
  obtain ⟨j, hj⟩ := List.getElem?_of_mem hx'
  obtain ⟨x, hxj, h2, h4⟩ := hm j x' hj
  obtain ⟨h5, h6⟩ := hx.2 x (List.mem_of_getElem? hxj)
  refine ⟨by omega, fun y hy => ?_⟩
  rcases h4 y hy with h | rfl
  · exact h6 y h
  · exact hz
theorem M9.append {v7' : Value} {xs' : List (List ByteArray)} (h : M9 w0 g gk B4 B7 d s b m v6 v7 ls xs W) (hg : w0.heap.size ≤ g) (h1 : g < gk) (h3 : gk < B7) (hgr : W.grownBy W' v7.ownBlock) (hr : Own (kSlice kStr) 27 [9] 0 B7 W' v7' xs') : M9 w0 g gk B4 B7 d s b m v6 v7' ls xs' W' := by
  have hlow : ∀ y, v7.ownBlock = some y → B7 ≤ y := fun y hy => (h.rows.lt y hy).1
  have hne : some gk ≠ v7.ownBlock := fun e => by have := hlow gk e.symm; omega
  obtain ⟨c0, c1, c2, c3⟩ := h.grid
  have hbb : Below w0.heap.size w0 W' := below_grown h.below hgr (fun y hy => by have := hlow y hy; omega)
  have hB7 : Below B7 W W' ∨ True := .inr trivial
  obtain ⟨vss, -, hown, -⟩ := h.rows
  refine ⟨?_, ⟨cell_grown c0 hgr hne, cell_grown c1 hgr hne, cell_grown c2 hgr hne, cell_grown c3 hgr hne⟩, hbb, h.lects.grown hown (Nat.zero_le _) hgr (by decide) (by decide), hr, Nat.le_trans h.big hgr.size⟩
  exact h.dice.far (C := gk) h1 ⟨hgr.os, hgr.tape, hgr.output, hgr.size, fun k hk => hgr.block k (Nat.lt_trans hk (cell_lt c0)) (fun e => by have := hlow k e.symm; omega)⟩
end
/-- What stays while a string is spoilt. -/
structure SpSt (w0 : World) (g gk B4 B7 : Nat) (d s b m : Int) (v6 v7 : Value) (ls : List Lect) (xs : List (List ByteArray)) (fg k sb so j cF : Nat) (z : ByteArray) (W : World) : Prop where
  st : M9 w0 g gk B4 B7 d s b m v6 v7 ls xs W
  cells : Cn2 fg k (.slice (some ⟨sb, so, none⟩) 2 cF) sb (so + j) (.string z) W
  ty : TyAt [9] W sb
section
variable {w0 : World} {g gk B4 B7 : Nat} {d s b m : Int} {v6 v7 : Value} {ls : List Lect} {xs : List (List ByteArray)} {fg k sb so j cF : Nat} {z : ByteArray} {W W' : World}
theorem TyAt.later {ts : List TypeId} (h : TyAt ts W sb) (hb : Below W.heap.size W W') : TyAt ts W' sb := by obtain ⟨cs, t, h1, h2⟩ := h; exact ⟨cs, t, (hb.block _ (blk_lt h1)).trans h1, h2⟩
theorem SpSt.later (h : SpSt w0 g gk B4 B7 d s b m v6 v7 ls xs fg k sb so j cF z W) (hb : Below W.heap.size W W') : SpSt w0 g gk B4 B7 d s b m v6 v7 ls xs fg k sb so j cF z W' := ⟨h.st.later hb, h.cells.later hb, h.ty.later hb⟩
theorem SpSt.alloc (h : SpSt w0 g gk B4 B7 d s b m v6 v7 ls xs fg k sb so j cF z W) (o : Obj) : SpSt w0 g gk B4 B7 d s b m v6 v7 ls xs fg k sb so j cF z (W.alloc o) := h.later (ext_alloc (Below.refl _ _) _)
theorem SpSt.drew (h : SpSt w0 g gk B4 B7 d s b m v6 v7 ls xs fg k sb so j cF z W) : SpSt w0 g gk B4 B7 d s b m v6 v7 ls xs fg k sb so j cF z W.drew := h.later (ext_drew (Below.refl _ _))
theorem SpSt.on (h : SpSt w0 g gk B4 B7 d s b m v6 v7 ls xs fg k sb so j cF z W) (hg : w0.heap.size ≤ g) (h1 : g < gk) (h2 : g < B4) (h3 : g < B7) (h4 : fg ≠ g) (h5 : sb ≠ g) (T : Thrown w0.heap.size W g W') : SpSt w0 g gk B4 B7 d s b m v6 v7 ls xs fg k sb so j cF z W' :=
  ⟨h.st.on hg h1 h2 h3 T, h.cells.only T.only h4 h5, by obtain ⟨cs, t, k1, k2⟩ := h.ty; exact ⟨cs, t, (T.only.block _ (blk_lt k1) (fun e => h5 (by injection e))).trans k1, k2⟩⟩
end
def SpEnd (w0 : World) (g gk B4 B7 : Nat) (d s b m : Int) (v6 v7 : Value) (ls : List Lect) (xs : List (List ByteArray)) (fg k sb so j cF : Nat) (z : ByteArray) (e : Ending) (W : World) : Prop :=
  ∃ r : ByteArray, e = .returned (.string r) ∧ r.size ≤ 1001 ∧ Cn2 fg k (.slice (some ⟨sb, so, none⟩) 2 cF) sb (so + j) (.string z) W ∧ SpSt w0 g gk B4 B7 d s b m v6 v7 ls xs fg k sb so j cF z W ∧ W.frozen? ⟨sb, so + j, none⟩ = false
def PlainSt9 (wx : World) (gk tb : Nat) (d s b m x1 x2 x3 : Int) (N : Nat) (rs : List Rec) (n : Nat) (e : Ending) (V : World) : Prop :=
  ∃ A8 c8, e = .returned (.slice A8 n c8) ∧ Cn8 gk 0 (.int .i64 d) gk 1 (.int .i64 s) gk 2 (.int .i64 b) gk 3 (.int .i64 m) tb 0 (.int .i64 x1) tb 1 (.int .i64 x2) tb 2 (.int .i64 x3) tb 3 (.int .i64 (N : Int)) V ∧ PlainSt wx A8 rs V
theorem Own.any' {α : Type} {K : Kind α} {t : TypeId} {ts : List TypeId} {B0 B n c : Nat} {w : World} {A : Option Addr} {l : List α} (h : Own K t ts B0 B w (.slice A n c) l) : At K (· < w.heap.size) w A l := by
  obtain ⟨A', c', e, -, h2⟩ := h.any
  injection e with e
  subst e
  exact h2
def CutA (w0 : World) (g gk B4 B7 : Nat) (d s b m : Int) (v6 v7 : Value) (ls : List Lect) (xs : List (List ByteArray)) (s40 : Value) (W : World) : Prop :=
  ∃ o : Bool, s40 = .bool o ∧ (o = true → 0 < xs.length) ∧ M9 w0 g gk B4 B7 d s b m v6 v7 ls xs W
def CutB (w0 : World) (g gk B4 B7 : Nat) (d s b m : Int) (v6 : Value) (ls : List Lect) (n : Nat) (s7 : Value) (W : World) : Prop :=
  ∃ (A7 : Option Addr) (c7 : Nat) (xs : List (List ByteArray)), s7 = .slice A7 xs.length c7 ∧ RowsB n xs ∧ M9 w0 g gk B4 B7 d s b m v6 s7 ls xs W
def CutC (w0 : World) (g gk B4 B7 : Nat) (d s b m : Int) (v7 : Value) (xs : List (List ByteArray)) (s6 : Value) (W : World) : Prop :=
  ∃ (A6 : Option Addr) (c6 : Nat) (ls : List Lect), s6 = .slice A6 ls.length c6 ∧ ls.length ≤ 5 ∧ (∀ l ∈ ls, l.2.length ≤ 5) ∧ M9 w0 g gk B4 B7 d s b m s6 v7 ls xs W
set_option maxHeartbeats 16000000 in
theorem made9_walk (A : Option Addr) (n c : Nat) (w : World) (hS : Std w) (hWd : Wds w) (hDy : Dys w) (hP : StrsVar w.heap.size 0 peopleL w) (hA : 0 < n → ∃ b off, A = some ⟨b, off, none⟩ ∧ ∀ j, j < n → ∃ x : Int, w.cell? ⟨b, off + j, none⟩ = some (.int .i64 x)) :
    Calls Tryz.prog 5 #[.slice A n c] w fun e w' => e = .returned (.bool true) ∧ Below w.heap.size w w' := by
  by_cases hn : n ≤ 400
  · have hd400 : decide (n ≤ 400) = true := by simpa using hn
    have D0 := dice_new (c := c) hn hA
    have hS0 := hS.big
    obtain ⟨g, hgw⟩ : ∃ g, w.heap.size = g := ⟨_, rfl⟩
    obtain ⟨W1, hW1⟩ : ∃ W1, w.alloc (.cells #[.slice A n c, .int .i64 0] 109) = W1 := ⟨_, rfl⟩
    have hb1 : Below w.heap.size w W1 := by rw [← hW1]; exact (by repeat (first | exact Below.refl _ _ | refine ext_alloc ?_ _ | refine ext_drewN ?_ _ | refine ext_drew ?_ | refine ext_trans ?_ (by assumption)))
    have hS1 := hS.after hb1
    have hP1 := hP.below hb1
    rw [hW1] at D0
    have hg : w.heap.size ≤ g := Nat.le_of_eq hgw
    have D1 : DiceOk w.heap.size W1 g := by rw [← hgw]; exact D0
    replace hW1 := hide hW1
    replace hgw := hide hgw
    clear D0 hA hP
    go_enter Tryz.func5, Tryz.ntmps5
    go_wp2_with (go_at_call 20; refine (light_walk _ _ _ _).mono ?_; rintro e w' ⟨rfl, rfl⟩)
    refine (roll_walk _ _ _ _).mono ?_
    rintro e w' ⟨rfl, rfl⟩
    rw [hW1.out, hgw.out]
    clear hW1 hgw
    go_wp2_with fail
    refine (grid_walk w.heap.size g W1 D1).mono ?_
    rintro e w2 ⟨d, s, b, m, rfl, ⟨d1, d2, s1, s2, z1, z2, z3, z4⟩, T2⟩
    go_wp2_with fail
    refine (next_walk w.heap.size g 8 (by omega) _ T2.dice).mono ?_
    rintro e w3 ⟨v, rfl, p3, q3, -, T3, -⟩
    have q3 := q3 (by omega)
    have T := T2.trans T3
    have hS3 := T.std hS1 (by omega)
    have hb3 := T.ext hb1 hg
    have hP3 := hP1.below (T.below hg)
    have hB := Box4.new w3 39 (.int .i64 d) (.int .i64 s) (.int .i64 b) (.int .i64 m)
    have hk : g < w3.heap.size := T.dice.lt
    have hxx : Below w3.heap.size w3 (w3.alloc (.cells #[.int .i64 d, .int .i64 s, .int .i64 b, .int .i64 m] 39)) := ext_alloc (Below.refl _ _) _
    have hD3 := T.dice.later hxx
    have hS4 := hS3.after hxx
    have hP4 := hP3.below (hxx.mono (by have := hb3.size; omega))
    have hb4 := ext_trans hb3 hxx
    obtain ⟨v, rfl⟩ := Int.eq_ofNat_of_zero_le p3
    obtain ⟨N, hN⟩ : ∃ N : Nat, 1 + v = N := ⟨_, rfl⟩
    have hN1 : 1 ≤ N := by omega
    have hN8 : N ≤ 8 := by omega
    have hw := week_made d1 d2 s1 s2 z1 z2 z3 z4 (by omega : 1 ≤ (N : Int)) (by omega : (N : Int) ≤ 20)
    go_wp2_with fail
    rw [show ((1 : Int) + (v : Int)) = (N : Int) from by omega]
    obtain ⟨gk, hgk⟩ : ∃ gk, w3.heap.size = gk := ⟨_, rfl⟩
    obtain ⟨W4, hW4⟩ : ∃ W4, w3.alloc (.cells #[.int .i64 d, .int .i64 s, .int .i64 b, .int .i64 m] 39) = W4 := ⟨_, rfl⟩
    rw [hW4] at hB hD3 hS4 hP4 hb4 ⊢
    rw [hgk] at hB hk ⊢
    have hkl := hB.lt
    clear hN T T2 T3 D1 hS1 hb1 z1 z2 z3 z4 p3 q3 hxx hgk hW4 hP1 hP3 hS3 hb3
    refine (dstaff_walk w.heap.size g d s b m N (by omega) (by omega) hN1 (by omega) W4 hD3 hP4).mono ?_
    rintro e w5 ⟨v6, ls, rfl, hmade, hown, T5⟩
    obtain ⟨A6, c6, rfl, hcap, hAt⟩ := hown.any
    have hval := valid_made hw hmade hN1 (by omega) d2 s2
    have hb5 := T5.ext hb4 hg
    have hB5 := T5.box (by omega) hB
    have hrows := made_rows (d := d) (s := s) (b := b) (m := m) hmade
    have hl3 := hmade.1
    have hl2 : ∀ l ∈ ls, l.2.length ≤ 2 := fun l hl => by obtain ⟨j, hj⟩ := List.getElem?_of_mem hl; exact (hmade.2 j l hj).2.1
    have hrw : rowsOf d s b m N ls = ls.map (rowOf d s b m N) := if_pos hval
    have hwr := r9Write_walk A6 ls c6 d s b m N w5 (hS.after hb5) (hWd.after hb5 hS) (hDy.after hb5 hS) (lects_of_at hAt)
    unfold WriteGives at hwr
    rw [hval, hrw] at hwr
    obtain ⟨k0, k1, k2, k3⟩ := hB5
    have hgr : gk < w5.heap.size := World.block_lt_of_cell? _ _ k0
    have hz4 : W4.heap.size ≤ w5.heap.size := T5.size
    have D5 := T5.dice
    have hg4 : g < W4.heap.size := by omega
    clear hmade hval hrw hw hB hS4 hP4 hb4 T5 hD3 hcap hAt
    go_wp2_with fail
    refine hwr.mono ?_
    rintro e w6 ⟨v7, rfl, hof, hb6⟩
    have hst : M9 w g gk W4.heap.size w5.heap.size d s b m (.slice A6 ls.length c6) v7 ls (ls.map (rowOf d s b m N)) w6 :=
      ⟨D5.later hb6, ⟨cell_later hb6 k0, cell_later hb6 k1, cell_later hb6 k2, cell_later hb6 k3⟩, ext_trans hb5 hb6, hown.later hb6, hof, hb6.size⟩
    have hx2 : ∀ x ∈ ls.map (rowOf d s b m N), x.length = 2 := fun x hx => by obtain ⟨l, -, rfl⟩ := List.mem_map.1 hx; rfl
    have hxB : RowsB 3 (ls.map (rowOf d s b m N)) := ⟨by rw [List.length_map]; exact hl3, fun x hx => ⟨by rw [hx2 x hx]; omega, fun z hz => by have := (hrows x hx).2 z hz; omega⟩⟩
    obtain ⟨A7, c7, rfl⟩ := hof.form
    obtain ⟨xs, hxs⟩ : ∃ xs, ls.map (rowOf d s b m N) = xs := ⟨_, rfl⟩
    rw [hxs] at hst hx2 hxB ⊢
    have hxz : ∀ x ∈ xs, ∀ z ∈ x, z.size ≤ 1000 := fun x hx => by rw [← hxs] at hx; exact (hrows x hx).2
    obtain ⟨B4, hB4⟩ : ∃ B4, W4.heap.size = B4 := ⟨_, rfl⟩
    obtain ⟨B7, hB7⟩ : ∃ B7, w5.heap.size = B7 := ⟨_, rfl⟩
    rw [hB4, hB7] at hst
    rw [hB4] at hg4 hz4
    rw [hB7] at hgr hz4
    have h47 : g < B7 := by omega
    have h44 : B4 ≤ B7 := by omega
    replace hx2 := hide hx2
    replace hxz := hide hxz
    clear hwr hof hb6 hb5 k0 k1 k2 k3 D5 hown hrows hxs hB4 hB7 hz4 hkl
    have hxl := hxB.1
    go_upto_region 7 with fail
    go_cut [40] (fun s40 wx => CutA w g gk B4 B7 d s b m (.slice A6 ls.length c6) (.slice A7 xs.length c7) ls xs s40 wx)
    case first =>
      by_cases hx0 : 0 < xs.length
      · have hx1 : (0 : Int) < (xs.length : Int) := by omega
        go_wp2_with fail
        refine (one_walk w.heap.size g 2 (by omega) (by omega) _ hst.dice).mono ?_
        rintro e w7 ⟨o1, rfl, T7⟩
        have hst' := hst.on hg hk hg4 h47 T7
        clear T7 hst
        go_wp2_with fail
        go_meet
        exact ⟨o1, rfl, fun _ => hx0, hst'⟩
      · have hx1 : ¬ (0 : Int) < (xs.length : Int) := by omega
        go_wp2_with fail
        go_meet
        exact ⟨false, rfl, (fun h => by cases h), hst⟩
    case rest =>
      clear hst
      obtain ⟨o1, rfl, ho1, hst⟩ := hcut
      replace ho1 := hide ho1
      go_upto_if 40 with fail
      go_cut [7] (fun s7 wx => CutB w g gk B4 B7 d s b m (.slice A6 ls.length c6) ls 3 s7 wx)
      case first =>
        cases o1 with
        | false =>
          go_wp2_with fail
          go_meet
          exact ⟨A7, c7, xs, rfl, hxB, hst⟩
        | true =>
          have hx0 := ho1.out rfl
          go_wp2_with fail
          refine (next_walk w.heap.size g (xs.length : Int) (by omega) _ hst.dice).mono ?_
          rintro e w7 ⟨k, rfl, p1, q1, -, T7, -⟩
          have q1 := q1 (by omega)
          obtain ⟨k, rfl⟩ := Int.eq_ofNat_of_zero_le p1
          have hkl : k < xs.length := by omega
          have hst7 := hst.on hg hk hg4 h47 T7
          clear hst T7
          go_wp2_with fail
          refine (next_walk w.heap.size g 2 (by omega) _ hst7.dice).mono ?_
          rintro e w8 ⟨j, rfl, p2, q2, -, T8, -⟩
          have q2 := q2 (by omega)
          obtain ⟨j, rfl⟩ := Int.eq_ofNat_of_zero_le p2
          have hj2 : j < 2 := by omega
          have hst8 := hst7.on hg hk hg4 h47 T8
          clear hst7 T8
          obtain ⟨x, hx⟩ : ∃ x, xs[k]? = some x := ⟨_, List.getElem?_eq_getElem hkl⟩
          have hxl2 := hx2.out x (List.mem_of_getElem? hx)
          obtain ⟨z, hz⟩ : ∃ z, x[j]? = some z := ⟨_, List.getElem?_eq_getElem (by omega)⟩
          have hzz := hxz.out x (List.mem_of_getElem? hx) z (List.mem_of_getElem? hz)
          obtain ⟨fg, c7', F, cF, e7, -, hfB, hfl, r0, -, hF⟩ := hst8.rows.row_at hx
          obtain ⟨sb, so, rfl, hsS, hsl, r1⟩ := hF.str hz
          have hsB : B7 ≤ sb := by rcases hsS with h | h; exact absurd h (Nat.not_lt_zero _); exact h.1
          have hty : TyAt [9] w8 sb := by rcases hsS with h | h; exact absurd h (Nat.not_lt_zero _); exact h.2
          injection e7 with e7 _ e8
          subst e7
          subst e8
          rw [hxl2] at r0
          have hsp : SpSt w g gk B4 B7 d s b m (.slice A6 ls.length c6) (.slice (some ⟨fg, 0, none⟩) xs.length c7) ls xs fg k sb so j cF z w8 := ⟨hst8, ⟨r0, r1⟩, hty⟩
          have hspd := hsp.drew
          have hcd := hsp.cells
          have hcdd := hcd.drew
          have hsc := hide (fun (V : World) (hV : SpSt w g gk B4 B7 d s b m (.slice A6 ls.length c6) (.slice (some ⟨fg, 0, none⟩) xs.length c7) ls xs fg k sb so j cF z V) => (spoil_walk w.heap.size g z ⟨#[48, 49, 50, 57, 59, 58, 47, 45, 46, 32, 77, 111, 97, 98]⟩ (by decide) (by decide) hzz V hV.st.dice).mono fun e V' ⟨r, he, hr, T'⟩ => (by
            have hs' := hV.on hg hk hg4 h47 (by omega) (by omega) T'
            exact ⟨r, he, by omega, hs'.cells, hs', hs'.ty.free _⟩ : SpEnd w g gk B4 B7 d s b m (.slice A6 ls.length c6) (.slice (some ⟨fg, 0, none⟩) xs.length c7) ls xs fg k sb so j cF z e V'))
          have f0 := hty.free (so + j)
          have hk0 : (0 : Int) ≤ (k : Int) := by omega
          have hk1 : (k : Int) < (xs.length : Int) := by omega
          have hj0 : (0 : Int) ≤ (j : Int) := by omega
          have hj1 : (j : Int) < 2 := by omega
          have hfs : fg ≠ sb := by
            intro e
            subst e
            obtain ⟨vss, -, hr2, -⟩ := hst8.rows
            rcases hr2.2 with ⟨h, _⟩ | ⟨g', cap, cur, h, _, hgg, _⟩
            · injection h with h; cases h
            · injection h with h
              injection h with h
              injection h with h
              subst h
              obtain ⟨cs, t, hc, ht⟩ := hty
              rw [hgg] at hc
              injection hc with h1
              injection h1 with _ h2
              rw [← h2] at ht
              exact absurd ht (by decide)
          clear hx hz hst8 hF hsS hxl2
          go_wp2_with fail
          go_region_law (first | (go_simp; go_at_call 26; (with_reducible refine (hsc.out _ ?_).mono ?_); (repeat (first | (with_reducible assumption) | (with_reducible refine SpSt.alloc ?_ _) | (with_reducible refine SpSt.drew ?_))); rintro e w9 ⟨r, rfl, hr, ⟨y0, y1⟩, hs9, f9⟩))
          all_goals
            have hst9 := hs9.st.store (o := so + j) (z := r) (n := 3) hg hk hgr hs9.ty hsB hxB hr
            clear hsc hsp hspd hcd hcdd y0 y1
            go_wp2_with fail
            go_meet
            obtain ⟨xs', hlx, hxB', hst'⟩ := hst9
            exact ⟨some ⟨fg, 0, none⟩, c7, xs', by rw [hlx], hxB', by first | exact hst' | exact hst'.drew⟩
      case rest =>
        clear hst hxB hx2 hxz hxl ho1
        obtain ⟨A7, c7, xs, rfl, hxB, hst⟩ := hcut
        have hxl := hxB.1
        go_upto_region 11 with fail
        go_cut [68] (fun s68 wx => CutA w g gk B4 B7 d s b m (.slice A6 ls.length c6) (.slice A7 xs.length c7) ls xs s68 wx)
        case first =>
          by_cases hx0 : 0 < xs.length
          · have hx1 : (0 : Int) < (xs.length : Int) := by omega
            go_wp2_with fail
            refine (one_walk w.heap.size g 4 (by omega) (by omega) _ hst.dice).mono ?_
            rintro e w7 ⟨o2, rfl, T7⟩
            have hst' := hst.on hg hk hg4 h47 T7
            clear T7 hst
            go_wp2_with fail
            go_meet
            exact ⟨o2, rfl, fun _ => hx0, hst'⟩
          · have hx1 : ¬ (0 : Int) < (xs.length : Int) := by omega
            go_wp2_with fail
            go_meet
            exact ⟨false, rfl, (fun h => by cases h), hst⟩
        case rest =>
          clear hst
          obtain ⟨o2, rfl, ho2, hst⟩ := hcut
          replace ho2 := hide ho2
          go_upto_if 68 with fail
          go_cut [7] (fun s7 wx => CutB w g gk B4 B7 d s b m (.slice A6 ls.length c6) ls 5 s7 wx)
          case first =>
            cases o2 with
            | false =>
              go_wp2_with fail
              go_meet
              exact ⟨A7, c7, xs, rfl, ⟨by omega, hxB.2⟩, hst⟩
            | true =>
              have hx0 := ho2.out rfl
              obtain ⟨x, hx⟩ : ∃ x, xs[0]? = some x := ⟨_, List.getElem?_eq_getElem hx0⟩
              have hxb := hxB.2 x (List.mem_of_getElem? hx)
              obtain ⟨fg, c7', F, cF, e7, -, hfB, hfl, r0, hcF, hF⟩ := hst.rows.row_at hx
              injection e7 with e7 _ e8
              subst e7
              subst e8
              obtain ⟨q, hq⟩ : ∃ q, x.length = q := ⟨_, rfl⟩
              have hrep : (kSlice kStr).rep (Ty [9] 0 B7 wc) wc x [.slice F q cF] := ⟨F, cF, by rw [hq], hcF, hF⟩
              rw [hq] at r0
              have hzB : B7 ≤ wc.heap.size := hst.big
              obtain ⟨W2, hW2⟩ : ∃ W2, (wc.alloc (.cells #[.string ⟨#[120]⟩] 9)).alloc (.cells #[.slice F q cF, .slice (some ⟨wc.heap.size, 0, none⟩) 1 1] 27) = W2 := ⟨_, rfl⟩
              have hbW : Below wc.heap.size wc W2 := by rw [← hW2]; exact (by repeat (first | exact Below.refl _ _ | refine ext_alloc ?_ _ | refine ext_drewN ?_ _ | refine ext_drew ?_ | refine ext_trans ?_ (by assumption)))
              have hst2 := hst.later hbW
              have hbs : W2.heap[wc.heap.size]? = some (.cells #[.string ⟨#[120]⟩] 9 (0, 0)) := by rw [← hW2]; exact block_after (heap_alloc_new _ _)
              have hbo : W2.heap[wc.heap.size + 1]? = some (.cells #[.slice F q cF, .slice (some ⟨wc.heap.size, 0, none⟩) 1 1] 27 (0, 0)) := by rw [← hW2]; exact heap_new2 _ _ _
              have hd2 : ∀ (j : Nat) (x' : List ByteArray) (vs : List Value), ([x, [⟨#[120]⟩]] : List (List ByteArray))[j]? = some x' → ([[.slice F q cF], [.slice (some ⟨wc.heap.size, 0, none⟩) 1 1]] : List (List Value))[j]? = some vs → (kSlice kStr).rep (Ty [9] 0 B7 W2) W2 x' vs := fun j x' vs h1 h2 => by
                match j, h1, h2 with
                | 0, h1, h2 => simp at h1 h2; subst h1; subst h2; exact (kSlice kStr).tyLater hrep hbW
                | 1, h1, h2 => simp at h1 h2; subst h1; subst h2; exact rep_lit_strs [⟨#[120]⟩] hbs rfl rfl hzB (by decide)
                | j + 2, h1, _ => simp at h1
              have hd3 : ∀ (j : Nat) (u : Value), ([[.slice F q cF], [.slice (some ⟨wc.heap.size, 0, none⟩) 1 1]] : List (List Value)).flatten[j]? = some u → W2.cell? ((⟨wc.heap.size + 1, 0, none⟩ : Addr).add j) = some u := World.news_of_block (cs := #[.slice F q cF, .slice (some ⟨wc.heap.size, 0, none⟩) 1 1]) (t := 27) (fr := (0, 0)) hbo
              have hd1 : xs.length + ([x, [⟨#[120]⟩]] : List (List ByteArray)).length ≤ 4000000000 := by show xs.length + 2 ≤ _; omega
              have hd4 : B7 ≤ W2.heap.size := Nat.le_trans hzB hbW.size
              have hown2 := hst2.rows
              have hq2 : q ≤ 2 := by rw [← hq]; exact hxb.1
              clear hrep hbs hbo hF hx hq
              replace hd2 := hide hd2
              replace hd3 := hide hd3
              go_wp2_with (at_builtin; refine wpList_own_many rfl _ _ rfl apd_lists (by decide) rfl hown2 [x, [⟨#[120]⟩]] [[.slice F q cF], [.slice (some ⟨wc.heap.size, 0, none⟩) 1 1]] rfl hd1 (by decide) ⟨wc.heap.size + 1, 0, none⟩ 2 2 rfl rfl hd2.out hd3.out (by decide) (Nat.zero_le _) hd4 ?_)
              intro v' w9 hown9 hgrow
              have hst9 := hst2.append hg hk hgr hgrow hown9
              obtain ⟨A9, c9, rfl⟩ := hown9.form
              clear hd2 hd3 hown9 hgrow hown2 hst hst2
              go_wp2_with fail
              go_meet
              exact ⟨A9, c9, xs ++ [x, [⟨#[120]⟩]], rfl, ⟨by rw [List.length_append]; show xs.length + 2 ≤ 5; omega, fun y hy => by
                rcases List.mem_append.1 hy with h | h
                · exact hxB.2 y h
                · simp at h
                  rcases h with rfl | rfl
                  · exact hxb
                  · exact ⟨by decide, by decide⟩⟩, hst9⟩
          case rest =>
            clear hst hxB hxl ho2
            obtain ⟨A7, c7, xs, rfl, hxB, hst⟩ := hcut
            go_wp2_with fail
            refine (one_walk w.heap.size g 2 (by omega) (by omega) _ hst.dice).mono ?_
            rintro e w7 ⟨o3, rfl, T7⟩
            have hst7 := hst.on hg hk hg4 h47 T7
            clear T7 hst
            go_upto_if 77 with fail
            go_cut [6] (fun s6 wx => CutC w g gk B4 B7 d s b m (.slice A7 xs.length c7) xs s6 wx)
            case first =>
              cases o3 with
              | false =>
                go_wp2_with fail
                go_meet
                exact ⟨A6, c6, ls, rfl, by omega, fun l hl => by have := hl2 l hl; omega, hst7⟩
              | true =>
                have hB4 : B4 ≤ w7.heap.size := Nat.le_trans h44 hst7.big
                go_wp2_with fail
                refine (oddStaff_walk w.heap.size g B4 A6 ls c6 _ hst7.dice hg4 hB4 hl3 (fun l hl => by have := hl2 l hl; omega) hst7.lects).mono ?_
                rintro e w8 ⟨v', ls', rfl, hl5, ht5, hown', T8⟩
                have hst8 := hst7.on hg hk hg4 h47 T8
                obtain ⟨A9, c9, rfl⟩ := hown'.form
                clear hst7 T8
                go_wp2_with fail
                go_meet
                exact ⟨A9, c9, ls', rfl, hl5, ht5, ⟨hst8.dice, hst8.grid, hst8.below, hown', hst8.rows, hst8.big⟩⟩
            case rest =>
              clear hst7 hl2 hl3
              obtain ⟨A6, c6, ls, rfl, hl5, ht5, hst⟩ := hcut
              replace ht5 := hide ht5
              obtain ⟨k0, k1, k2, k3⟩ := hst.grid
              have hgw := cell_lt k0
              go_wp2_with fail
              refine (time_walk w.heap.size g d s b m N (by omega) (by omega) (by omega) (by omega) _ hst.dice).mono ?_
              rintro e w8 ⟨x1, x2, x3, x4, rfl, -, -, -, T8, -⟩
              have hst8 := hst.on hg hk hg4 h47 T8
              have hz8 := T8.size
              clear hst T8 k0 k1 k2 k3
              have hbx : Below w8.heap.size w8 (w8.alloc (.cells #[.int .i64 x1, .int .i64 x2, .int .i64 x3, .int .i64 (N : Int)] 41)) := ext_alloc (Below.refl _ _) _
              obtain ⟨t0, t1, t2, t3⟩ := Box4.new w8 41 (.int .i64 x1) (.int .i64 x2) (.int .i64 x3) (.int .i64 (N : Int))
              have hst9 := hst8.later hbx
              obtain ⟨W, hW⟩ : ∃ W, w8.alloc (.cells #[.int .i64 x1, .int .i64 x2, .int .i64 x3, .int .i64 (N : Int)] 41) = W := ⟨_, rfl⟩
              obtain ⟨tb, htb⟩ : ∃ tb, w8.heap.size = tb := ⟨_, rfl⟩
              rw [hW] at t0 t1 t2 t3 hst9
              rw [htb] at t0 t1 t2 t3
              replace hW := hide hW
              replace htb := hide htb
              clear hst8 hbx
              go_upto_region 17 with fail
              rw [hW.out, htb.out]
              clear hW htb
              have hC : Cn8 gk 0 (.int .i64 d) gk 1 (.int .i64 s) gk 2 (.int .i64 b) gk 3 (.int .i64 m) tb 0 (.int .i64 x1) tb 1 (.int .i64 x2) tb 2 (.int .i64 x3) tb 3 (.int .i64 (N : Int)) W := ⟨hst9.grid.c0, hst9.grid.c1, hst9.grid.c2, hst9.grid.c3, t0, t1, t2, t3⟩
              have hgW := cell_lt hC.1
              have htW := cell_lt t0
              have hS9 := hS.after hst9.below
              have hW9 := hWd.after hst9.below hS
              have hD9 := hDy.after hst9.below hS
              have hbW := hst9.below
              obtain ⟨L, hL⟩ : ∃ L, ls.length = L := ⟨_, rfl⟩
              obtain ⟨M, hM⟩ : ∃ M, xs.length = M := ⟨_, rfl⟩
              have hxl := hxB.1
              have hva := fun (V : World) (hV : Below W.heap.size W V) => (valid9_walk A6 ls c6 d s b m x1 x2 x3 N V (hS9.after hV) (hW9.after hV hS9) (hD9.after hV hS9) hst9.lects.cap (by omega) (fun l hl => by have := ht5.out l hl; omega) (lects_of_at (hst9.lects.later hV).any')).mono fun _ _ ⟨he, hb⟩ => (⟨he, ext_trans hV hb, hC.later (ext_trans hV hb)⟩ : _ ∧ Below W.heap.size W _ ∧ Cn8 gk 0 (.int .i64 d) gk 1 (.int .i64 s) gk 2 (.int .i64 b) gk 3 (.int .i64 m) tb 0 (.int .i64 x1) tb 1 (.int .i64 x2) tb 2 (.int .i64 x3) tb 3 (.int .i64 (N : Int)) _)
              have hpl := fun (V : World) (hV : Below W.heap.size W V) => (plain_walk A7 xs c7 V (lists_in_of_at (hst9.rows.later hV).any') (by omega) (fun x hx => ⟨by have := (hxB.2 x hx).1; omega, fun z hz => by have := (hxB.2 x hx).2 z hz; omega⟩)).mono fun e V' ⟨v, he, hR, hb⟩ => (by
                obtain ⟨A8, c8, rfl⟩ : ∃ A8 c8, v = .slice A8 xs.length c8 := by obtain ⟨us, -, h, -⟩ := hR; have := owns_form h; rw [plainR_len] at this; exact this
                exact ⟨A8, c8, he.trans (by rw [hM]), hC.later (ext_trans hV hb), ext_trans hV hb, recs_at hR⟩ : PlainSt9 W gk tb d s b m x1 x2 x3 N (plainR 1 xs) M e V')
              have hrl : (plainR 1 xs).length = M := by rw [plainR_len]; exact hM
              have hrd := fun (A8 : Option Addr) (c8 : Nat) (V : World) (hV : PlainSt W A8 (plainR 1 xs) V) => (reads9_walk A8 (plainR 1 xs) c8 d s b m N V (hS9.after hV.1) (hW9.after hV.1 hS9) (hD9.after hV.1 hS9) hV.2 (by omega) (fun r hr f hf => by have := plainR_sizes (fun x hx => (hxB.2 x hx).2) r hr f hf; omega)).mono fun _ _ ⟨he, hb⟩ => (⟨he, ext_trans hV.1 hb, hC.later (ext_trans hV.1 hb)⟩ : _ ∧ Below W.heap.size W _ ∧ Cn8 gk 0 (.int .i64 d) gk 1 (.int .i64 s) gk 2 (.int .i64 b) gk 3 (.int .i64 m) tb 0 (.int .i64 x1) tb 1 (.int .i64 x2) tb 2 (.int .i64 x3) tb 3 (.int .i64 (N : Int)) _)
              rw [hrl] at hrd
              rw [hM] at hpl ⊢
              rw [hL] at hva ⊢
              replace hva := hide hva
              replace hpl := hide hpl
              replace hrd := hide hrd
              have hCd := hC.drew
              have hrefl := Below.refl W.heap.size W
              obtain ⟨q0, q1, q2, q3', q4, q5, q6, q7⟩ := id hC
              clear hst9 hS9 hW9 hD9 hL hM hrl hxB ht5 hl5 hxl t0 t1 t2 t3
              go_wp2_with fail
              go_region_held3 (fun W' => W'.cell? ⟨gk, 0, none⟩ = some (.int .i64 d) ∧ W'.cell? ⟨gk, 1, none⟩ = some (.int .i64 s) ∧ W'.cell? ⟨gk, 2, none⟩ = some (.int .i64 b) ∧ W'.cell? ⟨gk, 3, none⟩ = some (.int .i64 m) ∧ W'.cell? ⟨tb, 0, none⟩ = some (.int .i64 x1) ∧ W'.cell? ⟨tb, 1, none⟩ = some (.int .i64 x2) ∧ W'.cell? ⟨tb, 2, none⟩ = some (.int .i64 x3) ∧ W'.cell? ⟨tb, 3, none⟩ = some (.int .i64 (N : Int))) (first | ((repeat (first | (with_reducible assumption) | (with_reducible refine Cn8.alloc ?_ _) | (with_reducible refine Cn8.drew ?_) | (with_reducible refine Cn8.set ?_ ?_ ?_ ?_ ?_ ?_ ?_ ?_ ?_ _) | omega)); done)) (first | (go_at_call 4; refine (hva.out _ (by repeat (first | (with_reducible assumption) | (with_reducible refine ext_alloc ?_ _) | (with_reducible refine ext_drew ?_)))).mono ?_; rintro e w9 ⟨rfl, hb9, hx9⟩) | (go_at_call 30; refine (hpl.out _ (by repeat (first | (with_reducible assumption) | (with_reducible refine ext_alloc ?_ _) | (with_reducible refine ext_drew ?_)))).mono ?_; rintro e w10 ⟨A8, c8, rfl, hx10, hs10⟩) | (go_at_call 29; (with_reducible refine (hrd.out A8 c8 _ ?_).mono ?_); (repeat (first | (with_reducible assumption) | (with_reducible refine PlainSt.alloc ?_ _) | (with_reducible refine PlainSt.drew ?_))); rintro e w11 ⟨rfl, hb11, hx11⟩))
              all_goals
                go_wp2
                go_ret
                exact ⟨rfl, by first | exact ext_trans hbW hb11 | exact ext_drew (ext_trans hbW hb11)⟩
  · have hd400 : decide (n ≤ 400) = false := by simpa using hn
    go_enter Tryz.func5, Tryz.ntmps5
    go_wp2_with (go_at_call 20; refine (light_walk _ _ _ _).mono ?_; rintro e w' ⟨rfl, rfl⟩)
    refine (awake09_walk w hS).mono ?_
    rintro e w1 ⟨rfl, hb1⟩
    go_wp2
    go_ret
    exact ⟨rfl, hb1⟩
end Go.Proofs.YtgoppjhjmonidaaGreatDoor
