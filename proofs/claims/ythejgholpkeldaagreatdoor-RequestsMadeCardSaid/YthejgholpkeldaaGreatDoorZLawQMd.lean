/- The statement RequestsMade: its walk. Conditions: the numbers can be read; what the program's variables hold. -/
import Derived.Test.YthejgholpkeldaaGreatDoorZLawQEx
namespace Go.Proofs.YthejgholpkeldaaGreatDoor
open Go.RowKit
set_option maxRecDepth 100000

def RowsQ4 (n : Nat) (xs : List (List ByteArray)) : Prop := xs.length ≤ n ∧ ∀ x ∈ xs, x.length ≤ 4 ∧ ∀ z ∈ x, z.size ≤ 1001
/-- What stays while the statement's data are made. -/
structure M12 (w0 : World) (g B7 : Nat) (A5 : Option Addr) (v7 : Value) (ls : List Req) (xs : List (List ByteArray)) (W : World) : Prop where
  dice : DiceOk w0.heap.size W g
  below : Below w0.heap.size w0 W
  currs : At kReq (fun b => b ≠ g ∧ b < B7) W A5 ls
  rows : Own (kSlice kStr) 41 [9] 0 B7 W v7 xs
  big : B7 ≤ W.heap.size
section
variable {w0 : World} {g B7 : Nat} {A5 : Option Addr} {v7 : Value} {ls : List Req} {xs : List (List ByteArray)} {W W' : World}
theorem M12.later (h : M12 w0 g B7 A5 v7 ls xs W) (hb : Below W.heap.size W W') : M12 w0 g B7 A5 v7 ls xs W' := ⟨h.dice.later hb, ext_trans h.below hb, h.currs.later hb, h.rows.later hb, Nat.le_trans h.big hb.size⟩
theorem M12.on (h : M12 w0 g B7 A5 v7 ls xs W) (hg : w0.heap.size ≤ g) (h3 : g < B7) (T : Thrown w0.heap.size W g W') : M12 w0 g B7 A5 v7 ls xs W' :=
  ⟨T.dice, T.ext h.below hg, h.currs.tossed (fun _ hb => hb.1) T, h.rows.thrown T h3 (Nat.zero_le _), Nat.le_trans h.big T.size⟩
theorem M12.store (h : M12 w0 g B7 A5 v7 ls xs W) (hg : w0.heap.size ≤ g) (h3 : g < B7) {sb o n : Nat} {z : ByteArray} (ht : TyAt [9] W sb) (hB : B7 ≤ sb) (hx : RowsQ4 n xs) (hz : z.size ≤ 1001) :
    ∃ xs', xs'.length = xs.length ∧ RowsQ4 n xs' ∧ M12 w0 g B7 A5 v7 ls xs' (W.setCell ⟨sb, o, none⟩ (.string z)) := by
  obtain ⟨cs, t, hc, ht⟩ := ht
  simp only [List.mem_singleton] at ht
  subst ht
  obtain ⟨xs', hr, hl, hm⟩ := h.rows.restore (o' := o) (z := z) hc (by decide) hB
  have hk : ∀ b, b < B7 → (W.setCell ⟨sb, o, none⟩ (.string z)).heap[b]? = W.heap[b]? := fun b hb => Below.heap_setCell _ _ _ _ (fun e => by have : b = sb := e; omega)
  have hk2 : ∀ b, (b ≠ g ∧ b < B7) → b < W.heap.size → (b ≠ g ∧ b < B7) ∧ b < (W.setCell ⟨sb, o, none⟩ (.string z)).heap.size ∧ (W.setCell ⟨sb, o, none⟩ (.string z)).heap[b]? = W.heap[b]? := fun b h1 h2 => ⟨h1, by rw [size_set]; exact h2, hk b h1.2⟩
  refine ⟨xs', hl, ⟨by rw [hl]; exact hx.1, fun x' hx' => ?_⟩, h.dice.set (p := ⟨sb, o, none⟩) (by show w0.heap.size ≤ sb; omega) (by show sb ≠ g; omega) _, ext_set h.below (p := ⟨sb, o, none⟩) (by show w0.heap.size ≤ sb; omega) _,
    h.currs.kept hk2, hr, by rw [size_set]; exact h.big⟩
  obtain ⟨j, hj⟩ := List.getElem?_of_mem hx'
  obtain ⟨x, hxj, h2, h4⟩ := hm j x' hj
  obtain ⟨h5, h6⟩ := hx.2 x (List.mem_of_getElem? hxj)
  refine ⟨by omega, fun y hy => ?_⟩
  rcases h4 y hy with h | rfl
  · exact h6 y h
  · exact hz
end
/-- What stays while a string is spoilt. -/
structure SpQ (w0 : World) (g B7 : Nat) (A5 : Option Addr) (v7 : Value) (ls : List Req) (xs : List (List ByteArray)) (fg k sb so j cF : Nat) (z : ByteArray) (W : World) : Prop where
  st : M12 w0 g B7 A5 v7 ls xs W
  cells : Cn2 fg k (.slice (some ⟨sb, so, none⟩) 4 cF) sb (so + j) (.string z) W
  ty : TyAt [9] W sb
theorem TyAt.after {ts : List TypeId} {W W' : World} {sb : Nat} (h : TyAt ts W sb) (hb : Below W.heap.size W W') : TyAt ts W' sb := by obtain ⟨cs, t, h1, h2⟩ := h; exact ⟨cs, t, (hb.block _ (blk_lt h1)).trans h1, h2⟩
section
variable {w0 : World} {g B7 : Nat} {A5 : Option Addr} {v7 : Value} {ls : List Req} {xs : List (List ByteArray)} {fg k sb so j cF : Nat} {z : ByteArray} {W W' : World}
theorem SpQ.later (h : SpQ w0 g B7 A5 v7 ls xs fg k sb so j cF z W) (hb : Below W.heap.size W W') : SpQ w0 g B7 A5 v7 ls xs fg k sb so j cF z W' := ⟨h.st.later hb, h.cells.later hb, h.ty.after hb⟩
theorem SpQ.alloc (h : SpQ w0 g B7 A5 v7 ls xs fg k sb so j cF z W) (o : Obj) : SpQ w0 g B7 A5 v7 ls xs fg k sb so j cF z (W.alloc o) := h.later (ext_alloc (Below.refl _ _) _)
theorem SpQ.drew (h : SpQ w0 g B7 A5 v7 ls xs fg k sb so j cF z W) : SpQ w0 g B7 A5 v7 ls xs fg k sb so j cF z W.drew := h.later (ext_drew (Below.refl _ _))
theorem SpQ.on (h : SpQ w0 g B7 A5 v7 ls xs fg k sb so j cF z W) (hg : w0.heap.size ≤ g) (h3 : g < B7) (h4 : fg ≠ g) (h5 : sb ≠ g) (T : Thrown w0.heap.size W g W') : SpQ w0 g B7 A5 v7 ls xs fg k sb so j cF z W' :=
  ⟨h.st.on hg h3 T, h.cells.only T.only h4 h5, by obtain ⟨cs, t, k1, k2⟩ := h.ty; exact ⟨cs, t, (T.only.block _ (blk_lt k1) (fun e => h5 (by injection e))).trans k1, k2⟩⟩
end
def SpQEnd (w0 : World) (g B7 : Nat) (A5 : Option Addr) (v7 : Value) (ls : List Req) (xs : List (List ByteArray)) (fg k sb so j cF : Nat) (z : ByteArray) (e : Ending) (W : World) : Prop :=
  ∃ r : ByteArray, e = .returned (.string r) ∧ r.size ≤ 1001 ∧ Cn2 fg k (.slice (some ⟨sb, so, none⟩) 4 cF) sb (so + j) (.string z) W ∧ SpQ w0 g B7 A5 v7 ls xs fg k sb so j cF z W ∧ W.frozen? ⟨sb, so + j, none⟩ = false
/-- What the last lines start from. -/
structure L12 (w0 : World) (g : Nat) (s4 : Value) (v7 : Value) (xs : List (List ByteArray)) (A5 : Option Addr) (c5 : Nat) (ls : List Req) (W : World) : Prop where
  eq : s4 = .slice A5 ls.length c5
  len : ls.length ≤ 16
  each : ∀ l ∈ ls, ReqFew l
  cap : ls.length ≤ c5
  dice : DiceOk w0.heap.size W g
  below : Below w0.heap.size w0 W
  reqs : At kReq (fun b => b ≠ g) W A5 ls
  rows : ∃ B7, Own (kSlice kStr) 41 [9] 0 B7 W v7 xs
/-- No text lies in the dice. -/
theorem dice_no {B g o : Nat} {w : World} {z : ByteArray} (h : DiceOk B w g) (hc : w.cell? ⟨g, o, none⟩ = some (.string z)) : False := by
  obtain ⟨hB, A, n, c, k, hg, -⟩ := h
  rw [cell_of_row w g o _ _ _ hg] at hc
  match o, hc with
  | 0, hc => simp at hc
  | 1, hc => simp at hc
  | o + 2, hc => simp at hc
theorem strs_off {B g : Nat} {w : World} {A : Option Addr} {l : List ByteArray} (hd : DiceOk B w g) (h : At kStr AnyB w A l) : At kStr (fun b => b ≠ g) w A l := by
  intro hn
  obtain ⟨z, hz⟩ : ∃ z, l[0]? = some z := ⟨_, List.getElem?_eq_getElem hn⟩
  obtain ⟨b, off, hA, -, hlt, hc⟩ := h.str hz
  obtain ⟨b', off', hA', -, hlt', hcc⟩ := h hn
  rw [hA] at hA'
  injection hA' with hA'
  injection hA' with e1 e2
  subst e1 e2
  exact ⟨b, off, hA, fun e => by subst e; exact dice_no hd hc, hlt, fun j x hx => by obtain ⟨vs, hr, hv⟩ := hcc j x hx; exact ⟨vs, hr, hv⟩⟩
theorem reqs_off {B g : Nat} {w : World} {A : Option Addr} {l : List Req} (hd : DiceOk B w g) (h : At kReq AnyB w A l) : At kReq (fun b => b ≠ g) w A l := by
  intro hn
  obtain ⟨z, hz⟩ : ∃ z, l[0]? = some z := ⟨_, List.getElem?_eq_getElem hn⟩
  obtain ⟨b, off, F, cF, hA, -, hlt, ⟨hc, -, -, -⟩, -, -⟩ := h.req hz
  obtain ⟨b', off', hA', -, hlt', hcc⟩ := h hn
  rw [hA] at hA'
  injection hA' with hA'
  injection hA' with e1 e2
  subst e1 e2
  refine ⟨b, off, hA, fun e => by subst e; exact dice_no hd hc, hlt, fun j x hx => ?_⟩
  obtain ⟨vs, hr, hv⟩ := hcc j x hx
  obtain ⟨F', c', rfl, hr'⟩ := req_unrep hr
  obtain ⟨F2, c2, e, hle, hat⟩ := hr'
  refine ⟨_, req_rep (n := x.2.2.2.length) (F := F') (c := c') ?_, hv⟩
  injection e with e _
  injection e with e1 e2 e3
  subst e1 e3
  exact ⟨F', c', rfl, hle, strs_off hd hat⟩
theorem RecsOwn.thrown {B C g : Nat} {w w' : World} {v : Value} {rs : List Rec} (h : RecsOwn B w v rs) (T : Thrown C w g w') (hg : g < B) : RecsOwn B w' v rs := by
  have key : ∀ {t : TypeId} {k n : Nat} {v : Value} {xs : List Value}, w.ownsRow B t k v n xs → w'.ownsRow B t k v n xs := fun {t k n v xs} e2 => World.ownsRow.kept e2 T.only (by
    cases hv : v.ownBlock with
    | none => exact .inl rfl
    | some y => exact .inr fun e => by have := (World.ownsRow.lt e2 y hv).1; injection e with e; omega)
  obtain ⟨us, h1, h2, h3⟩ := h
  exact ⟨us, h1, key h2, fun j l u hl hu => key (h3 j l u hl hu)⟩
set_option maxHeartbeats 16000000 in
theorem qmade12_walk (A : Option Addr) (n c : Nat) (w : World) (hS : Std w) (hP : StrsVar w.heap.size 0 featuresL w) (hA : 0 < n → ∃ b off, A = some ⟨b, off, none⟩ ∧ ∀ j, j < n → ∃ x : Int, w.cell? ⟨b, off + j, none⟩ = some (.int .i64 x)) :
    Calls Tryz.prog 3 #[.slice A n c] w fun e w' => e = .returned (.bool true) ∧ Below w.heap.size w w' := by
  by_cases hn : n ≤ 400
  · have hd400 : decide (n ≤ 400) = true := by simpa using hn
    have D0 := dice_new (c := c) hn hA
    have hS0 := hS.big
    obtain ⟨g, hgw⟩ : ∃ g, w.heap.size = g := ⟨_, rfl⟩
    obtain ⟨W1, hW1⟩ : ∃ W1, w.alloc (.cells #[.slice A n c, .int .i64 0] 57) = W1 := ⟨_, rfl⟩
    have hb1 : Below w.heap.size w W1 := by rw [← hW1]; exact (by repeat (first | exact Below.refl _ _ | refine ext_alloc ?_ _ | refine ext_drewN ?_ _ | refine ext_drew ?_ | refine ext_trans ?_ (by assumption)))
    have hS1 := hS.after hb1
    have hP1 := hP.below hb1
    rw [hW1] at D0
    have hg : w.heap.size ≤ g := Nat.le_of_eq hgw
    have D1 : DiceOk w.heap.size W1 g := by rw [← hgw]; exact D0
    replace hW1 := hide hW1
    replace hgw := hide hgw
    clear D0 hA hP
    go_enter Tryz.func3, Tryz.ntmps3
    go_wp2_with (go_at_call 5; refine (light_walk _ _ _ _).mono ?_; rintro e w' ⟨rfl, rfl⟩)
    refine (roll_walk _ _ _ _).mono ?_
    rintro e w' ⟨rfl, rfl⟩
    rw [hW1.out, hgw.out]
    clear hW1 hgw
    go_wp2_with fail
    refine (grid_walk w.heap.size g W1 D1).mono ?_
    rintro e w2 ⟨d, s, b, m, rfl, ⟨d1, d2, s1, s2, z1, z2, z3, z4⟩, T2⟩
    have hcw : Calls Tryz.prog 9 #[.pointer (some ⟨g, 0, none⟩), .agg #[.int .i64 d, .int .i64 s, .int .i64 b, .int .i64 m], .int .i64 1, .slice none 0 0, .int .i64 6] w2 fun e w' => DClss w.heap.size 1 d s 6 [] w2 g e w' :=
      dclss_walk w.heap.size g d s b m 1 (by omega) (by omega) (by omega) (by omega) none [] 0 (by simp) 6 (by omega) w2 T2.dice (hP1.below (T2.below hg)) (fun h => absurd h (by simp))
    go_wp2_with fail
    refine hcw.mono ?_
    clear hcw
    rintro e w3 ⟨v4, cls, rfl, hcm, hcown, T3⟩
    obtain ⟨A4, c4, rfl⟩ := hcown.form
    have hat3 := hcown.ne T2.dice.lt
    have hmc : ∀ x ∈ cls, x.2.1 ∈ mcourses := fun x hx => by obtain ⟨j, hj⟩ := List.getElem?_of_mem hx; exact (hcm.2 j x hj).2.1.course
    have hcl := hcm.1
    have hcu := dreq_walk w.heap.size g A4 cls c4 w3 T3.dice (by omega) hat3 hmc
    have hg3 := T3.dice.lt
    clear hcm hcown hmc
    go_wp2_with fail
    refine hcu.mono ?_
    clear hcu
    rintro e w4 ⟨v5, ls, rfl, hmade, hlown, T4⟩
    obtain ⟨A5, c5, rfl⟩ := hlown.form
    have hcap := hlown.cap
    have hat5 := hlown.ne hg3
    have T := (T2.trans T3).trans T4
    have hS4 := T.std hS1 (by omega)
    have hb4 := T.ext hb1 hg
    have hval := hmade.valid
    obtain ⟨hrq, hrl0, hrx⟩ := rowsQ_small hmade
    have hl3 := hmade.1
    have hrl : (rowsQ ls).length ≤ 15 := by omega
    clear hrl0
    have hsz := hmade.sizes
    have hl2 : ∀ x ∈ ls, ReqFew x := fun x hx => ⟨(hsz x hx).1, (hsz x hx).2.2⟩
    obtain ⟨B7, hB7⟩ : ∃ B7, w4.heap.size = B7 := ⟨_, rfl⟩
    have hgB : g < B7 := by rw [← hB7]; exact T4.dice.lt
    have hc5 : At kReq (fun b => b ≠ g ∧ b < B7) w4 A5 ls := hat5.kept fun b h1 h2 => ⟨⟨h1, by omega⟩, h2, rfl⟩
    have hwr := r12write_walk A5 ls c5 w4 hS4 (by omega) (fun x hx => by have := hsz x hx; omega) hat5.any
    have hD4 := T4.dice
    unfold QWriteIs at hwr
    rw [hval] at hwr
    replace hl2 := hide hl2
    clear hmade hlown hval hrq hsz T T2 T3 T4 hS1 hb1 D1 hP1 hat3 hat5
    go_wp2_with fail
    refine hwr.mono ?_
    clear hwr
    rintro e w5 ⟨v7, rfl, hof, hb5⟩
    obtain ⟨A7, c7, rfl⟩ := hof.form
    rw [hB7] at hof
    have hz5 : B7 ≤ w5.heap.size := by rw [← hB7]; exact hb5.size
    have hst : M12 w g B7 A5 (.slice A7 (rowsQ ls).length c7) ls (rowsQ ls) w5 := ⟨hD4.later hb5, ext_trans hb4 hb5, hc5.later hb5, hof, hz5⟩
    have hxB : RowsQ4 15 (rowsQ ls) := ⟨by omega, fun x hx => by obtain ⟨h1, h2⟩ := hrx x hx; exact ⟨by omega, fun z hz => by have := h2 z hz; omega⟩⟩
    obtain ⟨xs, hxs⟩ : ∃ xs, rowsQ ls = xs := ⟨_, rfl⟩
    rw [hxs] at hst hxB hrx hrl ⊢
    obtain ⟨M, hM⟩ : ∃ M, xs.length = M := ⟨_, rfl⟩
    rw [hM] at hst hrl ⊢
    replace hrx := hide hrx
    replace hM := hide hM
    clear hof hS4 hb4 hc5 hD4 hb5 hz5 hxs hB7
    go_upto_region 6 with fail
    go_cut [32] (fun s32 wx => ∃ o : Bool, s32 = .bool o ∧ (o = true → 0 < M) ∧ M12 w g B7 A5 (.slice A7 M c7) ls xs wx)
    case first =>
      by_cases hx0 : 0 < M
      · have hx1 : (0 : Int) < (M : Int) := by omega
        go_wp2_with fail
        refine (one_walk w.heap.size g 2 (by omega) (by omega) _ hst.dice).mono ?_
        rintro e w7 ⟨o1, rfl, T7⟩
        have hst' := hst.on hg hgB T7
        clear T7 hst
        go_wp2_with fail
        go_meet
        exact ⟨o1, rfl, fun _ => hx0, hst'⟩
      · have hx1 : ¬ (0 : Int) < (M : Int) := by omega
        go_wp2_with fail
        go_meet
        exact ⟨false, rfl, (fun h => by cases h), hst⟩
    case rest =>
      clear hst
      obtain ⟨o1, rfl, ho1, hst⟩ := hcut
      replace ho1 := hide ho1
      go_upto_if 32 with fail
      go_cut [] (fun wx => ∃ xs, xs.length = M ∧ RowsQ4 15 xs ∧ M12 w g B7 A5 (.slice A7 M c7) ls xs wx)
      case first =>
        cases o1 with
        | false =>
          go_wp2_with fail
          go_meet
          exact ⟨xs, hM.out, hxB, hst⟩
        | true =>
          have hx0 := ho1.out rfl
          go_wp2_with fail
          refine (next_walk w.heap.size g (M : Int) (by omega) _ hst.dice).mono ?_
          rintro e w7 ⟨k, rfl, p1, q1, -, T7, -⟩
          have q1 := q1 (by omega)
          obtain ⟨k, rfl⟩ := Int.eq_ofNat_of_zero_le p1
          have hkl : k < xs.length := by rw [hM.out]; omega
          have hst7 := hst.on hg hgB T7
          clear hst T7
          go_wp2_with fail
          refine (next_walk w.heap.size g 4 (by omega) _ hst7.dice).mono ?_
          rintro e w8 ⟨j, rfl, p2, q2, -, T8, -⟩
          have q2 := q2 (by omega)
          obtain ⟨j, rfl⟩ := Int.eq_ofNat_of_zero_le p2
          have hst8 := hst7.on hg hgB T8
          clear hst7 T8
          obtain ⟨x, hx⟩ : ∃ x, xs[k]? = some x := ⟨_, List.getElem?_eq_getElem hkl⟩
          obtain ⟨hxl2, hxz⟩ := hrx.out x (List.mem_of_getElem? hx)
          obtain ⟨z, hz⟩ : ∃ z, x[j]? = some z := ⟨_, List.getElem?_eq_getElem (by omega)⟩
          have hzz := hxz z (List.mem_of_getElem? hz)
          obtain ⟨fg, c7', F, cF, e7, -, hfB, hfl, r0, -, hF⟩ := hst8.rows.row_at hx
          obtain ⟨sb, so, rfl, hsS, hsl, r1⟩ := hF.str hz
          have hsB : B7 ≤ sb := by rcases hsS with h | h; exact absurd h (Nat.not_lt_zero _); exact h.1
          have hty : TyAt [9] w8 sb := by rcases hsS with h | h; exact absurd h (Nat.not_lt_zero _); exact h.2
          injection e7 with e7 e9 e8
          clear e9
          subst e7
          subst e8
          rw [hxl2] at r0
          have hsp : SpQ w g B7 A5 (.slice (some ⟨fg, 0, none⟩) M c7) ls xs fg k sb so j cF z w8 := ⟨hst8, ⟨r0, r1⟩, hty⟩
          have hspd := hsp.drew
          have hcd := hsp.cells
          have hcdd := hcd.drew
          have hsc := hide (fun (V : World) (hV : SpQ w g B7 A5 (.slice (some ⟨fg, 0, none⟩) M c7) ls xs fg k sb so j cF z V) => (spoil_walk w.heap.size g z ⟨#[48, 49, 50, 57, 59, 58, 47, 45, 46, 32, 77, 65]⟩ (by decide) (by decide) (by omega) V hV.st.dice).mono fun e V' ⟨r, he, hr, T'⟩ => (by
            have hs' := hV.on hg hgB (by omega) (by omega) T'
            exact ⟨r, he, by omega, hs'.cells, hs', hs'.ty.free _⟩ : SpQEnd w g B7 A5 (.slice (some ⟨fg, 0, none⟩) M c7) ls xs fg k sb so j cF z e V'))
          have f0 := hty.free (so + j)
          have hk0 : (0 : Int) ≤ (k : Int) := by omega
          have hk1 : (k : Int) < (M : Int) := by omega
          have hj0 : (0 : Int) ≤ (j : Int) := by omega
          have hj1 : (j : Int) < 4 := by omega
          have hfs : fg ≠ sb := by
            intro e
            subst e
            obtain ⟨vss, -, hr2, -⟩ := hst8.rows
            rcases hr2.2 with ⟨h, _⟩ | ⟨g', cap, cur, h, _, hgg, _⟩
            · injection h with h; cases h
            · injection h with h
              injection h with h
              injection h with h
              subst h
              obtain ⟨cs, t, hc, ht⟩ := hty
              rw [hgg] at hc
              injection hc with h1
              injection h1 with _ h2
              rw [← h2] at ht
              exact absurd ht (by decide)
          clear hx hz hst8 hF hsS hxl2 hxz
          go_wp2_with fail
          go_region_law (first | (go_simp; go_at_call 14; (with_reducible refine (hsc.out _ ?_).mono ?_); (repeat (first | (with_reducible assumption) | (with_reducible refine SpQ.alloc ?_ _) | (with_reducible refine SpQ.drew ?_))); rintro e w9 ⟨r, rfl, hr, ⟨y0, y1⟩, hs9, f9⟩))
          all_goals
            have hst9 := hs9.st.store (o := so + j) (z := r) (n := 15) hg hgB hs9.ty hsB hxB hr
            clear hsc hsp hspd hcd hcdd y0 y1
            go_wp2_with fail
            go_meet
            obtain ⟨xs', hlx, hxB', hst'⟩ := hst9
            exact ⟨xs', by rw [hlx, hM.out], hxB', by first | exact hst' | exact hst'.drew⟩
      case rest =>
        clear hst hxB hrx ho1 hM xs
        obtain ⟨xs, hM, hxB, hst⟩ := hcut
        replace hM := hide hM
        go_wp2_with fail
        rename World => wd
        refine (one_walk w.heap.size g 2 (by omega) (by omega) _ hst.dice).mono ?_
        rintro e w7 ⟨o3, rfl, T7⟩
        have hst7 := hst.on hg hgB T7
        clear T7 hst
        go_upto_if 55 with fail
        go_cut [4] (fun s4 wx => ∃ A5 c5 ls, L12 w g s4 (.slice A7 M c7) xs A5 c5 ls wx)
        case first =>
          cases o3 with
          | false =>
            go_wp2_with fail
            go_meet
            exact ⟨A5, c5, ls, rfl, by omega, hl2.out, hcap, hst7.dice, hst7.below, hst7.currs.more fun b hb => hb.1, ⟨B7, hst7.rows⟩⟩
          | true =>
            have hod := oddReq_walk w.heap.size g A5 ls c5 w7 hst7.dice hl3 hl2.out (hst7.currs.more fun b hb => hb.1)
            go_wp2_with fail
            refine hod.mono ?_
            clear hod
            rintro e w8 ⟨v', ls', rfl, hl5, ht5, hown', T8⟩
            have hst8 := hst7.on hg hgB T8
            obtain ⟨A9, c9, rfl, hc9, hat9⟩ := hown'.any
            clear hst7 T8 hown'
            go_wp2_with fail
            go_meet
            exact ⟨A9, c9, ls', rfl, hl5, ht5, hc9, hst8.dice, hst8.below, reqs_off hst8.dice hat9.any, ⟨B7, hst8.rows⟩⟩
        case rest =>
          clear hst7 hl2 hl3 hcap o3
          obtain ⟨A5, c5, ls, rfl, hl4, hl3, hcap, hDc, hbw, hreq, ⟨B8, hrow⟩⟩ := hcut
          have hpl := plain_walk A7 xs c7 wc (by
            have := lists_in_of_at (hrow.any')
            exact this) (by have := hxB.1; omega) (fun x hx => ⟨by have := (hxB.2 x hx).1; omega, fun z hz => by have := (hxB.2 x hx).2 z hz; omega⟩)
          rw [hM.out] at hpl
          have hgc := hDc.lt
          clear hrow
          go_wp2_with fail
          refine hpl.mono ?_
          clear hpl
          rintro e w9 ⟨v8, rfl, hR, hb9⟩
          obtain ⟨A8, c8, rfl⟩ : ∃ A8 c8, v8 = .slice A8 M c8 := by obtain ⟨us, -, h, -⟩ := hR; have := owns_form h; rw [plainR_len, hM.out] at this; exact this
          have hby := ext_trans hbw hb9
          have hD9 := hDc.later hb9
          have hreq9 := hreq.later hb9
          clear hreq hDc hbw hb9
          go_wp2_with fail
          refine (next_walk w.heap.size g 6 (by omega) w9 hD9).mono ?_
          rintro e w10 ⟨q, rfl, p1, q1, -, T10, -⟩
          have q1 := q1 (by omega)
          obtain ⟨q, rfl⟩ := Int.eq_ofNat_of_zero_le p1
          have hR10 := hR.thrown T10 hgc
          have hreq10 := hreq9.tossed (fun _ hb => hb) T10
          have hbz := T10.ext hby hg
          have w48 : IntKind.u8.wrap (48 + (q : Int)) = 48 + (q : Int) := by simp [IntKind.wrap, IntKind.bits, IntKind.signed]; omega
          have w48b : IntKind.i64.wrap (48 + (q : Int)) = 48 + (q : Int) := by rw [IntKind.wrap_i64]; omega
          have hbx : Below w10.heap.size w10 (w10.alloc (.cells #[.int .u8 (48 + (q : Int))] 5)) := ext_alloc (Below.refl _ _) _
          have hcv := conv_cell q (by omega) (V := w10.alloc (.cells #[.int .u8 (48 + (q : Int))] 5)) (nb := w10.heap.size) (by rw [cell_of_row _ _ _ _ _ _ (heap_alloc_new w10 _)]; rfl) 1
          have hex := fun (st : ByteArray) => exact12_walk A5 ls c5 A8 (plainR 1 xs) c8 st (w10.alloc (.cells #[.int .u8 (48 + (q : Int))] 5)) (hS.after (ext_trans hbz hbx)) hcap (by omega) (fun x hx => by obtain ⟨h1, h2⟩ := hl3 x hx; omega) (hreq10.any.later hbx) (recs_at (hR10.later hbx)) (by rw [plainR_len]; have := hxB.1; omega) (fun r hr f hf => by have := plainR_sizes (fun x hx => (hxB.2 x hx).2) r hr f hf; omega)
          rw [plainR_len, hM.out] at hex
          have hbA := ext_trans hbz hbx
          clear hR hR10 hreq9 hreq10 hD9 T10 hby hbz hbx
          replace hex := hide hex
          go_wp2_with fail
          refine (hex.out _).mono ?_
          clear hex
          rintro e w11 ⟨rfl, hb11⟩
          go_wp2
          go_ret
          exact ⟨rfl, ext_trans hbA hb11⟩
  · have hd400 : decide (n ≤ 400) = false := by simpa using hn
    go_enter Tryz.func3, Tryz.ntmps3
    go_wp2_with (go_at_call 5; refine (light_walk _ _ _ _).mono ?_; rintro e w' ⟨rfl, rfl⟩)
    refine (awake12_walk w hS).mono ?_
    rintro e w1 ⟨rfl, hb1⟩
    go_wp2
    go_ret
    exact ⟨rfl, hb1⟩
end Go.Proofs.YthejgholpkeldaaGreatDoor
