/- Walks of the reference's lists of selections. Conditions: the reader's cells are as RdyAt or RBad say; the words of the selections are as Lvs says. Walks of the reference's selections: parts joined by 'or'. Conditions: the reader's cells are as RdyAt or RBad say; the words of the selections are as Lvs says. Walk of the reference's atoms. Conditions: the reader's cells are as RdyAt says; the words of the selections are as Lvs says. Walk of the reference's brackets. Conditions: the reader's cells are as RdyAt or RBad say. -/
import Derived.Test.YtdnnahdafhddlaaGreatDoorYSynB
namespace Go.Proofs.YtdnnahdafhddlaaGreatDoor
open Go.RowKit
set_option maxRecDepth 100000

/-- What the reference's words of the selections hold. -/
def Lvs (w : World) : Prop := ∃ t r, w.heap[(1 : Nat)]? = some (.cells (selWs.map Value.string).toArray t r)
theorem Lvs.only {w w' : World} {g : Nat} (h : Lvs w) (ho : Only g w w') (hg : 12 ≤ g) : Lvs w' := by obtain ⟨t, r, hr⟩ := h; exact ⟨t, r, (ho.block _ (blk_lt hr) (by intro e; injection e with e; omega)).trans hr⟩
theorem Lvs.alloc {w : World} (h : Lvs w) (o : Obj) : Lvs (w.alloc o) := by obtain ⟨t, r, hr⟩ := h; exact ⟨t, r, (Below.heap_alloc _ _ _ (blk_lt hr)).trans hr⟩
theorem Lvs.cell {w : World} (h : Lvs w) {i : Nat} {x : ByteArray} (hx : selWs[i]? = some x) : w.cell? ⟨1, i, none⟩ = some (.string x) := by
  obtain ⟨t, r, hr⟩ := h
  rw [cell_of_row w _ _ _ _ _ hr]
  simp [hx]
theorem RBad.same {w w' : World} {g e : Nat} {t : ByteArray} {y : Nat × Int} (h : RBad w g t e y) (hg : w'.heap[g]? = w.heap[g]?) : RBad w' g t e y := by obtain ⟨p, x, f, h1, h2⟩ := h; exact ⟨p, x, f, hg.trans h1, h2⟩
theorem RdyAt.same {w w' : World} {g e a : Nat} {t : ByteArray} (h : RdyAt w g t e a) (hg : w'.heap[g]? = w.heap[g]?) : RdyAt w' g t e a := by
  cases hl : lookT t e a with
  | bad b => exact rdy_bad hl ((rdy_is_bad hl h).same hg)
  | tok x p => obtain ⟨h1, h2, h3, h4⟩ := rdy_is_tok hl h; exact rdy_tok hl rfl (hg.trans h1) h2 h4
/-- The result's cells are written: all else stays as it is. -/
theorem rsel_done {w we : World} {g r B : Nat} {u0 u1 u2 : Value} {s : Sel} {k : Int} {n : ByteArray} {A : Option Addr} {m c : Nat} (hor : Only g w we) (hr : w.heap.size = r) (hgr : g < r) (hrB : r < B)
    (hrw : we.heap[r]? = some (.cells #[u0, u1, u2] 40 (0, 0))) (hrep : kSel.rep (fun b => B ≤ b) we s [.int .i64 k, .string n, .slice A m c]) :
    (((we.setCell ⟨r, 0, none⟩ (.int .i64 k)).setCell ⟨r, 1, none⟩ (.string n)).setCell ⟨r, 2, none⟩ (.slice A m c)).heap[r]? = some (.cells #[.int .i64 k, .string n, .slice A m c] 40 (0, 0)) ∧
      (((we.setCell ⟨r, 0, none⟩ (.int .i64 k)).setCell ⟨r, 1, none⟩ (.string n)).setCell ⟨r, 2, none⟩ (.slice A m c)).heap[g]? = we.heap[g]? ∧
      Only g w (((we.setCell ⟨r, 0, none⟩ (.int .i64 k)).setCell ⟨r, 1, none⟩ (.string n)).setCell ⟨r, 2, none⟩ (.slice A m c)) ∧
      vSel w (((we.setCell ⟨r, 0, none⟩ (.int .i64 k)).setCell ⟨r, 1, none⟩ (.string n)).setCell ⟨r, 2, none⟩ (.slice A m c)) s (.agg #[.int .i64 k, .string n, .slice A m c]) := by
  refine ⟨sel_set hrw _ _ _, ?_⟩
  have h1 : Only g w (we.setCell ⟨r, 0, none⟩ (.int .i64 k)) := only_setCell hor (.inr (Nat.le_of_eq hr)) _
  have h2 : Only g w ((we.setCell ⟨r, 0, none⟩ (.int .i64 k)).setCell ⟨r, 1, none⟩ (.string n)) := only_setCell h1 (.inr (Nat.le_of_eq hr)) _
  have h3 : Only g w (((we.setCell ⟨r, 0, none⟩ (.int .i64 k)).setCell ⟨r, 1, none⟩ (.string n)).setCell ⟨r, 2, none⟩ (.slice A m c)) := only_setCell h2 (.inr (Nat.le_of_eq hr)) _
  have hsz : (((we.setCell ⟨r, 0, none⟩ (.int .i64 k)).setCell ⟨r, 1, none⟩ (.string n)).setCell ⟨r, 2, none⟩ (.slice A m c)).heap.size = we.heap.size := by simp [World.setCell]
  have hblk : ∀ b, b ≠ r → (((we.setCell ⟨r, 0, none⟩ (.int .i64 k)).setCell ⟨r, 1, none⟩ (.string n)).setCell ⟨r, 2, none⟩ (.slice A m c)).heap[b]? = we.heap[b]? := fun b hne =>
    (Below.heap_setCell _ ⟨r, 2, none⟩ _ b hne).trans ((Below.heap_setCell _ ⟨r, 1, none⟩ _ b hne).trans (Below.heap_setCell _ ⟨r, 0, none⟩ _ b hne))
  exact ⟨hblk g (by omega), h3, k, n, A, m, c, rfl, kSel.kept hrep fun b hs hlt => ⟨by omega, by rw [hsz]; exact hlt, hblk b (by omega)⟩⟩
def lenS : Value → Nat
  | .slice _ n _ => n
  | _ => 0
theorem serP_tie {t : ByteArray} {e : Nat} {pp : Nat → Res Sel} {k : ByteArray} {kind : Int} {a : Nat} : (match pp a with | .error y => .error y | .ok (s, c) => moreP t e pp k kind (t.size + 1) ([] ++ [s]) c) = serP t e pp k kind a := rfl
/-- What the atoms' reader of the reference does, as far as a line goes. -/
def AtomRAt (f : Nat) : Prop := ∀ (g : Nat) (t : ByteArray) (e a : Nat) (w : World), RdyAt w g t e a → a ≤ t.size → t.size + e < 1073741824 → 12 ≤ g → Lvs w → t.size - a < f →
  Calls Tryz.prog 192 #[.pointer (some ⟨g, 0, none⟩)] w fun en w' => RmG g t e vSel (atomP codeB selWs t e f a) w en w'
/-- A reader of selections that finds an error noted returns something. -/
def IdleG (g : Nat) (t : ByteArray) (e : Nat) (y : Nat × Int) (w : World) (en : Ending) (w' : World) : Prop := Only g w w' ∧ RBad w' g t e y ∧ ∃ s v, vSel w w' s v ∧ en = .returned v
set_option maxHeartbeats 2000000 in
theorem ratom_bad (g : Nat) (t : ByteArray) (e : Nat) (y : Nat × Int) (w : World) (h : RBad w g t e y) :
    Calls Tryz.prog 192 #[.pointer (some ⟨g, 0, none⟩)] w fun en w' => IdleG g t e y w en w' := by
  obtain ⟨W, hW⟩ : ∃ W, w.alloc (.cells #[.int .i64 0, .string ⟨#[]⟩, .slice none 0 0] 40) = W := ⟨_, rfl⟩
  obtain ⟨r, hr⟩ : ∃ r, w.heap.size = r := ⟨_, rfl⟩
  have hgr := h.lt
  have hb1 : Below w.heap.size w W := by rw [← hW]; exact ext_alloc (Below.refl _ _) _
  have h1 := h.later hb1
  have ho1 : Only g w W := only_of_below hb1 _
  have hr1 : W.heap[r]? = some (.cells #[.int .i64 0, .string ⟨#[]⟩, .slice none 0 0] 40 (0, 0)) := by rw [← hW, ← hr]; exact heap_alloc_new _ _
  have hrep : kSel.rep (fun b => r + 1 ≤ b) W (.mk 0 ⟨#[]⟩ []) [.int .i64 0, .string ⟨#[]⟩, .slice none 0 0] := rep_sel.2 ⟨none, 0, rfl, Nat.le_refl _, fun h => absurd h (Nat.lt_irrefl 0)⟩
  rw [hr] at hgr
  obtain ⟨z0, zg, zo, zv⟩ := rsel_done ho1 hr hgr (Nat.lt_succ_self r) hr1 hrep
  have hdone := hide (show IdleG g t e y w (.returned _) _ from ⟨zo, h1.same zg, _, _, zv, rfl⟩)
  obtain ⟨z1, z2, z3, -⟩ := sel_cells z0
  obtain ⟨y0, y1, y2, hfr⟩ := sel_cells hr1
  have fr0 := hfr 0
  have fr1 := hfr 1
  have fr2 := hfr 2
  have hrl := blk_lt hr1
  obtain ⟨p, x, f, hrr, h0, -⟩ := h1
  have hg := rgood_walk g t e p x f _ _ W hrr
  rw [show (y.2 == 0) = false from by rw [beq_eq_false_iff_ne]; exact h0] at hg
  clear hfr z0 zg zo zv hrep hr1 hrr h0 h ho1 hb1
  go_enter Tryz.func192, Tryz.ntmps192
  go_wp2_with (go_at_call 100; refine hg.mono ?_; rintro en w' ⟨rfl, rfl⟩)
  exact end_sel rfl r _ _ _ rfl rfl z1 z2 z3 hdone.out
-- <list>
set_option maxHeartbeats 4000000 in
theorem rlistA_bad (g : Nat) (t : ByteArray) (e : Nat) (y : Nat × Int) (w : World) (h : RBad w g t e y) :
    Calls Tryz.prog 153 #[.pointer (some ⟨g, 0, none⟩), .int .i64 8] w fun en w' => IdleG g t e y w en w' := by
  have hgr := h.lt
  obtain ⟨W, hW⟩ : ∃ W, w.alloc (.cells #[.int .i64 0, .string ⟨#[]⟩, .slice none 0 0] 40) = W := ⟨_, rfl⟩
  obtain ⟨r, hr⟩ : ∃ r, w.heap.size = r := ⟨_, rfl⟩
  have hb1 : Below w.heap.size w W := by rw [← hW]; exact ext_alloc (Below.refl _ _) _
  have h1 := h.later hb1
  have ho1 : Only g w W := only_of_below hb1 _
  have hr1 : W.heap[r]? = some (.cells #[.int .i64 0, .string ⟨#[]⟩, .slice none 0 0] 40 (0, 0)) := by rw [← hW, ← hr]; exact heap_alloc_new _ _
  have hpart := ratom_bad g t e y W h1
  obtain ⟨B, hB⟩ : ∃ B, W.heap.size = B := ⟨_, rfl⟩
  have hrB : r < B := by rw [← hB]; exact blk_lt hr1
  rw [hr] at hgr
  obtain ⟨l, hl⟩ : ∃ l : List Sel, l = [] := ⟨_, rfl⟩
  clear hb1 h h1
  go_enter Tryz.func153, Tryz.ntmps153
  go_wp2_with fail
  replace hB := hide hB
  replace hW := hide hW
  replace hr := hide hr
  go_loopw [5] (fun v wr => v = .slice none 0 0 ∧ wr = W) (fun _ _ => 0)
  case atStart => exact ⟨rfl, rfl⟩
  case round =>
    obtain ⟨rfl, rfl⟩ := hrel
    go_wp2_with fail
    refine hpart.mono ?_
    rintro en w3 ⟨ho6, hstate, s, v, ⟨k1, n1, A1, m1, c1, rfl, hrep⟩, rfl⟩
    have ho3 : Only g wr wr := Only.refl _ _
    have hown : OwnS B wr (.slice none 0 0) l := by subst hl; exact OwnS.nil
    have hl0 : l.length ≤ 5 := by subst hl; exact Nat.zero_le _
    clear hl
    obtain ⟨u5, hu5⟩ : ∃ u5, Value.slice none 0 0 = u5 := ⟨_, rfl⟩
    rw [hu5] at hown ⊢
    replace hu5 := hide hu5
    (
                have hlt4 := hown.lt
                have hgB : g < B := by omega
                have hown7 := hown.only ho6 hgB
                have hszB : B ≤ wr.heap.size := by have q1 := ho3.size; have q2 := hB.out; omega
                have hrep7 : kSel.rep (fun b => B ≤ b ∧ some b ≠ u5.ownBlock) w3 s [.int .i64 k1, .string n1, .slice A1 m1 c1] := kSel.more hrep fun b hb => ⟨Nat.le_trans hszB hb, fun e => by have := (hlt4 b e.symm).2; omega⟩
                have hb8 : Below w3.heap.size w3 (w3.alloc (.cells #[.int .i64 k1, .string n1, .slice A1 m1 c1] 40)) := ext_alloc (Below.refl _ _) _
                have ho8 := Only.later (ho3.trans ho6) hb8
                have hown8 := hown7.later hb8
                have hrep8 := kSel.later hrep7 hb8
                have hl4 : l.length ≤ 4000000000 := by omega
                have hB8 : B ≤ (w3.alloc (.cells #[.int .i64 k1, .string n1, .slice A1 m1 c1] 40)).heap.size := by
                  have h1 := (ho3.trans ho6).size
                  have h2 := hB.out
                  rw [World.size_alloc]; omega
                have h8 := hstate.later hb8
                clear hrep hrep7 hown7 hown hstate ho6
                replace h8 := hide h8
                replace ho8 := hide ho8
                go_wp2_with (at_builtin; refine wpList_ownS rfl _ _ rfl rfl hown8 hl4 ⟨w3.heap.size, 0, none⟩ 1 rfl s [.int .i64 k1, .string n1, .slice A1 m1 c1] hrep8 (World.news_of_block (cs := #[.int .i64 k1, .string n1, .slice A1 m1 c1]) (t := 40) (fr := (0, 0)) (heap_alloc_new _ _)) hB8 ?_; rintro v' w9 hown9 hg9 ⟨g9, cap9, rfl⟩)
                have hg10 : World.grownBy _ w9 u5.ownBlock := hg9
                have hrow10 : ∀ y, u5.ownBlock = some y → g < y := fun y hy => Nat.lt_of_lt_of_le hgB (hlt4 y hy).1
                have h10 := h8.out.grown hg10 hrow10
                have ho10 := only_grown ho8.out hg10 (fun y hy => by rw [hB.out]; exact (hlt4 y hy).1)
                have hor9 := ho1.trans ho10
                have hr9 : w9.heap[r]? = _ := (ho10.block r (blk_lt hr1) (by intro e; injection e with e; omega)).trans hr1
                clear hg9 hg10 h8 ho8 hown8 hrep8 hB8 hb8 hrow10)
    have hfin : Hid (∀ W' v, W'.heap[g]? = w9.heap[g]? → Only g w W' → vSel w W' (oneOf 8 (l ++ [s])) v → IdleG g t e y w (.returned v) W') := hide fun W' v q1 q2 q3 => ⟨q2, h10.same q1, _, _, q3, rfl⟩
    obtain ⟨p, x, f, hrr, h0, -⟩ := id h10
    have hg := rgood_walk g t e p x f _ _ w9 hrr
    rw [show (y.2 == 0) = false from by rw [beq_eq_false_iff_ne]; exact h0] at hg
    clear hrr h0 h10
    go_upto_region 10 with (go_at_call 100; refine hg.mono ?_; rintro en w' ⟨rfl, rfl⟩)
    (
          obtain ⟨A9, c9, he9, hc9, hA9⟩ := hown9.at
          obtain ⟨M, hM⟩ : ∃ M, l.length + 1 = M := ⟨_, rfl⟩
          have hM2 : (l ++ [s]).length = M := by rw [← hM, List.length_append]; rfl
          rw [hM2, hM] at he9
          rw [hM2] at hc9
          injection he9 with he1 _ he3
          subst he1
          subst he3
          obtain ⟨y0, y1, y2, hfr⟩ := sel_cells hr9
          have fr0 := hfr 0
          have fr1 := hfr 1
          have fr2 := hfr 2
          have hrl9 := blk_lt hr9
          rw [hM]
          clear hfr
          by_cases hM1 : M = 1
          · subst hM1
            obtain rfl : l = [] := List.eq_nil_of_length_eq_zero (by omega)
            obtain ⟨b9, off, vs, he, hb9, hbl9, hrep, hcs⟩ := hA9.get (j := 0) rfl
            injection he with he
            injection he with he1 he2
            subst he1
            subst he2
            obtain ⟨k9, n9, A8, m8, c8, rfl⟩ := SelRep.form hrep
            have q0 := hcs 0 _ rfl
            have q1 := hcs 1 _ rfl
            have q2 := hcs 2 _ rfl
            have hne : g9 ≠ r := by omega
            simp only [Nat.zero_mul, Nat.add_zero, Nat.zero_add] at q0 q1 q2
            obtain ⟨z0, zg, zo, zv⟩ := rsel_done hor9 hr.out hgr hrB hr9 hrep
            have hdone := hide (hfin.out _ _ zg zo zv)
            obtain ⟨z1, z2, z3, -⟩ := sel_cells z0
            clear hcs hrep z0 zg zo zv hown9 hA9 hr9 hfin hM2 hM
            go_wp2
            exact end_sel rfl r _ _ _ rfl rfl z1 z2 z3 hdone.out
          · have hrep : kSel.rep (fun b => B ≤ b) w9 (oneOf 8 (l ++ [s])) [.int .i64 8, .string ⟨#[]⟩, .slice (some ⟨g9, 0, none⟩) M cap9] := by
              have e1 : oneOf 8 (l ++ [s]) = .mk 8 ⟨#[]⟩ (l ++ [s]) := by
                match l, hM, hM1 with
                | [], hM, hM1 => exact absurd hM.symm hM1
                | x :: r, _, _ => cases r <;> rfl
              rw [e1]
              exact rep_sel.2 ⟨_, _, by rw [hM2], by rw [hM2]; exact hc9, hA9⟩
            obtain ⟨z0, zg, zo, zv⟩ := rsel_done hor9 hr.out hgr hrB hr9 hrep
            have hdone := hide (hfin.out _ _ zg zo zv)
            obtain ⟨z1, z2, z3, -⟩ := sel_cells z0
            have hm1 : ((M : Int) == 1) = false := by rw [beq_eq_false_iff_ne]; omega
            clear hrep z0 zg zo zv hown9 hA9 hr9 hfin hM2 hM hM1
            go_wp2
            exact end_sel rfl r _ _ _ rfl rfl z1 z2 z3 hdone.out)

set_option maxHeartbeats 8000000 in
theorem rlistA_walk (n0 : Nat) (hA : AtomRAt n0) (g : Nat) (t : ByteArray) (e a : Nat) (w : World) (h : RdyAt w g t e a) (ha : a ≤ t.size) (hs : t.size + e < 1073741824) (hgN : 12 ≤ g) (hL : Lvs w) (hf : t.size - a < n0) :
    Calls Tryz.prog 153 #[.pointer (some ⟨g, 0, none⟩), .int .i64 8] w fun en w' => RmG g t e vSel (serP t e (atomP codeB selWs t e n0) xAnd 8 a) w en w' := by
  have hpart := hide (fun (V : World) (b : Nat) (hV : RdyAt V g t e b) (hab : a ≤ b) (hb : b ≤ t.size) (hLV : Lvs V) => hA g t e b V hV hb hs hgN hLV (by omega))
  have hmono := hide (atomP_le n0 (ok := codeB) (ws := selWs) (t := t) (e := e))
  obtain ⟨pp, hpp⟩ : ∃ pp, atomP codeB selWs t e n0 = pp := ⟨_, rfl⟩
  rw [hpp] at hpart hmono ⊢
  have hgr := h.lt
  obtain ⟨W, hW⟩ : ∃ W, w.alloc (.cells #[.int .i64 0, .string ⟨#[]⟩, .slice none 0 0] 40) = W := ⟨_, rfl⟩
  obtain ⟨r, hr⟩ : ∃ r, w.heap.size = r := ⟨_, rfl⟩
  have hb1 : Below w.heap.size w W := by rw [← hW]; exact ext_alloc (Below.refl _ _) _
  have h1 := h.later hb1
  have hL1 : Lvs W := by rw [← hW]; exact hL.alloc _
  have ho1 : Only g w W := only_of_below hb1 _
  have hr1 : W.heap[r]? = some (.cells #[.int .i64 0, .string ⟨#[]⟩, .slice none 0 0] 40 (0, 0)) := by rw [← hW, ← hr]; exact heap_alloc_new _ _
  obtain ⟨B, hB⟩ : ∃ B, W.heap.size = B := ⟨_, rfl⟩
  have hrB : r < B := by rw [← hB]; exact blk_lt hr1
  rw [hr] at hgr
  clear hb1 h hA hpp
  go_enter Tryz.func153, Tryz.ntmps153
  go_wp2_with fail
  replace hB := hide hB
  replace hW := hide hW
  replace hr := hide hr
  go_loopw [5] (fun v wr => ∃ (l : List Sel) (b n : Nat), OwnS B wr v l ∧ RdyAt wr g t e b ∧ Only g W wr ∧ b ≤ t.size ∧ a ≤ b ∧ l.length ≤ b ∧ t.size - b < n ∧ Hid ((match pp b with | .error y => .error y | .ok (s, c) => moreP t e pp xAnd 8 n (l ++ [s]) c) = serP t e pp xAnd 8 a)) (fun v _ => t.size + 1 - lenS v)
  case atStart => exact ⟨[], a, t.size + 1, OwnS.nil, h1, Only.refl _ _, ha, Nat.le_refl _, Nat.zero_le _, by omega, hide serP_tie⟩
  case round =>
    clear h1
    obtain ⟨l, b, n, hown, h3, ho3, hbl, hab, hll, hn, hR⟩ := hrel
    have h4 := hpart.out wr b h3 hab hbl (hL1.only ho3 hgN)
    go_wp2_with fail
    refine h4.mono ?_
    rintro en w3 ⟨ho6, hm⟩
    clear h4
    cases hp : pp b with
    | error y =>
      rw [hp] at hm
      obtain ⟨hstate, s, v, ⟨k1, n1, A1, m1, c1, rfl, hrep⟩, rfl⟩ := hm
      have hR2 : Hid (serP t e pp xAnd 8 a = .error y) := by rw [hp] at hR; exact hide hR.out.symm
      clear hR hp h3
      (
                  have hlt4 := hown.lt
                  have hgB : g < B := by omega
                  have hown7 := hown.only ho6 hgB
                  have hszB : B ≤ wr.heap.size := by have q1 := ho3.size; have q2 := hB.out; omega
                  have hrep7 : kSel.rep (fun b => B ≤ b ∧ some b ≠ u5.ownBlock) w3 s [.int .i64 k1, .string n1, .slice A1 m1 c1] := kSel.more hrep fun b hb => ⟨Nat.le_trans hszB hb, fun e => by have := (hlt4 b e.symm).2; omega⟩
                  have hb8 : Below w3.heap.size w3 (w3.alloc (.cells #[.int .i64 k1, .string n1, .slice A1 m1 c1] 40)) := ext_alloc (Below.refl _ _) _
                  have ho8 := Only.later (ho3.trans ho6) hb8
                  have hown8 := hown7.later hb8
                  have hrep8 := kSel.later hrep7 hb8
                  have hl4 : l.length ≤ 4000000000 := by omega
                  have hB8 : B ≤ (w3.alloc (.cells #[.int .i64 k1, .string n1, .slice A1 m1 c1] 40)).heap.size := by
                    have h1 := (ho3.trans ho6).size
                    have h2 := hB.out
                    rw [World.size_alloc]; omega
                  have h8 := hstate.later hb8
                  clear hrep hrep7 hown7 hown hstate ho6
                  replace h8 := hide h8
                  replace ho8 := hide ho8
                  go_wp2_with (at_builtin; refine wpList_ownS rfl _ _ rfl rfl hown8 hl4 ⟨w3.heap.size, 0, none⟩ 1 rfl s [.int .i64 k1, .string n1, .slice A1 m1 c1] hrep8 (World.news_of_block (cs := #[.int .i64 k1, .string n1, .slice A1 m1 c1]) (t := 40) (fr := (0, 0)) (heap_alloc_new _ _)) hB8 ?_; rintro v' w9 hown9 hg9 ⟨g9, cap9, rfl⟩)
                  have hg10 : World.grownBy _ w9 u5.ownBlock := hg9
                  have hrow10 : ∀ y, u5.ownBlock = some y → g < y := fun y hy => Nat.lt_of_lt_of_le hgB (hlt4 y hy).1
                  have h10 := h8.out.grown hg10 hrow10
                  have ho10 := only_grown ho8.out hg10 (fun y hy => by rw [hB.out]; exact (hlt4 y hy).1)
                  have hor9 := ho1.trans ho10
                  have hr9 : w9.heap[r]? = _ := (ho10.block r (blk_lt hr1) (by intro e; injection e with e; omega)).trans hr1
                  clear hg9 hg10 h8 ho8 hown8 hrep8 hB8 hb8 hrow10)
      have hfin : Hid (∀ W' v, W'.heap[g]? = w9.heap[g]? → Only g w W' → vSel w W' (oneOf 8 (l ++ [s])) v → RmG g t e vSel (serP t e pp xAnd 8 a) w (.returned v) W') := hide fun W' v q1 q2 q3 => RmG.err hR2.out q2 (h10.same q1) q3
      obtain ⟨p, x, f, hrr, h0, -⟩ := id h10
      have hg := rgood_walk g t e p x f _ _ w9 hrr
      rw [show (y.2 == 0) = false from by rw [beq_eq_false_iff_ne]; exact h0] at hg
      clear hrr h0 h10 hR2
      go_upto_region 10 with (go_at_call 100; refine hg.mono ?_; rintro en w' ⟨rfl, rfl⟩)
      (
            obtain ⟨A9, c9, he9, hc9, hA9⟩ := hown9.at
            obtain ⟨M, hM⟩ : ∃ M, l.length + 1 = M := ⟨_, rfl⟩
            have hM2 : (l ++ [s]).length = M := by rw [← hM, List.length_append]; rfl
            rw [hM2, hM] at he9
            rw [hM2] at hc9
            injection he9 with he1 _ he3
            subst he1
            subst he3
            obtain ⟨y0, y1, y2, hfr⟩ := sel_cells hr9
            have fr0 := hfr 0
            have fr1 := hfr 1
            have fr2 := hfr 2
            have hrl9 := blk_lt hr9
            rw [hM]
            clear hfr
            by_cases hM1 : M = 1
            · subst hM1
              obtain rfl : l = [] := List.eq_nil_of_length_eq_zero (by omega)
              obtain ⟨b9, off, vs, he, hb9, hbl9, hrep, hcs⟩ := hA9.get (j := 0) rfl
              injection he with he
              injection he with he1 he2
              subst he1
              subst he2
              obtain ⟨k9, n9, A8, m8, c8, rfl⟩ := SelRep.form hrep
              have q0 := hcs 0 _ rfl
              have q1 := hcs 1 _ rfl
              have q2 := hcs 2 _ rfl
              have hne : g9 ≠ r := by omega
              simp only [Nat.zero_mul, Nat.add_zero, Nat.zero_add] at q0 q1 q2
              obtain ⟨z0, zg, zo, zv⟩ := rsel_done hor9 hr.out hgr hrB hr9 hrep
              have hdone := hide (hfin.out _ _ zg zo zv)
              obtain ⟨z1, z2, z3, -⟩ := sel_cells z0
              clear hcs hrep z0 zg zo zv hown9 hA9 hr9 hfin hM2 hM
              go_wp2
              exact end_sel rfl r _ _ _ rfl rfl z1 z2 z3 hdone.out
            · have hrep : kSel.rep (fun b => B ≤ b) w9 (oneOf 8 (l ++ [s])) [.int .i64 8, .string ⟨#[]⟩, .slice (some ⟨g9, 0, none⟩) M cap9] := by
                have e1 : oneOf 8 (l ++ [s]) = .mk 8 ⟨#[]⟩ (l ++ [s]) := by
                  match l, hM, hM1 with
                  | [], hM, hM1 => exact absurd hM.symm hM1
                  | x :: r, _, _ => cases r <;> rfl
                rw [e1]
                exact rep_sel.2 ⟨_, _, by rw [hM2], by rw [hM2]; exact hc9, hA9⟩
              obtain ⟨z0, zg, zo, zv⟩ := rsel_done hor9 hr.out hgr hrB hr9 hrep
              have hdone := hide (hfin.out _ _ zg zo zv)
              obtain ⟨z1, z2, z3, -⟩ := sel_cells z0
              have hm1 : ((M : Int) == 1) = false := by rw [beq_eq_false_iff_ne]; omega
              clear hrep z0 zg zo zv hown9 hA9 hr9 hfin hM2 hM hM1
              go_wp2
              exact end_sel rfl r _ _ _ rfl rfl z1 z2 z3 hdone.out)
    | ok z =>
      obtain ⟨s, c⟩ := z
      rw [hp] at hm
      obtain ⟨hstate, hcl, v, ⟨k1, n1, A1, m1, c1, rfl, hrep⟩, rfl⟩ := hm
      have hbc := hmono.out _ _ _ hp
      obtain ⟨n, rfl⟩ : ∃ m, n = m + 1 := ⟨n - 1, by omega⟩
      have hR2 : Hid (serP t e pp xAnd 8 a = moreP t e pp xAnd 8 (n + 1) (l ++ [s]) c) := by rw [hp] at hR; exact hide hR.out.symm
      have hlw : Hid (lenS u5 = l.length) := hide (by obtain ⟨A5, c5, h5⟩ := hown.form; rw [h5]; rfl)
      clear hR hp h3
      (
                  have hlt4 := hown.lt
                  have hgB : g < B := by omega
                  have hown7 := hown.only ho6 hgB
                  have hszB : B ≤ wr.heap.size := by have q1 := ho3.size; have q2 := hB.out; omega
                  have hrep7 : kSel.rep (fun b => B ≤ b ∧ some b ≠ u5.ownBlock) w3 s [.int .i64 k1, .string n1, .slice A1 m1 c1] := kSel.more hrep fun b hb => ⟨Nat.le_trans hszB hb, fun e => by have := (hlt4 b e.symm).2; omega⟩
                  have hb8 : Below w3.heap.size w3 (w3.alloc (.cells #[.int .i64 k1, .string n1, .slice A1 m1 c1] 40)) := ext_alloc (Below.refl _ _) _
                  have ho8 := Only.later (ho3.trans ho6) hb8
                  have hown8 := hown7.later hb8
                  have hrep8 := kSel.later hrep7 hb8
                  have hl4 : l.length ≤ 4000000000 := by omega
                  have hB8 : B ≤ (w3.alloc (.cells #[.int .i64 k1, .string n1, .slice A1 m1 c1] 40)).heap.size := by
                    have h1 := (ho3.trans ho6).size
                    have h2 := hB.out
                    rw [World.size_alloc]; omega
                  have h8 := hstate.later hb8
                  clear hrep hrep7 hown7 hown hstate ho6
                  replace h8 := hide h8
                  replace ho8 := hide ho8
                  go_wp2_with (at_builtin; refine wpList_ownS rfl _ _ rfl rfl hown8 hl4 ⟨w3.heap.size, 0, none⟩ 1 rfl s [.int .i64 k1, .string n1, .slice A1 m1 c1] hrep8 (World.news_of_block (cs := #[.int .i64 k1, .string n1, .slice A1 m1 c1]) (t := 40) (fr := (0, 0)) (heap_alloc_new _ _)) hB8 ?_; rintro v' w9 hown9 hg9 ⟨g9, cap9, rfl⟩)
                  have hg10 : World.grownBy _ w9 u5.ownBlock := hg9
                  have hrow10 : ∀ y, u5.ownBlock = some y → g < y := fun y hy => Nat.lt_of_lt_of_le hgB (hlt4 y hy).1
                  have h10 := h8.out.grown hg10 hrow10
                  have ho10 := only_grown ho8.out hg10 (fun y hy => by rw [hB.out]; exact (hlt4 y hy).1)
                  have hor9 := ho1.trans ho10
                  have hr9 : w9.heap[r]? = _ := (ho10.block r (blk_lt hr1) (by intro e; injection e with e; omega)).trans hr1
                  clear hg9 hg10 h8 ho8 hown8 hrep8 hB8 hb8 hrow10)
      cases hl : lookT t e c with
      | bad b' =>
        have hz : Hid (serP t e pp xAnd 8 a = .error (b', 5)) := hide (hR2.out.trans (moreP_bad hl))
        have hbd := rdy_is_bad hl h10
        have hfin : Hid (∀ W' v, W'.heap[g]? = w9.heap[g]? → Only g w W' → vSel w W' (oneOf 8 (l ++ [s])) v → RmG g t e vSel (serP t e pp xAnd 8 a) w (.returned v) W') := hide fun W' v q1 q2 q3 => RmG.err hz.out q2 (hbd.same q1) q3
        obtain ⟨p, x, f, hrr, h0, -⟩ := id hbd
        have hg := rgood_walk g t e p x f _ _ w9 hrr
        rw [show ((((b', (5 : Int)) : Nat × Int).2) == 0) = false from rfl] at hg
        clear hrr h0 h10 hR2 hbd hl hz hlw
        go_upto_region 10 with (go_at_call 100; refine hg.mono ?_; rintro en w' ⟨rfl, rfl⟩)
        (
              obtain ⟨A9, c9, he9, hc9, hA9⟩ := hown9.at
              obtain ⟨M, hM⟩ : ∃ M, l.length + 1 = M := ⟨_, rfl⟩
              have hM2 : (l ++ [s]).length = M := by rw [← hM, List.length_append]; rfl
              rw [hM2, hM] at he9
              rw [hM2] at hc9
              injection he9 with he1 _ he3
              subst he1
              subst he3
              obtain ⟨y0, y1, y2, hfr⟩ := sel_cells hr9
              have fr0 := hfr 0
              have fr1 := hfr 1
              have fr2 := hfr 2
              have hrl9 := blk_lt hr9
              rw [hM]
              clear hfr
              by_cases hM1 : M = 1
              · subst hM1
                obtain rfl : l = [] := List.eq_nil_of_length_eq_zero (by omega)
                obtain ⟨b9, off, vs, he, hb9, hbl9, hrep, hcs⟩ := hA9.get (j := 0) rfl
                injection he with he
                injection he with he1 he2
                subst he1
                subst he2
                obtain ⟨k9, n9, A8, m8, c8, rfl⟩ := SelRep.form hrep
                have q0 := hcs 0 _ rfl
                have q1 := hcs 1 _ rfl
                have q2 := hcs 2 _ rfl
                have hne : g9 ≠ r := by omega
                simp only [Nat.zero_mul, Nat.add_zero, Nat.zero_add] at q0 q1 q2
                obtain ⟨z0, zg, zo, zv⟩ := rsel_done hor9 hr.out hgr hrB hr9 hrep
                have hdone := hide (hfin.out _ _ zg zo zv)
                obtain ⟨z1, z2, z3, -⟩ := sel_cells z0
                clear hcs hrep z0 zg zo zv hown9 hA9 hr9 hfin hM2 hM
                go_wp2
                exact end_sel rfl r _ _ _ rfl rfl z1 z2 z3 hdone.out
              · have hrep : kSel.rep (fun b => B ≤ b) w9 (oneOf 8 (l ++ [s])) [.int .i64 8, .string ⟨#[]⟩, .slice (some ⟨g9, 0, none⟩) M cap9] := by
                  have e1 : oneOf 8 (l ++ [s]) = .mk 8 ⟨#[]⟩ (l ++ [s]) := by
                    match l, hM, hM1 with
                    | [], hM, hM1 => exact absurd hM.symm hM1
                    | x :: r, _, _ => cases r <;> rfl
                  rw [e1]
                  exact rep_sel.2 ⟨_, _, by rw [hM2], by rw [hM2]; exact hc9, hA9⟩
                obtain ⟨z0, zg, zo, zv⟩ := rsel_done hor9 hr.out hgr hrB hr9 hrep
                have hdone := hide (hfin.out _ _ zg zo zv)
                obtain ⟨z1, z2, z3, -⟩ := sel_cells z0
                have hm1 : ((M : Int) == 1) = false := by rw [beq_eq_false_iff_ne]; omega
                clear hrep z0 zg zo zv hown9 hA9 hr9 hfin hM2 hM hM1
                go_wp2
                exact end_sel rfl r _ _ _ rfl rfl z1 z2 z3 hdone.out)
      | tok x p =>
        obtain ⟨hrr, q1, q2, q3⟩ := rdy_is_tok hl h10
        have hg := rgood_walk g t e _ x p _ _ w9 hrr
        rw [show ((0 : Int) == 0) = true from rfl] at hg
        obtain ⟨c0, c1, c2, c3, c4, c8, hf9, hgl9⟩ := rr_cells hrr
        clear hf9 c0 c1 c2 c4 c8
        by_cases hx : x = xAnd
        · have hxk : (x.toList == [97, 110, 100]) = true := by rw [word_is]; exact decide_eq_true hx
          obtain ⟨b', hb'⟩ : ∃ b', startT t c + x.size = b' := ⟨_, rfl⟩
          have hsz : x.size = (xAnd).size := by rw [hx]
          have hk0 : 0 < (xAnd).size := by decide
          have hpa := look_pass hl
          have hR3 : Hid ((match pp b' with | .error y => .error y | .ok (s', c') => moreP t e pp xAnd 8 n ((l ++ [s]) ++ [s']) c') = serP t e pp xAnd 8 a) := by
            rw [hx] at hl
            refine hide (Eq.symm (hR2.out.trans ((moreP_yes hl).trans ?_)))
            rw [← hb', hsz]
            cases pp (startT t c + (xAnd).size) <;> rfl
          rw [hb'] at hrr q1
          have hnx := rnext_walk g t e b' x p w9 hrr q1 hs
          clear hrr h10 hR2 hl hr9 hor9
          replace hx := hide hx
          go_wp2_with (go_at_call 100; refine hg.mono ?_; rintro en w' ⟨rfl, rfl⟩)
          refine hnx.mono ?_
          rintro en w10 ⟨rfl, ho11, h11⟩
          have hown11 := hown9.only ho11 hgB
          have ho12 := ho10.trans ho11
          clear hnx hg c3 hown9
          go_wp2
          go_roundw
          case rel => exact ⟨l ++ [s], b', n, hown11, h11, ho12, q1, by omega, by rw [List.length_append]; show l.length + 1 ≤ b'; omega, by omega, hR3⟩
          case measure =>
            rw [hlw.out]
            show t.size + 1 - (l.length + 1) < t.size + 1 - l.length
            omega
        · have hxk : (x.toList == [97, 110, 100]) = false := by rw [word_is]; exact decide_eq_false hx
          have hz : Hid (serP t e pp xAnd 8 a = .ok (oneOf 8 (l ++ [s]), startT t c)) := hide (hR2.out.trans (moreP_no hl hx))
          have hst : startT t c ≤ t.size := passT_in blankC t hcl
          have hrd : RdyAt w9 g t e (startT t c) := rdy_tok (by rw [lookT_start]; exact hl) (by rw [startT_twice]) hrr q1 q3
          have hfin : Hid (∀ W' v, W'.heap[g]? = w9.heap[g]? → Only g w W' → vSel w W' (oneOf 8 (l ++ [s])) v → RmG g t e vSel (serP t e pp xAnd 8 a) w (.returned v) W') := hide fun W' v q1 q2 q3 => RmG.ok hz.out q2 (hrd.same q1) hst q3
          clear hrr h10 hR2 hl hz hrd hlw
          replace hx := hide hx
          go_upto_region 10 with (go_at_call 100; refine hg.mono ?_; rintro en w' ⟨rfl, rfl⟩)
          (
                obtain ⟨A9, c9, he9, hc9, hA9⟩ := hown9.at
                obtain ⟨M, hM⟩ : ∃ M, l.length + 1 = M := ⟨_, rfl⟩
                have hM2 : (l ++ [s]).length = M := by rw [← hM, List.length_append]; rfl
                rw [hM2, hM] at he9
                rw [hM2] at hc9
                injection he9 with he1 _ he3
                subst he1
                subst he3
                obtain ⟨y0, y1, y2, hfr⟩ := sel_cells hr9
                have fr0 := hfr 0
                have fr1 := hfr 1
                have fr2 := hfr 2
                have hrl9 := blk_lt hr9
                rw [hM]
                clear hfr
                by_cases hM1 : M = 1
                · subst hM1
                  obtain rfl : l = [] := List.eq_nil_of_length_eq_zero (by omega)
                  obtain ⟨b9, off, vs, he, hb9, hbl9, hrep, hcs⟩ := hA9.get (j := 0) rfl
                  injection he with he
                  injection he with he1 he2
                  subst he1
                  subst he2
                  obtain ⟨k9, n9, A8, m8, c8, rfl⟩ := SelRep.form hrep
                  have q0 := hcs 0 _ rfl
                  have q1 := hcs 1 _ rfl
                  have q2 := hcs 2 _ rfl
                  have hne : g9 ≠ r := by omega
                  simp only [Nat.zero_mul, Nat.add_zero, Nat.zero_add] at q0 q1 q2
                  obtain ⟨z0, zg, zo, zv⟩ := rsel_done hor9 hr.out hgr hrB hr9 hrep
                  have hdone := hide (hfin.out _ _ zg zo zv)
                  obtain ⟨z1, z2, z3, -⟩ := sel_cells z0
                  clear hcs hrep z0 zg zo zv hown9 hA9 hr9 hfin hM2 hM
                  go_wp2
                  exact end_sel rfl r _ _ _ rfl rfl z1 z2 z3 hdone.out
                · have hrep : kSel.rep (fun b => B ≤ b) w9 (oneOf 8 (l ++ [s])) [.int .i64 8, .string ⟨#[]⟩, .slice (some ⟨g9, 0, none⟩) M cap9] := by
                    have e1 : oneOf 8 (l ++ [s]) = .mk 8 ⟨#[]⟩ (l ++ [s]) := by
                      match l, hM, hM1 with
                      | [], hM, hM1 => exact absurd hM.symm hM1
                      | x :: r, _, _ => cases r <;> rfl
                    rw [e1]
                    exact rep_sel.2 ⟨_, _, by rw [hM2], by rw [hM2]; exact hc9, hA9⟩
                  obtain ⟨z0, zg, zo, zv⟩ := rsel_done hor9 hr.out hgr hrB hr9 hrep
                  have hdone := hide (hfin.out _ _ zg zo zv)
                  obtain ⟨z1, z2, z3, -⟩ := sel_cells z0
                  have hm1 : ((M : Int) == 1) = false := by rw [beq_eq_false_iff_ne]; omega
                  clear hrep z0 zg zo zv hown9 hA9 hr9 hfin hM2 hM hM1
                  go_wp2
                  exact end_sel rfl r _ _ _ rfl rfl z1 z2 z3 hdone.out)
-- </list>
end Go.Proofs.YtdnnahdafhddlaaGreatDoor

namespace Go.Proofs.YtdnnahdafhddlaaGreatDoor
open Go.RowKit
set_option maxRecDepth 100000

set_option maxHeartbeats 4000000 in
theorem rlistO_bad (g : Nat) (t : ByteArray) (e : Nat) (y : Nat × Int) (w : World) (h : RBad w g t e y) :
    Calls Tryz.prog 153 #[.pointer (some ⟨g, 0, none⟩), .int .i64 9] w fun en w' => IdleG g t e y w en w' := by
  have hgr := h.lt
  obtain ⟨W, hW⟩ : ∃ W, w.alloc (.cells #[.int .i64 0, .string ⟨#[]⟩, .slice none 0 0] 40) = W := ⟨_, rfl⟩
  obtain ⟨r, hr⟩ : ∃ r, w.heap.size = r := ⟨_, rfl⟩
  have hb1 : Below w.heap.size w W := by rw [← hW]; exact ext_alloc (Below.refl _ _) _
  have h1 := h.later hb1
  have ho1 : Only g w W := only_of_below hb1 _
  have hr1 : W.heap[r]? = some (.cells #[.int .i64 0, .string ⟨#[]⟩, .slice none 0 0] 40 (0, 0)) := by rw [← hW, ← hr]; exact heap_alloc_new _ _
  have hpart := rlistA_bad g t e y W h1
  obtain ⟨B, hB⟩ : ∃ B, W.heap.size = B := ⟨_, rfl⟩
  have hrB : r < B := by rw [← hB]; exact blk_lt hr1
  rw [hr] at hgr
  obtain ⟨l, hl⟩ : ∃ l : List Sel, l = [] := ⟨_, rfl⟩
  clear hb1 h h1
  go_enter Tryz.func153, Tryz.ntmps153
  go_wp2_with fail
  replace hB := hide hB
  replace hW := hide hW
  replace hr := hide hr
  go_loopw [5] (fun v wr => v = .slice none 0 0 ∧ wr = W) (fun _ _ => 0)
  case atStart => exact ⟨rfl, rfl⟩
  case round =>
    obtain ⟨rfl, rfl⟩ := hrel
    go_wp2_with fail
    refine hpart.mono ?_
    rintro en w3 ⟨ho6, hstate, s, v, ⟨k1, n1, A1, m1, c1, rfl, hrep⟩, rfl⟩
    have ho3 : Only g wr wr := Only.refl _ _
    have hown : OwnS B wr (.slice none 0 0) l := by subst hl; exact OwnS.nil
    have hl0 : l.length ≤ 5 := by subst hl; exact Nat.zero_le _
    clear hl
    obtain ⟨u5, hu5⟩ : ∃ u5, Value.slice none 0 0 = u5 := ⟨_, rfl⟩
    rw [hu5] at hown ⊢
    replace hu5 := hide hu5
    (
                have hlt4 := hown.lt
                have hgB : g < B := by omega
                have hown7 := hown.only ho6 hgB
                have hszB : B ≤ wr.heap.size := by have q1 := ho3.size; have q2 := hB.out; omega
                have hrep7 : kSel.rep (fun b => B ≤ b ∧ some b ≠ u5.ownBlock) w3 s [.int .i64 k1, .string n1, .slice A1 m1 c1] := kSel.more hrep fun b hb => ⟨Nat.le_trans hszB hb, fun e => by have := (hlt4 b e.symm).2; omega⟩
                have hb8 : Below w3.heap.size w3 (w3.alloc (.cells #[.int .i64 k1, .string n1, .slice A1 m1 c1] 40)) := ext_alloc (Below.refl _ _) _
                have ho8 := Only.later (ho3.trans ho6) hb8
                have hown8 := hown7.later hb8
                have hrep8 := kSel.later hrep7 hb8
                have hl4 : l.length ≤ 4000000000 := by omega
                have hB8 : B ≤ (w3.alloc (.cells #[.int .i64 k1, .string n1, .slice A1 m1 c1] 40)).heap.size := by
                  have h1 := (ho3.trans ho6).size
                  have h2 := hB.out
                  rw [World.size_alloc]; omega
                have h8 := hstate.later hb8
                clear hrep hrep7 hown7 hown hstate ho6
                replace h8 := hide h8
                replace ho8 := hide ho8
                go_wp2_with (at_builtin; refine wpList_ownS rfl _ _ rfl rfl hown8 hl4 ⟨w3.heap.size, 0, none⟩ 1 rfl s [.int .i64 k1, .string n1, .slice A1 m1 c1] hrep8 (World.news_of_block (cs := #[.int .i64 k1, .string n1, .slice A1 m1 c1]) (t := 40) (fr := (0, 0)) (heap_alloc_new _ _)) hB8 ?_; rintro v' w9 hown9 hg9 ⟨g9, cap9, rfl⟩)
                have hg10 : World.grownBy _ w9 u5.ownBlock := hg9
                have hrow10 : ∀ y, u5.ownBlock = some y → g < y := fun y hy => Nat.lt_of_lt_of_le hgB (hlt4 y hy).1
                have h10 := h8.out.grown hg10 hrow10
                have ho10 := only_grown ho8.out hg10 (fun y hy => by rw [hB.out]; exact (hlt4 y hy).1)
                have hor9 := ho1.trans ho10
                have hr9 : w9.heap[r]? = _ := (ho10.block r (blk_lt hr1) (by intro e; injection e with e; omega)).trans hr1
                clear hg9 hg10 h8 ho8 hown8 hrep8 hB8 hb8 hrow10)
    have hfin : Hid (∀ W' v, W'.heap[g]? = w9.heap[g]? → Only g w W' → vSel w W' (oneOf 9 (l ++ [s])) v → IdleG g t e y w (.returned v) W') := hide fun W' v q1 q2 q3 => ⟨q2, h10.same q1, _, _, q3, rfl⟩
    obtain ⟨p, x, f, hrr, h0, -⟩ := id h10
    have hg := rgood_walk g t e p x f _ _ w9 hrr
    rw [show (y.2 == 0) = false from by rw [beq_eq_false_iff_ne]; exact h0] at hg
    clear hrr h0 h10
    go_upto_region 10 with (go_at_call 100; refine hg.mono ?_; rintro en w' ⟨rfl, rfl⟩)
    (
          obtain ⟨A9, c9, he9, hc9, hA9⟩ := hown9.at
          obtain ⟨M, hM⟩ : ∃ M, l.length + 1 = M := ⟨_, rfl⟩
          have hM2 : (l ++ [s]).length = M := by rw [← hM, List.length_append]; rfl
          rw [hM2, hM] at he9
          rw [hM2] at hc9
          injection he9 with he1 _ he3
          subst he1
          subst he3
          obtain ⟨y0, y1, y2, hfr⟩ := sel_cells hr9
          have fr0 := hfr 0
          have fr1 := hfr 1
          have fr2 := hfr 2
          have hrl9 := blk_lt hr9
          rw [hM]
          clear hfr
          by_cases hM1 : M = 1
          · subst hM1
            obtain rfl : l = [] := List.eq_nil_of_length_eq_zero (by omega)
            obtain ⟨b9, off, vs, he, hb9, hbl9, hrep, hcs⟩ := hA9.get (j := 0) rfl
            injection he with he
            injection he with he1 he2
            subst he1
            subst he2
            obtain ⟨k9, n9, A8, m8, c8, rfl⟩ := SelRep.form hrep
            have q0 := hcs 0 _ rfl
            have q1 := hcs 1 _ rfl
            have q2 := hcs 2 _ rfl
            have hne : g9 ≠ r := by omega
            simp only [Nat.zero_mul, Nat.add_zero, Nat.zero_add] at q0 q1 q2
            obtain ⟨z0, zg, zo, zv⟩ := rsel_done hor9 hr.out hgr hrB hr9 hrep
            have hdone := hide (hfin.out _ _ zg zo zv)
            obtain ⟨z1, z2, z3, -⟩ := sel_cells z0
            clear hcs hrep z0 zg zo zv hown9 hA9 hr9 hfin hM2 hM
            go_wp2
            exact end_sel rfl r _ _ _ rfl rfl z1 z2 z3 hdone.out
          · have hrep : kSel.rep (fun b => B ≤ b) w9 (oneOf 9 (l ++ [s])) [.int .i64 9, .string ⟨#[]⟩, .slice (some ⟨g9, 0, none⟩) M cap9] := by
              have e1 : oneOf 9 (l ++ [s]) = .mk 9 ⟨#[]⟩ (l ++ [s]) := by
                match l, hM, hM1 with
                | [], hM, hM1 => exact absurd hM.symm hM1
                | x :: r, _, _ => cases r <;> rfl
              rw [e1]
              exact rep_sel.2 ⟨_, _, by rw [hM2], by rw [hM2]; exact hc9, hA9⟩
            obtain ⟨z0, zg, zo, zv⟩ := rsel_done hor9 hr.out hgr hrB hr9 hrep
            have hdone := hide (hfin.out _ _ zg zo zv)
            obtain ⟨z1, z2, z3, -⟩ := sel_cells z0
            have hm1 : ((M : Int) == 1) = false := by rw [beq_eq_false_iff_ne]; omega
            clear hrep z0 zg zo zv hown9 hA9 hr9 hfin hM2 hM hM1
            go_wp2
            exact end_sel rfl r _ _ _ rfl rfl z1 z2 z3 hdone.out)

set_option maxHeartbeats 8000000 in
theorem rlistO_walk (n0 : Nat) (hA : AtomRAt n0) (g : Nat) (t : ByteArray) (e a : Nat) (w : World) (h : RdyAt w g t e a) (ha : a ≤ t.size) (hs : t.size + e < 1073741824) (hgN : 12 ≤ g) (hL : Lvs w) (hf : t.size - a < n0) :
    Calls Tryz.prog 153 #[.pointer (some ⟨g, 0, none⟩), .int .i64 9] w fun en w' => RmG g t e vSel (serP t e (serP t e (atomP codeB selWs t e n0) xAnd 8) xOr 9 a) w en w' := by
  have hpart := hide (fun (V : World) (b : Nat) (hV : RdyAt V g t e b) (hab : a ≤ b) (hb : b ≤ t.size) (hLV : Lvs V) => rlistA_walk n0 hA g t e b V hV hb hs hgN hLV (by omega))
  have hmono := hide (serP_le (k := xAnd) (kind := 8) (t := t) (e := e) (atomP_le n0 (ok := codeB) (ws := selWs) (t := t) (e := e)))
  obtain ⟨pp, hpp⟩ : ∃ pp, serP t e (atomP codeB selWs t e n0) xAnd 8 = pp := ⟨_, rfl⟩
  rw [hpp] at hpart hmono ⊢
  have hgr := h.lt
  obtain ⟨W, hW⟩ : ∃ W, w.alloc (.cells #[.int .i64 0, .string ⟨#[]⟩, .slice none 0 0] 40) = W := ⟨_, rfl⟩
  obtain ⟨r, hr⟩ : ∃ r, w.heap.size = r := ⟨_, rfl⟩
  have hb1 : Below w.heap.size w W := by rw [← hW]; exact ext_alloc (Below.refl _ _) _
  have h1 := h.later hb1
  have hL1 : Lvs W := by rw [← hW]; exact hL.alloc _
  have ho1 : Only g w W := only_of_below hb1 _
  have hr1 : W.heap[r]? = some (.cells #[.int .i64 0, .string ⟨#[]⟩, .slice none 0 0] 40 (0, 0)) := by rw [← hW, ← hr]; exact heap_alloc_new _ _
  obtain ⟨B, hB⟩ : ∃ B, W.heap.size = B := ⟨_, rfl⟩
  have hrB : r < B := by rw [← hB]; exact blk_lt hr1
  rw [hr] at hgr
  clear hb1 h hA hpp
  go_enter Tryz.func153, Tryz.ntmps153
  go_wp2_with fail
  replace hB := hide hB
  replace hW := hide hW
  replace hr := hide hr
  go_loopw [5] (fun v wr => ∃ (l : List Sel) (b n : Nat), OwnS B wr v l ∧ RdyAt wr g t e b ∧ Only g W wr ∧ b ≤ t.size ∧ a ≤ b ∧ l.length ≤ b ∧ t.size - b < n ∧ Hid ((match pp b with | .error y => .error y | .ok (s, c) => moreP t e pp xOr 9 n (l ++ [s]) c) = serP t e pp xOr 9 a)) (fun v _ => t.size + 1 - lenS v)
  case atStart => exact ⟨[], a, t.size + 1, OwnS.nil, h1, Only.refl _ _, ha, Nat.le_refl _, Nat.zero_le _, by omega, hide serP_tie⟩
  case round =>
    clear h1
    obtain ⟨l, b, n, hown, h3, ho3, hbl, hab, hll, hn, hR⟩ := hrel
    have h4 := hpart.out wr b h3 hab hbl (hL1.only ho3 hgN)
    go_wp2_with fail
    refine h4.mono ?_
    rintro en w3 ⟨ho6, hm⟩
    clear h4
    cases hp : pp b with
    | error y =>
      rw [hp] at hm
      obtain ⟨hstate, s, v, ⟨k1, n1, A1, m1, c1, rfl, hrep⟩, rfl⟩ := hm
      have hR2 : Hid (serP t e pp xOr 9 a = .error y) := by rw [hp] at hR; exact hide hR.out.symm
      clear hR hp h3
      (
                  have hlt4 := hown.lt
                  have hgB : g < B := by omega
                  have hown7 := hown.only ho6 hgB
                  have hszB : B ≤ wr.heap.size := by have q1 := ho3.size; have q2 := hB.out; omega
                  have hrep7 : kSel.rep (fun b => B ≤ b ∧ some b ≠ u5.ownBlock) w3 s [.int .i64 k1, .string n1, .slice A1 m1 c1] := kSel.more hrep fun b hb => ⟨Nat.le_trans hszB hb, fun e => by have := (hlt4 b e.symm).2; omega⟩
                  have hb8 : Below w3.heap.size w3 (w3.alloc (.cells #[.int .i64 k1, .string n1, .slice A1 m1 c1] 40)) := ext_alloc (Below.refl _ _) _
                  have ho8 := Only.later (ho3.trans ho6) hb8
                  have hown8 := hown7.later hb8
                  have hrep8 := kSel.later hrep7 hb8
                  have hl4 : l.length ≤ 4000000000 := by omega
                  have hB8 : B ≤ (w3.alloc (.cells #[.int .i64 k1, .string n1, .slice A1 m1 c1] 40)).heap.size := by
                    have h1 := (ho3.trans ho6).size
                    have h2 := hB.out
                    rw [World.size_alloc]; omega
                  have h8 := hstate.later hb8
                  clear hrep hrep7 hown7 hown hstate ho6
                  replace h8 := hide h8
                  replace ho8 := hide ho8
                  go_wp2_with (at_builtin; refine wpList_ownS rfl _ _ rfl rfl hown8 hl4 ⟨w3.heap.size, 0, none⟩ 1 rfl s [.int .i64 k1, .string n1, .slice A1 m1 c1] hrep8 (World.news_of_block (cs := #[.int .i64 k1, .string n1, .slice A1 m1 c1]) (t := 40) (fr := (0, 0)) (heap_alloc_new _ _)) hB8 ?_; rintro v' w9 hown9 hg9 ⟨g9, cap9, rfl⟩)
                  have hg10 : World.grownBy _ w9 u5.ownBlock := hg9
                  have hrow10 : ∀ y, u5.ownBlock = some y → g < y := fun y hy => Nat.lt_of_lt_of_le hgB (hlt4 y hy).1
                  have h10 := h8.out.grown hg10 hrow10
                  have ho10 := only_grown ho8.out hg10 (fun y hy => by rw [hB.out]; exact (hlt4 y hy).1)
                  have hor9 := ho1.trans ho10
                  have hr9 : w9.heap[r]? = _ := (ho10.block r (blk_lt hr1) (by intro e; injection e with e; omega)).trans hr1
                  clear hg9 hg10 h8 ho8 hown8 hrep8 hB8 hb8 hrow10)
      have hfin : Hid (∀ W' v, W'.heap[g]? = w9.heap[g]? → Only g w W' → vSel w W' (oneOf 9 (l ++ [s])) v → RmG g t e vSel (serP t e pp xOr 9 a) w (.returned v) W') := hide fun W' v q1 q2 q3 => RmG.err hR2.out q2 (h10.same q1) q3
      obtain ⟨p, x, f, hrr, h0, -⟩ := id h10
      have hg := rgood_walk g t e p x f _ _ w9 hrr
      rw [show (y.2 == 0) = false from by rw [beq_eq_false_iff_ne]; exact h0] at hg
      clear hrr h0 h10 hR2
      go_upto_region 10 with (go_at_call 100; refine hg.mono ?_; rintro en w' ⟨rfl, rfl⟩)
      (
            obtain ⟨A9, c9, he9, hc9, hA9⟩ := hown9.at
            obtain ⟨M, hM⟩ : ∃ M, l.length + 1 = M := ⟨_, rfl⟩
            have hM2 : (l ++ [s]).length = M := by rw [← hM, List.length_append]; rfl
            rw [hM2, hM] at he9
            rw [hM2] at hc9
            injection he9 with he1 _ he3
            subst he1
            subst he3
            obtain ⟨y0, y1, y2, hfr⟩ := sel_cells hr9
            have fr0 := hfr 0
            have fr1 := hfr 1
            have fr2 := hfr 2
            have hrl9 := blk_lt hr9
            rw [hM]
            clear hfr
            by_cases hM1 : M = 1
            · subst hM1
              obtain rfl : l = [] := List.eq_nil_of_length_eq_zero (by omega)
              obtain ⟨b9, off, vs, he, hb9, hbl9, hrep, hcs⟩ := hA9.get (j := 0) rfl
              injection he with he
              injection he with he1 he2
              subst he1
              subst he2
              obtain ⟨k9, n9, A8, m8, c8, rfl⟩ := SelRep.form hrep
              have q0 := hcs 0 _ rfl
              have q1 := hcs 1 _ rfl
              have q2 := hcs 2 _ rfl
              have hne : g9 ≠ r := by omega
              simp only [Nat.zero_mul, Nat.add_zero, Nat.zero_add] at q0 q1 q2
              obtain ⟨z0, zg, zo, zv⟩ := rsel_done hor9 hr.out hgr hrB hr9 hrep
              have hdone := hide (hfin.out _ _ zg zo zv)
              obtain ⟨z1, z2, z3, -⟩ := sel_cells z0
              clear hcs hrep z0 zg zo zv hown9 hA9 hr9 hfin hM2 hM
              go_wp2
              exact end_sel rfl r _ _ _ rfl rfl z1 z2 z3 hdone.out
            · have hrep : kSel.rep (fun b => B ≤ b) w9 (oneOf 9 (l ++ [s])) [.int .i64 9, .string ⟨#[]⟩, .slice (some ⟨g9, 0, none⟩) M cap9] := by
                have e1 : oneOf 9 (l ++ [s]) = .mk 9 ⟨#[]⟩ (l ++ [s]) := by
                  match l, hM, hM1 with
                  | [], hM, hM1 => exact absurd hM.symm hM1
                  | x :: r, _, _ => cases r <;> rfl
                rw [e1]
                exact rep_sel.2 ⟨_, _, by rw [hM2], by rw [hM2]; exact hc9, hA9⟩
              obtain ⟨z0, zg, zo, zv⟩ := rsel_done hor9 hr.out hgr hrB hr9 hrep
              have hdone := hide (hfin.out _ _ zg zo zv)
              obtain ⟨z1, z2, z3, -⟩ := sel_cells z0
              have hm1 : ((M : Int) == 1) = false := by rw [beq_eq_false_iff_ne]; omega
              clear hrep z0 zg zo zv hown9 hA9 hr9 hfin hM2 hM hM1
              go_wp2
              exact end_sel rfl r _ _ _ rfl rfl z1 z2 z3 hdone.out)
    | ok z =>
      obtain ⟨s, c⟩ := z
      rw [hp] at hm
      obtain ⟨hstate, hcl, v, ⟨k1, n1, A1, m1, c1, rfl, hrep⟩, rfl⟩ := hm
      have hbc := hmono.out _ _ _ hp
      obtain ⟨n, rfl⟩ : ∃ m, n = m + 1 := ⟨n - 1, by omega⟩
      have hR2 : Hid (serP t e pp xOr 9 a = moreP t e pp xOr 9 (n + 1) (l ++ [s]) c) := by rw [hp] at hR; exact hide hR.out.symm
      have hlw : Hid (lenS u5 = l.length) := hide (by obtain ⟨A5, c5, h5⟩ := hown.form; rw [h5]; rfl)
      clear hR hp h3
      (
                  have hlt4 := hown.lt
                  have hgB : g < B := by omega
                  have hown7 := hown.only ho6 hgB
                  have hszB : B ≤ wr.heap.size := by have q1 := ho3.size; have q2 := hB.out; omega
                  have hrep7 : kSel.rep (fun b => B ≤ b ∧ some b ≠ u5.ownBlock) w3 s [.int .i64 k1, .string n1, .slice A1 m1 c1] := kSel.more hrep fun b hb => ⟨Nat.le_trans hszB hb, fun e => by have := (hlt4 b e.symm).2; omega⟩
                  have hb8 : Below w3.heap.size w3 (w3.alloc (.cells #[.int .i64 k1, .string n1, .slice A1 m1 c1] 40)) := ext_alloc (Below.refl _ _) _
                  have ho8 := Only.later (ho3.trans ho6) hb8
                  have hown8 := hown7.later hb8
                  have hrep8 := kSel.later hrep7 hb8
                  have hl4 : l.length ≤ 4000000000 := by omega
                  have hB8 : B ≤ (w3.alloc (.cells #[.int .i64 k1, .string n1, .slice A1 m1 c1] 40)).heap.size := by
                    have h1 := (ho3.trans ho6).size
                    have h2 := hB.out
                    rw [World.size_alloc]; omega
                  have h8 := hstate.later hb8
                  clear hrep hrep7 hown7 hown hstate ho6
                  replace h8 := hide h8
                  replace ho8 := hide ho8
                  go_wp2_with (at_builtin; refine wpList_ownS rfl _ _ rfl rfl hown8 hl4 ⟨w3.heap.size, 0, none⟩ 1 rfl s [.int .i64 k1, .string n1, .slice A1 m1 c1] hrep8 (World.news_of_block (cs := #[.int .i64 k1, .string n1, .slice A1 m1 c1]) (t := 40) (fr := (0, 0)) (heap_alloc_new _ _)) hB8 ?_; rintro v' w9 hown9 hg9 ⟨g9, cap9, rfl⟩)
                  have hg10 : World.grownBy _ w9 u5.ownBlock := hg9
                  have hrow10 : ∀ y, u5.ownBlock = some y → g < y := fun y hy => Nat.lt_of_lt_of_le hgB (hlt4 y hy).1
                  have h10 := h8.out.grown hg10 hrow10
                  have ho10 := only_grown ho8.out hg10 (fun y hy => by rw [hB.out]; exact (hlt4 y hy).1)
                  have hor9 := ho1.trans ho10
                  have hr9 : w9.heap[r]? = _ := (ho10.block r (blk_lt hr1) (by intro e; injection e with e; omega)).trans hr1
                  clear hg9 hg10 h8 ho8 hown8 hrep8 hB8 hb8 hrow10)
      cases hl : lookT t e c with
      | bad b' =>
        have hz : Hid (serP t e pp xOr 9 a = .error (b', 5)) := hide (hR2.out.trans (moreP_bad hl))
        have hbd := rdy_is_bad hl h10
        have hfin : Hid (∀ W' v, W'.heap[g]? = w9.heap[g]? → Only g w W' → vSel w W' (oneOf 9 (l ++ [s])) v → RmG g t e vSel (serP t e pp xOr 9 a) w (.returned v) W') := hide fun W' v q1 q2 q3 => RmG.err hz.out q2 (hbd.same q1) q3
        obtain ⟨p, x, f, hrr, h0, -⟩ := id hbd
        have hg := rgood_walk g t e p x f _ _ w9 hrr
        rw [show ((((b', (5 : Int)) : Nat × Int).2) == 0) = false from rfl] at hg
        clear hrr h0 h10 hR2 hbd hl hz hlw
        go_upto_region 10 with (go_at_call 100; refine hg.mono ?_; rintro en w' ⟨rfl, rfl⟩)
        (
              obtain ⟨A9, c9, he9, hc9, hA9⟩ := hown9.at
              obtain ⟨M, hM⟩ : ∃ M, l.length + 1 = M := ⟨_, rfl⟩
              have hM2 : (l ++ [s]).length = M := by rw [← hM, List.length_append]; rfl
              rw [hM2, hM] at he9
              rw [hM2] at hc9
              injection he9 with he1 _ he3
              subst he1
              subst he3
              obtain ⟨y0, y1, y2, hfr⟩ := sel_cells hr9
              have fr0 := hfr 0
              have fr1 := hfr 1
              have fr2 := hfr 2
              have hrl9 := blk_lt hr9
              rw [hM]
              clear hfr
              by_cases hM1 : M = 1
              · subst hM1
                obtain rfl : l = [] := List.eq_nil_of_length_eq_zero (by omega)
                obtain ⟨b9, off, vs, he, hb9, hbl9, hrep, hcs⟩ := hA9.get (j := 0) rfl
                injection he with he
                injection he with he1 he2
                subst he1
                subst he2
                obtain ⟨k9, n9, A8, m8, c8, rfl⟩ := SelRep.form hrep
                have q0 := hcs 0 _ rfl
                have q1 := hcs 1 _ rfl
                have q2 := hcs 2 _ rfl
                have hne : g9 ≠ r := by omega
                simp only [Nat.zero_mul, Nat.add_zero, Nat.zero_add] at q0 q1 q2
                obtain ⟨z0, zg, zo, zv⟩ := rsel_done hor9 hr.out hgr hrB hr9 hrep
                have hdone := hide (hfin.out _ _ zg zo zv)
                obtain ⟨z1, z2, z3, -⟩ := sel_cells z0
                clear hcs hrep z0 zg zo zv hown9 hA9 hr9 hfin hM2 hM
                go_wp2
                exact end_sel rfl r _ _ _ rfl rfl z1 z2 z3 hdone.out
              · have hrep : kSel.rep (fun b => B ≤ b) w9 (oneOf 9 (l ++ [s])) [.int .i64 9, .string ⟨#[]⟩, .slice (some ⟨g9, 0, none⟩) M cap9] := by
                  have e1 : oneOf 9 (l ++ [s]) = .mk 9 ⟨#[]⟩ (l ++ [s]) := by
                    match l, hM, hM1 with
                    | [], hM, hM1 => exact absurd hM.symm hM1
                    | x :: r, _, _ => cases r <;> rfl
                  rw [e1]
                  exact rep_sel.2 ⟨_, _, by rw [hM2], by rw [hM2]; exact hc9, hA9⟩
                obtain ⟨z0, zg, zo, zv⟩ := rsel_done hor9 hr.out hgr hrB hr9 hrep
                have hdone := hide (hfin.out _ _ zg zo zv)
                obtain ⟨z1, z2, z3, -⟩ := sel_cells z0
                have hm1 : ((M : Int) == 1) = false := by rw [beq_eq_false_iff_ne]; omega
                clear hrep z0 zg zo zv hown9 hA9 hr9 hfin hM2 hM hM1
                go_wp2
                exact end_sel rfl r _ _ _ rfl rfl z1 z2 z3 hdone.out)
      | tok x p =>
        obtain ⟨hrr, q1, q2, q3⟩ := rdy_is_tok hl h10
        have hg := rgood_walk g t e _ x p _ _ w9 hrr
        rw [show ((0 : Int) == 0) = true from rfl] at hg
        obtain ⟨c0, c1, c2, c3, c4, c8, hf9, hgl9⟩ := rr_cells hrr
        clear hf9 c0 c1 c2 c4 c8
        by_cases hx : x = xOr
        · have hxk : (x.toList == [111, 114]) = true := by rw [word_is]; exact decide_eq_true hx
          obtain ⟨b', hb'⟩ : ∃ b', startT t c + x.size = b' := ⟨_, rfl⟩
          have hsz : x.size = (xOr).size := by rw [hx]
          have hk0 : 0 < (xOr).size := by decide
          have hpa := look_pass hl
          have hR3 : Hid ((match pp b' with | .error y => .error y | .ok (s', c') => moreP t e pp xOr 9 n ((l ++ [s]) ++ [s']) c') = serP t e pp xOr 9 a) := by
            rw [hx] at hl
            refine hide (Eq.symm (hR2.out.trans ((moreP_yes hl).trans ?_)))
            rw [← hb', hsz]
            cases pp (startT t c + (xOr).size) <;> rfl
          rw [hb'] at hrr q1
          have hnx := rnext_walk g t e b' x p w9 hrr q1 hs
          clear hrr h10 hR2 hl hr9 hor9
          replace hx := hide hx
          go_wp2_with (go_at_call 100; refine hg.mono ?_; rintro en w' ⟨rfl, rfl⟩)
          refine hnx.mono ?_
          rintro en w10 ⟨rfl, ho11, h11⟩
          have hown11 := hown9.only ho11 hgB
          have ho12 := ho10.trans ho11
          clear hnx hg c3 hown9
          go_wp2
          go_roundw
          case rel => exact ⟨l ++ [s], b', n, hown11, h11, ho12, q1, by omega, by rw [List.length_append]; show l.length + 1 ≤ b'; omega, by omega, hR3⟩
          case measure =>
            rw [hlw.out]
            show t.size + 1 - (l.length + 1) < t.size + 1 - l.length
            omega
        · have hxk : (x.toList == [111, 114]) = false := by rw [word_is]; exact decide_eq_false hx
          have hz : Hid (serP t e pp xOr 9 a = .ok (oneOf 9 (l ++ [s]), startT t c)) := hide (hR2.out.trans (moreP_no hl hx))
          have hst : startT t c ≤ t.size := passT_in blankC t hcl
          have hrd : RdyAt w9 g t e (startT t c) := rdy_tok (by rw [lookT_start]; exact hl) (by rw [startT_twice]) hrr q1 q3
          have hfin : Hid (∀ W' v, W'.heap[g]? = w9.heap[g]? → Only g w W' → vSel w W' (oneOf 9 (l ++ [s])) v → RmG g t e vSel (serP t e pp xOr 9 a) w (.returned v) W') := hide fun W' v q1 q2 q3 => RmG.ok hz.out q2 (hrd.same q1) hst q3
          clear hrr h10 hR2 hl hz hrd hlw
          replace hx := hide hx
          go_upto_region 10 with (go_at_call 100; refine hg.mono ?_; rintro en w' ⟨rfl, rfl⟩)
          (
                obtain ⟨A9, c9, he9, hc9, hA9⟩ := hown9.at
                obtain ⟨M, hM⟩ : ∃ M, l.length + 1 = M := ⟨_, rfl⟩
                have hM2 : (l ++ [s]).length = M := by rw [← hM, List.length_append]; rfl
                rw [hM2, hM] at he9
                rw [hM2] at hc9
                injection he9 with he1 _ he3
                subst he1
                subst he3
                obtain ⟨y0, y1, y2, hfr⟩ := sel_cells hr9
                have fr0 := hfr 0
                have fr1 := hfr 1
                have fr2 := hfr 2
                have hrl9 := blk_lt hr9
                rw [hM]
                clear hfr
                by_cases hM1 : M = 1
                · subst hM1
                  obtain rfl : l = [] := List.eq_nil_of_length_eq_zero (by omega)
                  obtain ⟨b9, off, vs, he, hb9, hbl9, hrep, hcs⟩ := hA9.get (j := 0) rfl
                  injection he with he
                  injection he with he1 he2
                  subst he1
                  subst he2
                  obtain ⟨k9, n9, A8, m8, c8, rfl⟩ := SelRep.form hrep
                  have q0 := hcs 0 _ rfl
                  have q1 := hcs 1 _ rfl
                  have q2 := hcs 2 _ rfl
                  have hne : g9 ≠ r := by omega
                  simp only [Nat.zero_mul, Nat.add_zero, Nat.zero_add] at q0 q1 q2
                  obtain ⟨z0, zg, zo, zv⟩ := rsel_done hor9 hr.out hgr hrB hr9 hrep
                  have hdone := hide (hfin.out _ _ zg zo zv)
                  obtain ⟨z1, z2, z3, -⟩ := sel_cells z0
                  clear hcs hrep z0 zg zo zv hown9 hA9 hr9 hfin hM2 hM
                  go_wp2
                  exact end_sel rfl r _ _ _ rfl rfl z1 z2 z3 hdone.out
                · have hrep : kSel.rep (fun b => B ≤ b) w9 (oneOf 9 (l ++ [s])) [.int .i64 9, .string ⟨#[]⟩, .slice (some ⟨g9, 0, none⟩) M cap9] := by
                    have e1 : oneOf 9 (l ++ [s]) = .mk 9 ⟨#[]⟩ (l ++ [s]) := by
                      match l, hM, hM1 with
                      | [], hM, hM1 => exact absurd hM.symm hM1
                      | x :: r, _, _ => cases r <;> rfl
                    rw [e1]
                    exact rep_sel.2 ⟨_, _, by rw [hM2], by rw [hM2]; exact hc9, hA9⟩
                  obtain ⟨z0, zg, zo, zv⟩ := rsel_done hor9 hr.out hgr hrB hr9 hrep
                  have hdone := hide (hfin.out _ _ zg zo zv)
                  obtain ⟨z1, z2, z3, -⟩ := sel_cells z0
                  have hm1 : ((M : Int) == 1) = false := by rw [beq_eq_false_iff_ne]; omega
                  clear hrep z0 zg zo zv hown9 hA9 hr9 hfin hM2 hM hM1
                  go_wp2
                  exact end_sel rfl r _ _ _ rfl rfl z1 z2 z3 hdone.out)
end Go.Proofs.YtdnnahdafhddlaaGreatDoor

namespace Go.Proofs.YtdnnahdafhddlaaGreatDoor
open Go.RowKit
set_option maxRecDepth 100000

theorem leafK_cons (x z : ByteArray) (r : List ByteArray) : leafK (x :: r) z = if x = z then 0 else leafK r z + 1 := by
  unfold leafK
  rw [List.findIdx_cons]
  by_cases h : x = z <;> simp [h]
theorem leafK_at : ∀ (ws : List ByteArray) (x : ByteArray) (i : Nat), (∀ j, j < i → ws[j]? ≠ some x) → (i = ws.length ∨ ws[i]? = some x) → leafK ws x = i
  | [], x, i, _, h => by
    rcases h with h | h
    · rw [h]; rfl
    · simp at h
  | w :: ws, x, 0, _, h => by
    rcases h with h | h
    · simp at h
    · simp at h
      rw [leafK_cons, if_pos h]
  | w :: ws, x, i + 1, hno, h => by
    have h0 : ¬ w = x := fun e => hno 0 (by omega) (by simp [e])
    rw [leafK_cons, if_neg h0, leafK_at ws x i (fun j hj => by have := hno (j + 1) (by omega); simpa using this) (by simpa using h)]
theorem IdleG.meets {g : Nat} {t : ByteArray} {e : Nat} {y : Nat × Int} {z : Res Sel} {w w' : World} {en : Ending} (h : IdleG g t e y w en w') (hz : z = .error y) : RmG g t e vSel z w en w' := by
  obtain ⟨h1, h2, s, v, h3, rfl⟩ := h
  exact RmG.err hz h1 h2 h3
set_option maxHeartbeats 8000000 in
theorem ratom_step (n0 : Nat) (hA : AtomRAt n0) : AtomRAt (n0 + 1) := by
  intro g t e a w h ha hs hgN hL hf
  cases hl : lookT t e a with
  | bad b => exact (ratom_bad g t e (b, 5) w (rdy_is_bad hl h)).mono fun en w' hi => hi.meets (by rw [atomP, nextP_bad hl])
  | tok x p =>
    have hgr := h.lt
    obtain ⟨W, hW⟩ : ∃ W, w.alloc (.cells #[.int .i64 0, .string ⟨#[]⟩, .slice none 0 0] 40) = W := ⟨_, rfl⟩
    obtain ⟨r, hr⟩ : ∃ r, w.heap.size = r := ⟨_, rfl⟩
    have hb1 : Below w.heap.size w W := by rw [← hW]; exact ext_alloc (Below.refl _ _) _
    have h1 := h.later hb1
    have hL1 : Lvs W := by rw [← hW]; exact hL.alloc _
    have ho1 : Only g w W := only_of_below hb1 _
    have hr1 : W.heap[r]? = some (.cells #[.int .i64 0, .string ⟨#[]⟩, .slice none 0 0] 40 (0, 0)) := by rw [← hW, ← hr]; exact heap_alloc_new _ _
    have hWs : W.heap.size = r + 1 := by rw [← hW, World.size_alloc, hr]
    rw [hr] at hgr
    obtain ⟨hrr, q1, q2, q3⟩ := rdy_is_tok hl h1
    have hpa := look_pass hl
    obtain ⟨b, hb⟩ : ∃ b, startT t a + x.size = b := ⟨_, rfl⟩
    rw [hb] at hrr q1
    have hn : nextP t e a = .ok ((x, p), b) := by rw [nextP_tok hl, hb]
    have hat : atomP codeB selWs t e (n0 + 1) a = (
      if x = xNot then (match atomP codeB selWs t e n0 b with | .error y => .error y | .ok (s, c) => .ok (.mk 10 ⟨#[]⟩ [s], c))
      else if x = xOpen then (match serP t e (serP t e (atomP codeB selWs t e n0) xAnd 8) xOr 9 b with
        | .error y => .error y
        | .ok (s, c) => (match needP t e xShut c with
          | .error y => .error y
          | .ok (_, d) => .ok (s, d)))
      else if x = xAll then .ok (.mk 1 ⟨#[]⟩ [], b)
      else if leafK selWs x < selWs.length then (match identP codeB t e b with
        | .error y => .error y
        | .ok (n, c) => .ok (.mk (2 + (leafK selWs x : Int)) n [], c))
      else .error (p, 15)) := by rw [atomP, hn]; rfl
    have hg := rgood_walk g t e b x p _ _ W hrr
    rw [show ((0 : Int) == 0) = true from rfl] at hg
    obtain ⟨c0, c1, c2, c3, c4, c8, hf9, hgl9⟩ := rr_cells hrr
    have hnx := rnext_walk g t e b x p W hrr q1 hs
    have hAt := hide hA
    have hW0 : w.heap.size = r := hr
    replace hWs := hide hWs
    clear hf9 c0 c1 c2 c4 c8 hA h hb1 hn h1
    by_cases hx1 : x = xNot
    · have k1 : (x.toList == [110, 111, 116]) = true := by rw [word_is]; exact decide_eq_true hx1
      have hxs : x.size = 3 := by rw [hx1]; rfl
      rw [if_pos hx1] at hat
      replace hx1 := hide hx1
      clear hrr
      go_enter Tryz.func192, Tryz.ntmps192
      go_wp2_with (go_at_call 100; refine hg.mono ?_; rintro en w' ⟨rfl, rfl⟩)
      refine hnx.mono ?_
      rintro en w1 ⟨rfl, ho2, h2⟩
      have ho3 := ho1.trans ho2
      have h4 := hAt.out g t e b w1 h2 q1 hs hgN (hL1.only ho2 hgN) (by omega)
      have hr2 : w1.heap[r]? = _ := (ho2.block r (blk_lt hr1) (by intro e; injection e with e; omega)).trans hr1
      clear hnx hg c3
      go_wp2_with fail
      refine h4.mono ?_
      rintro en w3 ⟨ho4, hm⟩
      clear h4
      obtain ⟨s, v, ⟨k, n, A, m, cp, rfl, hrep⟩, rfl, hsta⟩ : ∃ s v, vSel w1 w3 s v ∧ en = .returned v ∧ ∀ W' u, W'.heap[g]? = w3.heap[g]? → Only g w W' → vSel w W' (.mk 10 ⟨#[]⟩ [s]) u → RmG g t e vSel (atomP codeB selWs t e (n0 + 1) a) w (.returned u) W' := by
        cases hp : atomP codeB selWs t e n0 b with
        | error y =>
          rw [hp] at hm hat
          obtain ⟨hbd, s, v, hv, he⟩ := hm
          exact ⟨s, v, hv, he, fun W' u e1 e2 e3 => RmG.err hat e2 (hbd.same e1) e3⟩
        | ok z =>
          obtain ⟨s, c⟩ := z
          rw [hp] at hm hat
          obtain ⟨hrd, hcl, v, hv, he⟩ := hm
          exact ⟨s, v, hv, he, fun W' u e1 e2 e3 => RmG.ok hat e2 (hrd.same e1) hcl e3⟩
      replace hsta := hide hsta
      have hr4 : w3.heap[r]? = _ := (ho4.block r (blk_lt hr2) (by intro e; injection e with e; omega)).trans hr2
      have hs4 := ho4.size
      have hs2 := ho2.size
      rw [hWs.out] at hs2
      have hone := OwnS.one (B := r + 1) (w := w3) (s := s) (by omega) (kSel.more hrep fun b hb => by omega)
      obtain ⟨w4, hw4⟩ : ∃ w4, w3.alloc (.cells #[.int .i64 k, .string n, .slice A m cp] 40) = w4 := ⟨_, rfl⟩
      have hb4 : Below w3.heap.size w3 w4 := by rw [← hw4]; exact ext_alloc (Below.refl _ _) _
      rw [hw4] at hone
      obtain ⟨A5, c5, he5, hc5, hA5⟩ := hone.at
      injection he5 with he5 he6 he7
      subst he5
      subst he7
      clear he6
      have hrep5 : kSel.rep (fun b => r + 1 ≤ b) w4 (.mk 10 ⟨#[]⟩ [s]) [.int .i64 10, .string ⟨#[]⟩, .slice (some ⟨w3.heap.size, 0, none⟩) 1 1] := rep_sel.2 ⟨_, 1, rfl, Nat.le_refl _, hA5⟩
      have hr5 : w4.heap[r]? = _ := (hb4.block r (blk_lt hr4)).trans hr4
      have hg4 : w4.heap[g]? = w3.heap[g]? := hb4.block g (by have := blk_lt hr4; omega)
      obtain ⟨z0, zg, zo, zv⟩ := rsel_done (Only.later (ho3.trans ho4) hb4) hW0 hgr (Nat.lt_succ_self r) hr5 hrep5
      have hdone := hide (hsta.out _ _ (zg.trans hg4) zo zv)
      (
            obtain ⟨z1, z2, z3, -⟩ := sel_cells z0
            clear z0 zg zo zv)
      (
            obtain ⟨y0, y1, y2, hfr⟩ := sel_cells hr5
            have fr0 := hfr 0
            have fr1 := hfr 1
            have fr2 := hfr 2
            have hrl5 := blk_lt hr5
            clear hfr)
      clear hrep hr5 hrep5 hA5 hone hr4 hat hb4 hsta hm hg4 hr2
      go_wp2
      exact end_sel rfl r _ _ _ rfl rfl z1 z2 z3 hdone.out
    · have k1 : (x.toList == [110, 111, 116]) = false := by rw [word_is]; exact decide_eq_false hx1
      rw [if_neg hx1] at hat
      by_cases hx2 : x = xOpen
      · have k2 : (x.toList == [40]) = true := by rw [word_is]; exact decide_eq_true hx2
        have hxs : x.size = 1 := by rw [hx2]; rfl
        rw [if_pos hx2] at hat
        replace hx1 := hide hx1
        replace hx2 := hide hx2
        clear hrr
        go_enter Tryz.func192, Tryz.ntmps192
        go_wp2_with (go_at_call 100; refine hg.mono ?_; rintro en w' ⟨rfl, rfl⟩)
        refine hnx.mono ?_
        rintro en w1 ⟨rfl, ho2, h2⟩
        have ho3 := ho1.trans ho2
        have h4 := rlistO_walk n0 hAt.out g t e b w1 h2 q1 hs hgN (hL1.only ho2 hgN) (by omega)
        have hr2 : w1.heap[r]? = _ := (ho2.block r (blk_lt hr1) (by intro e; injection e with e; omega)).trans hr1
        have hs2 := ho2.size
        rw [hWs.out] at hs2
        clear hnx hg c3
        go_wp2_with fail
        refine h4.mono ?_
        rintro en w3 ⟨ho4, hm⟩
        clear h4
        have hs4 := ho4.size
        have hr4 : w3.heap[r]? = _ := (ho4.block r (blk_lt hr2) (by intro e; injection e with e; omega)).trans hr2
        obtain ⟨s, v, ⟨k, n, A, m, cp, rfl, hrep⟩, rfl, hsta⟩ : ∃ s v, vSel w1 w3 s v ∧ en = .returned v ∧ ((∃ y, RBad w3 g t e y ∧ atomP codeB selWs t e (n0 + 1) a = .error y) ∨ ∃ c, RdyAt w3 g t e c ∧ c ≤ t.size ∧ atomP codeB selWs t e (n0 + 1) a = (match needP t e xShut c with | .error y => .error y | .ok (_, d) => .ok (s, d))) := by
          cases hp : serP t e (serP t e (atomP codeB selWs t e n0) xAnd 8) xOr 9 b with
          | error y =>
            rw [hp] at hm hat
            obtain ⟨hbd, s, v, hv, he⟩ := hm
            exact ⟨s, v, hv, he, .inl ⟨y, hbd, hat⟩⟩
          | ok z =>
            obtain ⟨s, c⟩ := z
            rw [hp] at hm hat
            obtain ⟨hrd, hcl, v, hv, he⟩ := hm
            exact ⟨s, v, hv, he, .inr ⟨c, hrd, hcl, hat⟩⟩
        obtain ⟨w4, hw4⟩ : ∃ w4, w3.alloc (.cells #[.int .i64 k, .string n, .slice A m cp] 40) = w4 := ⟨_, rfl⟩
        obtain ⟨q4, hq4⟩ : ∃ q4, w3.heap.size = q4 := ⟨_, rfl⟩
        have hb4 : Below w3.heap.size w3 w4 := by rw [← hw4]; exact ext_alloc (Below.refl _ _) _
        have hbx4 : w4.heap[q4]? = some (.cells #[.int .i64 k, .string n, .slice A m cp] 40 (0, 0)) := by rw [← hw4, ← hq4]; exact heap_alloc_new _ _
        have ho5 := Only.later (ho3.trans ho4) hb4
        have hr5' : w4.heap[r]? = _ := (hb4.block r (blk_lt hr4)).trans hr4
        have hrep5 := kSel.later hrep hb4
        have htk : Calls Tryz.prog 150 #[.pointer (some ⟨g, 0, none⟩), .string ⟨#[41]⟩] w4 fun en w5 => en = .returned (.tuple #[]) ∧ Only g w4 w5 ∧ ∀ W' u, W'.heap[g]? = w5.heap[g]? → Only g w W' → vSel w W' s u → RmG g t e vSel (atomP codeB selWs t e (n0 + 1) a) w (.returned u) W' := by
          rcases hsta with ⟨y, hbd, hz⟩ | ⟨c, hrd, hcl, hz⟩
          · exact (rtake_bad g t e y _ w4 (hbd.later hb4)).mono fun en w5 ⟨he, ho, hb⟩ => ⟨he, ho, fun W' u e1 e2 e3 => RmG.err hz e2 (hb.same e1) e3⟩
          · refine (rtake_walk g t e xShut c w4 (hrd.later hb4) hs).mono fun en w5 ⟨ho, hm⟩ => ?_
            cases hp : needP t e xShut c with
            | error y =>
              rw [hp] at hm hz
              obtain ⟨hb, u0, v, rfl, rfl⟩ := hm
              exact ⟨rfl, ho, fun W' u e1 e2 e3 => RmG.err hz e2 (hb.same e1) e3⟩
            | ok zz =>
              obtain ⟨u0, d⟩ := zz
              rw [hp] at hm hz
              obtain ⟨hrd2, hdl, v, rfl, rfl⟩ := hm
              exact ⟨rfl, ho, fun W' u e1 e2 e3 => RmG.ok hz e2 (hrd2.same e1) hdl e3⟩
        clear hb4 hrep hr4 hm hat hsta
        go_wp2_with fail
        refine htk.mono ?_
        rintro en w5 ⟨rfl, ho6, hsta⟩
        replace hsta := hide hsta
        clear htk
        have hr5 : w5.heap[r]? = _ := (ho6.block r (blk_lt hr5') (by intro e; injection e with e; omega)).trans hr5'
        have hbx6 : w5.heap[q4]? = _ := (ho6.block q4 (blk_lt hbx4) (by intro e; injection e with e; omega)).trans hbx4
        have hrep6 : kSel.rep (fun b => r + 1 ≤ b) w5 s [.int .i64 k, .string n, .slice A m cp] := kSel.kept hrep5 fun b hb hlt => ⟨by omega, Nat.lt_of_lt_of_le hlt ho6.size, ho6.block b hlt (by intro e; injection e with e; omega)⟩
        obtain ⟨z0, zg, zo, zv⟩ := rsel_done (ho5.trans ho6) hW0 hgr (Nat.lt_succ_self r) hr5 hrep6
        have hdone := hide (hsta.out _ _ zg zo zv)
        (
              obtain ⟨z1, z2, z3, -⟩ := sel_cells z0
              clear z0 zg zo zv)
        (
              obtain ⟨y0, y1, y2, hfr⟩ := sel_cells hr5
              have fr0 := hfr 0
              have fr1 := hfr 1
              have fr2 := hfr 2
              have hrl5 := blk_lt hr5
              clear hfr)
        obtain ⟨j0, j1, j2, -⟩ := sel_cells hbx6
        have hql := blk_lt hbx6
        clear hrep5 hrep6 hr5' hr5 hbx4 hbx6 ho5 ho6 hsta hr2
        go_wp2
        exact end_sel rfl r _ _ _ rfl rfl z1 z2 z3 hdone.out
      · have k2 : (x.toList == [40]) = false := by rw [word_is]; exact decide_eq_false hx2
        rw [if_neg hx2] at hat
        by_cases hx3 : x = xAll
        · have k3 : (x.toList == [97, 108, 108]) = true := by rw [word_is]; exact decide_eq_true hx3
          rw [if_pos hx3] at hat
          replace hx1 := hide hx1
          replace hx2 := hide hx2
          replace hx3 := hide hx3
          clear hrr
          go_enter Tryz.func192, Tryz.ntmps192
          go_wp2_with (go_at_call 100; refine hg.mono ?_; rintro en w' ⟨rfl, rfl⟩)
          refine hnx.mono ?_
          rintro en w1 ⟨rfl, ho2, h2⟩
          have hs2 := ho2.size
          rw [hWs.out] at hs2
          have hr5 : w1.heap[r]? = _ := (ho2.block r (blk_lt hr1) (by intro e; injection e with e; omega)).trans hr1
          have hrep5 : kSel.rep (fun b => r + 1 ≤ b) w1 (.mk 1 ⟨#[]⟩ []) [.int .i64 1, .string ⟨#[]⟩, .slice none 0 0] := rep_sel.2 ⟨none, 0, rfl, Nat.le_refl _, fun h => absurd h (Nat.lt_irrefl 0)⟩
          obtain ⟨z0, zg, zo, zv⟩ := rsel_done (ho1.trans ho2) hW0 hgr (Nat.lt_succ_self r) hr5 hrep5
          have hdone := hide (RmG.ok (val := vSel) hat zo (h2.same zg) q1 zv)
          (
                obtain ⟨z1, z2, z3, -⟩ := sel_cells z0
                clear z0 zg zo zv)
          (
                obtain ⟨y0, y1, y2, hfr⟩ := sel_cells hr5
                have fr0 := hfr 0
                have fr1 := hfr 1
                have fr2 := hfr 2
                have hrl5 := blk_lt hr5
                clear hfr)
          clear hr5 hrep5 hat hnx hg c3 h2
          go_wp2
          exact end_sel rfl r _ _ _ rfl rfl z1 z2 z3 hdone.out
        · have k3 : (x.toList == [97, 108, 108]) = false := by rw [word_is]; exact decide_eq_false hx3
          rw [if_neg hx3] at hat
          replace hat := hide hat
          have hno : Hid (x ≠ xNot ∧ x ≠ xOpen ∧ x ≠ xAll) := hide ⟨hx1, hx2, hx3⟩
          clear hx1 hx2 hx3 hnx
          go_enter Tryz.func192, Tryz.ntmps192
          go_wp2_with (go_at_call 100; refine hg.mono ?_; rintro en w' ⟨rfl, rfl⟩)
          go_loopw [4] (fun i wr => ∃ k : Nat, k ≤ 6 ∧ i = .int .i64 k ∧ Hid (∀ j, j < k → selWs[j]? ≠ some x) ∧ Below W.heap.size W wr) (fun i _ => 6 - (intOf i).toNat)
          case atStart => exact ⟨0, Nat.zero_le _, rfl, hide fun j hj => absurd hj (Nat.not_lt_zero _), Below.refl _ _⟩
          case round =>
            obtain ⟨k, hk, rfl, hnone, hbr⟩ := hrel
            have hrrr := hrr.later hbr
            have hr2 : wr.heap[r]? = _ := (hbr.block r (blk_lt hr1)).trans hr1
            by_cases hk6 : k < 6
            · obtain ⟨z, hz⟩ : ∃ z, selWs[k]? = some z := ⟨_, List.getElem?_eq_getElem (by show k < 6; exact hk6)⟩
              have hLr : Lvs wr := by obtain ⟨tt, rr, h9⟩ := hL1; exact ⟨tt, rr, (hbr.block _ (blk_lt h9)).trans h9⟩
              have hcz := hLr.cell hz
              obtain ⟨c0, c1, c2, c3, c4, c8, hf9, hgl9⟩ := rr_cells hrrr
              have hbd : Below W.heap.size W wr.drew := ext_drew hbr
              have hGl : (1 : Nat) < wr.heap.size := by obtain ⟨tt, rr, h9⟩ := hLr; exact blk_lt h9
              have k0 : (0 : Int) ≤ (k : Int) := by omega
              have k1' : (k : Int) < 6 := by omega
              clear hf9 c0 c1 c2 c4 c8
              by_cases hxz : x = z
              · have hxk : (x.toList == z.toList) = true := by rw [toList_inj]; exact decide_eq_true hxz
                have hkk : Hid (leafK selWs x = k) := hide (leafK_at selWs x k hnone.out (.inr (by rw [hxz]; exact hz)))
                have hat2 : Hid (atomP codeB selWs t e (n0 + 1) a = (match identP codeB t e b with | .error y => .error y | .ok (n, c) => .ok (.mk (2 + (k : Int)) n [], c))) := hide (by
                  rw [hat.out, hkk.out, if_pos (by show k < 6; exact hk6)])
                have hrd := hrr.later hbd
                have hnx := rnext_walk g t e b x p wr.drew hrd q1 hs
                have hrdr : wr.drew.heap[r]? = _ := (hbd.block r (blk_lt hr1)).trans hr1
                have hbo : Only g w wr.drew := ho1.trans (only_of_below hbd _)
                have hszd := hbd.size
                rw [hWs.out] at hszd
                have e2 : IntKind.i64.wrap (2 + (k : Int)) = 2 + (k : Int) := IntWalk.i64_in _ (by omega)
                clear hat hkk hz hnone hg hrrr hr2
                replace hxz := hide hxz
                go_wp2
                go_region
                clear c3 hcz
                go_wp2_with fail
                refine hnx.mono ?_
                rintro en w1 ⟨rfl, ho2, h2⟩
                have hid := rname_walk g t e b w1 h2 hs
                have hs2 := ho2.size
                have hr4 : w1.heap[r]? = _ := (ho2.block r (blk_lt hrdr) (by intro e; injection e with e; omega)).trans hrdr
                clear hnx
                go_wp2_with fail
                refine hid.mono ?_
                rintro en w3 ⟨ho4, hm⟩
                clear hid
                have hs4 := ho4.size
                obtain ⟨n, rfl, hsta⟩ : ∃ n, en = .returned (.string n) ∧ ∀ W' u, W'.heap[g]? = w3.heap[g]? → Only g w W' → vSel w W' (.mk (2 + (k : Int)) n []) u → RmG g t e vSel (atomP codeB selWs t e (n0 + 1) a) w (.returned u) W' := by
                  cases hp : identP codeB t e b with
                  | error y =>
                    have hz := hat2.out
                    rw [hp] at hm hz
                    obtain ⟨hbd, n, v, rfl, he⟩ := hm
                    exact ⟨n, he, fun W' u e1 e2 e3 => RmG.err hz e2 (hbd.same e1) e3⟩
                  | ok z =>
                    have hz := hat2.out
                    obtain ⟨n, c⟩ := z
                    rw [hp] at hm hz
                    obtain ⟨hrd, hcl, v, rfl, he⟩ := hm
                    exact ⟨n, he, fun W' u e1 e2 e3 => RmG.ok hz e2 (hrd.same e1) hcl e3⟩
                have hr5 : w3.heap[r]? = _ := (ho4.block r (blk_lt hr4) (by intro e; injection e with e; omega)).trans hr4
                have hrep5 : kSel.rep (fun b => r + 1 ≤ b) w3 (.mk (2 + (k : Int)) n []) [.int .i64 (2 + (k : Int)), .string n, .slice none 0 0] := rep_sel.2 ⟨none, 0, rfl, Nat.le_refl _, fun h => absurd h (Nat.lt_irrefl 0)⟩
                obtain ⟨z0, zg, zo, zv⟩ := rsel_done (hbo.trans (ho2.trans ho4)) hW0 hgr (Nat.lt_succ_self r) hr5 hrep5
                have hdone := hide (hsta _ _ zg zo zv)
                (
                      obtain ⟨z1, z2, z3, -⟩ := sel_cells z0
                      clear z0 zg zo zv)
                (
                      obtain ⟨y0, y1, y2, hfr⟩ := sel_cells hr5
                      have fr0 := hfr 0
                      have fr1 := hfr 1
                      have fr2 := hfr 2
                      have hrl5 := blk_lt hr5
                      clear hfr)
                clear hr5 hrep5 hat2 hr4 hm hsta
                go_wp2
                exact end_sel rfl r _ _ _ rfl rfl z1 z2 z3 hdone.out
              · have hxk : (x.toList == z.toList) = false := by rw [toList_inj]; exact decide_eq_false hxz
                have hn2 : Hid (∀ j, j < k + 1 → selWs[j]? ≠ some x) := hide fun j hj => by
                  by_cases hjk : j = k
                  · subst hjk; rw [hz]; intro e; injection e with e; exact hxz e.symm
                  · exact hnone.out j (by omega)
                clear hz hnone hg
                replace hxz := hide hxz
                go_wp2
                go_region
                go_wp2
                go_roundw
                case rel => exact ⟨k + 1, by omega, by go_num, hn2, hbd⟩
                case measure => simp [intOf]; omega
            · obtain rfl : k = 6 := by omega
              have hkk : leafK selWs x = 6 := leafK_at selWs x 6 hnone.out (.inl rfl)
              have hz : atomP codeB selWs t e (n0 + 1) a = .error (p, 15) := by
                rw [hat.out, hkk, if_neg (by show ¬ 6 < 6; omega)]
              have hsy := rsyntax_walk g t e b x p wr hrrr q3 (by omega) q1 q2
              clear hat hkk hnone hg
              go_wp2_with fail
              refine hsy.mono ?_
              rintro en w1 ⟨rfl, ho2, h2⟩
              have hr5 : w1.heap[r]? = _ := (ho2.block r (blk_lt hr2) (by intro e; injection e with e; omega)).trans hr2
              have hrep5 : kSel.rep (fun b => r + 1 ≤ b) w1 (.mk 0 ⟨#[]⟩ []) [.int .i64 0, .string ⟨#[]⟩, .slice none 0 0] := rep_sel.2 ⟨none, 0, rfl, Nat.le_refl _, fun h => absurd h (Nat.lt_irrefl 0)⟩
              obtain ⟨z0, zg, zo, zv⟩ := rsel_done (ho1.trans ((only_of_below hbr _).trans ho2)) hW0 hgr (Nat.lt_succ_self r) hr5 hrep5
              have hdone := hide (RmG.err (val := vSel) hz zo (h2.same zg) zv)
              (
                    obtain ⟨z1, z2, z3, -⟩ := sel_cells z0
                    clear z0 zg zo zv)
              (
                    obtain ⟨y0, y1, y2, hfr⟩ := sel_cells hr5
                    have fr0 := hfr 0
                    have fr1 := hfr 1
                    have fr2 := hfr 2
                    have hrl5 := blk_lt hr5
                    clear hfr)
              clear hr5 hrep5 hz hr2 h2 hsy
              go_wp2
              exact end_sel rfl r _ _ _ rfl rfl z1 z2 z3 hdone.out
theorem ratom_all : ∀ f, AtomRAt f
  | 0 => fun _ _ _ _ _ _ _ _ _ _ hf => absurd hf (Nat.not_lt_zero _)
  | f + 1 => ratom_step f (ratom_all f)
end Go.Proofs.YtdnnahdafhddlaaGreatDoor

namespace Go.Proofs.YtdnnahdafhddlaaGreatDoor
open Go.RowKit
set_option maxRecDepth 100000

section
variable {α : Type} (p : α → Bool)
def backL (l : List α) : List α := (l.reverse.dropWhile p).reverse
theorem backL_cons (x : α) (l : List α) : backL p (x :: l) = if backL p l = [] then (if p x then [] else [x]) else x :: backL p l := by
  unfold backL
  rw [List.reverse_cons, List.dropWhile_append]
  cases h : l.reverse.dropWhile p with
  | nil => by_cases hx : p x = true <;> simp [hx]
  | cons a r => simp
theorem trim_front {x : α} {l : List α} (h : p x = true) : (backL p (x :: l)).dropWhile p = (backL p l).dropWhile p := by
  rw [backL_cons]
  by_cases h0 : backL p l = []
  · rw [if_pos h0, if_pos h, h0]
  · rw [if_neg h0, List.dropWhile_cons, if_pos h]
theorem trim_back {x : α} {l : List α} (h : p x = true) : backL p (l ++ [x]) = backL p l := by
  unfold backL
  rw [List.reverse_append]
  show ((x :: l.reverse).dropWhile p).reverse = _
  rw [List.dropWhile_cons, if_pos h]
theorem trim_keep {l : List α} (h1 : ∀ x, l.head? = some x → p x = false) (h2 : ∀ x, l.getLast? = some x → p x = false) : (backL p l).dropWhile p = l := by
  have e : backL p l = l := by
    unfold backL
    cases hl : l.reverse with
    | nil => simp at hl; simp [hl]
    | cons x r =>
      have hx := h2 x (by rw [← List.head?_reverse, hl]; rfl)
      rw [List.dropWhile_cons, if_neg (by rw [hx]; decide), ← hl, List.reverse_reverse]
  rw [e]
  cases l with
  | nil => rfl
  | cons x r => rw [List.dropWhile_cons, if_neg (by rw [h1 x rfl]; decide)]
end
theorem trimB_eq (z : ByteArray) : trimB z = ⟨((backL (List.contains [32]) z.data.toList).dropWhile (List.contains [32])).toArray⟩ := rfl
theorem sp_is (x : UInt8) : List.contains [32] x = decide (x.toNat = 32) := by
  rw [Bool.eq_iff_iff]
  simp [← UInt8.toNat_inj]
theorem bytes_cons {z : ByteArray} (hz : 0 < z.size) : z.data.toList = z[0] :: (z.extract 1 z.size).data.toList := by
  have hl : z.data.toList.length = z.size := ba_len z
  rw [extract_list, List.take_of_length_le (by rw [List.length_drop]; omega)]
  have h0 : 0 < z.data.toList.length := by omega
  have h1 : z.data.toList[0] = z[0] := rfl
  rw [← h1]
  exact (List.getElem_cons_drop h0).symm
theorem bytes_snoc {z : ByteArray} {q : Nat} (hq : z.size = q + 1) : z.data.toList = (z.extract 0 q).data.toList ++ [z[q]] := by
  have hl : z.data.toList.length = z.size := ba_len z
  have h := List.take_append_drop q z.data.toList
  rw [List.drop_eq_getElem_cons (by omega), List.drop_eq_nil_of_le (by omega)] at h
  rw [extract_list, List.drop_zero, Nat.sub_zero]
  exact h.symm
theorem trimB_front {z : ByteArray} (hz : 0 < z.size) (h : z[0].toNat = 32) : trimB (z.extract 1 z.size) = trimB z := by
  rw [trimB_eq z, bytes_cons hz, trim_front _ (by rw [sp_is]; exact decide_eq_true h)]
  rfl
theorem trimB_back {z : ByteArray} {q : Nat} (hq : z.size = q + 1) (h : z[q].toNat = 32) : trimB (z.extract 0 q) = trimB z := by
  rw [trimB_eq z, bytes_snoc hq, trim_back _ (by rw [sp_is]; exact decide_eq_true h)]
  rfl
theorem trimB_keep {z : ByteArray} (h1 : ∀ hz : 0 < z.size, z[0].toNat ≠ 32) (h2 : ∀ q (hq : z.size = q + 1), z[q].toNat ≠ 32) : trimB z = z := by
  have hl : z.data.toList.length = z.size := ba_len z
  rw [trimB_eq, trim_keep]
  · intro x hx
    by_cases hz : 0 < z.size
    · rw [bytes_cons hz] at hx
      injection hx with hx
      subst hx
      rw [sp_is]
      exact decide_eq_false (h1 hz)
    · rw [List.eq_nil_of_length_eq_zero (by omega : z.data.toList.length = 0)] at hx
      cases hx
  · intro x hx
    by_cases hz : 0 < z.size
    · obtain ⟨q, hq⟩ : ∃ q, z.size = q + 1 := ⟨z.size - 1, by omega⟩
      rw [bytes_snoc hq, List.getLast?_append] at hx
      simp at hx
      subst hx
      rw [sp_is]
      exact decide_eq_false (h2 q hq)
    · rw [List.eq_nil_of_length_eq_zero (by omega : z.data.toList.length = 0)] at hx
      cases hx
/-- Block b holds these strings first. -/
def RowT (w : World) (b : Nat) (l : List ByteArray) : Prop := ∃ (cs : Array Value) (ty : TypeId), w.heap[b]? = some (.cells cs ty (0, 0)) ∧ ∀ (j : Nat) (z : ByteArray), l[j]? = some z → cs[j]? = some (Value.string z)
theorem RowT.get {w : World} {b j : Nat} {l : List ByteArray} {z : ByteArray} (h : RowT w b l) (hj : l[j]? = some z) : w.cell? ⟨b, j, none⟩ = some (.string z) ∧ w.frozen? ⟨b, j, none⟩ = false ∧ b < w.heap.size := by
  obtain ⟨cs, ty, h1, h2⟩ := h
  refine ⟨?_, by simp [World.frozen?, h1], blk_lt h1⟩
  rw [cell_of_row w b j _ _ _ h1]
  exact h2 j z hj
theorem RowT.set {w : World} {b j : Nat} {l : List ByteArray} (h : RowT w b l) (z : ByteArray) : RowT (w.setCell ⟨b, j, none⟩ (.string z)) b (l.set j z) := by
  obtain ⟨cs, ty, h1, h2⟩ := h
  refine ⟨cs.setIfInBounds j (.string z), ty, ?_, fun i y hi => ?_⟩
  · simp only [World.setCell, Array.getElem?_modify, h1]
    rfl
  · rw [List.getElem?_set] at hi
    by_cases hij : j = i
    · subst hij
      rw [if_pos rfl] at hi
      split at hi
      · rename_i hlt
        injection hi with hi
        subst hi
        have := h2 j _ (List.getElem?_eq_getElem hlt)
        have := (Array.getElem?_eq_some_iff.1 this).1
        simp [this]
      · cases hi
    · rw [if_neg hij] at hi
      rw [Array.getElem?_setIfInBounds, if_neg hij]
      exact h2 i y hi
theorem RowT.later {w w' : World} {b : Nat} {l : List ByteArray} (h : RowT w b l) (hb : Below w.heap.size w w') : RowT w' b l := by
  obtain ⟨cs, ty, h1, h2⟩ := h
  exact ⟨cs, ty, (hb.block b (blk_lt h1)).trans h1, h2⟩
theorem RowT.at {w : World} {b : Nat} {l : List ByteArray} (h : RowT w b l) {S : Nat → Prop} (hS : S b) : At kStr S w (some ⟨b, 0, none⟩) l := by
  obtain ⟨cs, ty, h1, h2⟩ := h
  refine fun _ => ⟨b, 0, rfl, hS, blk_lt h1, fun j x hx => ⟨[.string x], rfl, fun i u hu => ?_⟩⟩
  match i, hu with
  | 0, hu =>
    simp at hu
    subst hu
    rw [cell_of_row w b _ _ _ _ h1]
    simpa [kStr] using h2 j x hx
  | i + 1, hu => simp at hu
/-- The pieces of a text, as a row that may be written. -/
theorem split_row {s : ByteArray} {w w' : World} {en : Ending} (h : SplitGives s w en w') : ∃ gb cap, en = .returned (.slice (some ⟨gb, 0, none⟩) (splitOn1 59 s.data.toList).length cap) ∧ (splitOn1 59 s.data.toList).length ≤ cap ∧ w.heap.size ≤ gb ∧ RowT w' gb ((splitOn1 59 s.data.toList).map fun x => ⟨x.toArray⟩) ∧ Below w.heap.size w w' := by
  obtain ⟨v, rfl, hv, hb⟩ := h
  unfold StrsAt at hv
  have hne : 0 < (splitOn1 59 s.data.toList).length := by
    cases s.data.toList with
    | nil => simp [splitOn1]
    | cons x r =>
      unfold splitOn1
      split
      · simp
      · split <;> simp
  have hv2 := hv
  rcases hv.2 with ⟨_, h0⟩ | ⟨g, cap, cur, he, hB, hg, hn, _, _, _⟩
  · omega
  · subst he
    refine ⟨g, cap, rfl, hn, hB, ⟨cur, _, hg, fun j z hz => ?_⟩, hb⟩
    have := hv2.cells (g := g) rfl j (.string z) (by
      rw [List.getElem?_map] at hz ⊢
      cases hq : (splitOn1 59 s.data.toList)[j]? with
      | none => rw [hq] at hz; cases hz
      | some x => rw [hq] at hz; injection hz with hz; subst hz; rfl)
    rw [Addr.add_lit, cell_of_row _ _ _ _ _ _ hg] at this
    simpa using this

def szAt (b j : Nat) (w : World) : Nat := match w.cell? ⟨b, j, none⟩ with
  | some (.string s) => s.size
  | _ => 0
theorem szAt_row {w : World} {b j : Nat} {l : List ByteArray} {z : ByteArray} (h : RowT w b l) (hj : l[j]? = some z) : szAt b j w = z.size := by
  unfold szAt
  rw [(h.get hj).1]
theorem set_twice (l : List ByteArray) (j : Nat) (x y : ByteArray) : (l.set j x).set j y = l.set j y := List.set_set ..
theorem set_at {l : List ByteArray} {j : Nat} (h : j < l.length) (x : ByteArray) : (l.set j x)[j]? = some x := by
  rw [List.getElem?_set, if_pos rfl, if_pos h]
set_option maxHeartbeats 2000000 in
theorem rbracket_bad (g : Nat) (t : ByteArray) (e : Nat) (y : Nat × Int) (w : World) (h : RBad w g t e y) :
    Calls Tryz.prog 154 #[.pointer (some ⟨g, 0, none⟩)] w fun en w' => en = .returned (.slice none 0 0) ∧ Only g w w' ∧ RBad w' g t e y := by
  obtain ⟨p, x, f, hr, h0, h1⟩ := id h
  have hg := rgood_walk g t e p x f _ _ w hr
  rw [show (y.2 == 0) = false from by rw [beq_eq_false_iff_ne]; exact h0] at hg
  clear h0 h1 hr
  replace h := hide h
  go_enter Tryz.func154, Tryz.ntmps154
  go_wp2_with (go_at_call 100; refine hg.mono ?_; rintro en w' ⟨rfl, rfl⟩)
  go_ret
  exact ⟨rfl, Only.refl _ _, h.out⟩
theorem r3partsS_walk (s : ByteArray) (hs : s.size < 1073741824) (w : World) :
    Calls Tryz.prog 193 #[.string s] w fun e w' => SplitGives s w e w' := by
  have hcall := r3split_walk s hs w
  go_enter Tryz.func193, Tryz.ntmps193
  go_wp2_with fail
  refine hcall.mono ?_
  rintro e w1 ⟨v, rfl, hv, hb⟩
  go_wp2
  go_ret
  exact ⟨_, rfl, hv, hb⟩
/-- The row while its strings are trimmed: the first j are, the next is so far y. -/
def rowJ (l : List ByteArray) (j : Nat) (y : ByteArray) : List ByteArray := (trimTo l j).set j y
theorem rowJ_at {l : List ByteArray} {j : Nat} (h : j < l.length) (y : ByteArray) : (rowJ l j y)[j]? = some y := set_at (by rw [trimTo_len]; exact h) y
theorem rowJ_set (l : List ByteArray) (j : Nat) (x y : ByteArray) : (rowJ l j x).set j y = rowJ l j y := set_twice _ _ _ _
theorem rowJ_first {l : List ByteArray} {j : Nat} {z : ByteArray} (h : l[j]? = some z) : rowJ l j z = trimTo l j := by
  have h1 := trimTo_get h
  unfold rowJ
  refine List.ext_getElem? fun i => ?_
  rw [List.getElem?_set]
  by_cases e : j = i
  · subst e
    rw [if_pos rfl, if_pos (List.getElem?_eq_some_iff.1 h1).1, h1]
  · rw [if_neg e]
theorem rowJ_done {l : List ByteArray} {j : Nat} {z : ByteArray} (h : l[j]? = some z) : rowJ l j (trimB z) = trimTo l (j + 1) := trimTo_set h
set_option maxHeartbeats 8000000 in
theorem rbracket_walk (g : Nat) (t : ByteArray) (e : Nat) (a : Nat) (w : World) (h : RdyAt w g t e a) (hs : t.size + e < 1073741824) :
    Calls Tryz.prog 154 #[.pointer (some ⟨g, 0, none⟩)] w fun en w' => RmG g t e vStrs (brackP gramT t e a) w en w' := by
  have hnil : ∀ W : World, vStrs w W [] (.slice none 0 0) := fun W => ⟨none, 0, rfl, Nat.le_refl _, fun h => absurd h (Nat.lt_irrefl 0)⟩
  cases hl : lookT t e a with
  | bad b => exact (rbracket_bad g t e (b, 5) w (rdy_is_bad hl h)).mono fun en w' ⟨he, ho, hb⟩ => by rw [he]; exact RmG.err (x := []) (by unfold brackP; rw [nextP_bad hl]) ho hb (hnil _)
  | tok x p =>
    obtain ⟨hr, h1, h2, h3⟩ := rdy_is_tok hl h
    have hg := rgood_walk g t e _ x p _ _ w hr
    rw [show ((0 : Int) == 0) = true from rfl] at hg
    obtain ⟨b, hb⟩ : ∃ b, startT t a + x.size = b := ⟨_, rfl⟩
    have hn := nextP_tok hl
    rw [hb] at hr h1 hn
    obtain ⟨c0, c1, c2, c3, c4, c8, hf, hgl⟩ := rr_cells hr
    have hsy := rsyntax_walk g t e b x p w hr h3 (by omega) h1 h2
    by_cases hx : x = xSq
    · have hxk : (x.toList == [91]) = true := by rw [word_is]; exact decide_eq_true hx
      obtain ⟨q, hq⟩ : ∃ q, passT (fun c => c != 93) t b = q := ⟨_, rfl⟩
      have hqt : q ≤ t.size := by rw [← hq]; exact passT_in _ t h1
      have hbq : b ≤ q := by rw [← hq]; exact passT_ge _ t b
      have hbr : brackP gramT t e a = if q < t.size then .ok (bracketL (t.extract b q), q + 1) else .error (p, 15) := by
        unfold brackP
        rw [hn]
        show (if x = xSq then _ else _) = _
        rw [if_pos hx, hq]
        rfl
      have hpc := pass_cut 93 t _ b rfl h1
      rw [hq] at hpc
      have hdr : (t.extract b t.size).data.toList = t.data.toList.drop b := by rw [extract_list, List.take_of_length_le (by rw [List.length_drop, ba_len]; exact Nat.le_refl _)]
      rw [← hdr] at hpc
      have hcut := fun V : World => r5Cut_walk (t.extract b t.size) 93 93 rfl _ _ _ (by rw [ByteArray.size_extract]; omega) hpc V
      obtain ⟨yy, hyy⟩ : ∃ yy : ByteArray, (⟨(t.data.toList.drop (q + 1)).toArray⟩ : ByteArray) = yy := ⟨_, rfl⟩
      rw [show (⟨(t.extract b q).data.toList.toArray⟩ : ByteArray) = t.extract b q from rfl, hyy] at hcut
      have hbi : (b : Int) ≤ (t.size : Int) := by omega
      clear hf h hb hl hn hpc hdr hyy
      replace hx := hide hx
      by_cases hlt : q < t.size
      · rw [if_pos hlt] at hbr
        rw [decide_eq_true hlt] at hcut
        replace hbr := hide hbr
        have hesz : (t.extract b q).size = q - b := by rw [ByteArray.size_extract]; omega
        obtain ⟨Z, hZ⟩ : ∃ Z, t.extract b q = Z := ⟨_, rfl⟩
        rw [hZ] at hcut hbr hesz
        have hC : Cn2 g 0 (.string t) g 2 (.int .i64 b) w := ⟨c0, c2⟩
        have hcw := hide (fun (V : World) (hV : Below w.heap.size w V) => (hcut V).mono fun e w' ⟨he, hb⟩ => (⟨he, ext_trans hV hb, hC.later (ext_trans hV hb)⟩ : e = Ending.returned (.tuple #[.string Z, .string yy, .bool true]) ∧ Below w.heap.size w w' ∧ Cn2 g 0 (.string t) g 2 (.int .i64 b) w'))
        have hbw : Below w.heap.size w w := Below.refl _ _
        replace hZ := hide hZ
        replace hesz := hide hesz
        clear hcut hsy hnil
        go_enter Tryz.func154, Tryz.ntmps154
        go_wp2_with (go_at_call 100; refine hg.mono ?_; rintro en w' ⟨rfl, rfl⟩)
        go_upto_region 5 with (go_at_call 100; refine hg.mono ?_; rintro en w' ⟨rfl, rfl⟩)
        have hCd := hC.drew
        go_region_held3 (fun W' => W'.cell? ⟨g, 0, none⟩ = some (.string t) ∧ W'.cell? ⟨g, 2, none⟩ = some (.int .i64 b)) (first | ((repeat (first | (with_reducible assumption) | (with_reducible refine Cn2.alloc ?_ _) | (with_reducible refine Cn2.drew ?_) | (with_reducible refine Cn2.set ?_ ?_ ?_ _) | omega)); done)) (first | (go_at_call 56; refine (hcw.out _ (by repeat (first | (with_reducible assumption) | (with_reducible refine ext_alloc ?_ _) | (with_reducible refine ext_drew ?_)))).mono ?_; rintro e w3 ⟨rfl, hb3, hx3⟩))
        clear hC hCd hcw hbw hx3 c0 c1 c2 c3 c4 c8 hg
        have hr3 := hr.later hb3
        obtain ⟨c0, c1, c2, c3, c4, c8, hf3, hgl3⟩ := rr_cells hr3
        have f2 := hf3 2
        have hes := hesz.out
        have e1 : IntKind.i64.wrap ((Z.size : Int) + 1) = (Z.size : Int) + 1 := IntWalk.i64_in _ (by omega)
        have e2 : IntKind.i64.wrap ((b : Int) + ((Z.size : Int) + 1)) = ((q + 1 : Nat) : Int) := (IntWalk.i64_in _ (by omega)).trans (by omega)
        have hset := rr_pos hr3 (q + 1)
        have hnx := rnext_walk g t e (q + 1) x p _ hset.1 (by omega) hs
        have ho3 := (only_of_below hb3 _).trans hset.2
        have hZs : Z.size < 1073741824 := by omega
        clear hf3 hr hr3 hb3 hset hes
        go_wp2_with fail
        refine hnx.mono ?_
        rintro en w5 ⟨rfl, ho5, h5⟩
        have ho5 := ho3.trans ho5
        clear hnx c0 c1 c2 c3 c4 c8 f2 ho3
        have hpa := r3partsS_walk Z hZs w5
        go_wp2_with fail
        refine hpa.mono ?_
        intro en w6 h6
        obtain ⟨gb, cap, rfl, hcap, hgb, hrow, hb6⟩ := split_row h6
        clear hpa h6
        have hgr5 := h5.lt
        have h7 := h5.later hb6
        have ho7 := Only.later ho5 hb6
        obtain ⟨zs, hzs⟩ : ∃ zs : List ByteArray, (splitOn1 59 Z.data.toList).map (fun x => (⟨x.toArray⟩ : ByteArray)) = zs := ⟨_, rfl⟩
        obtain ⟨N, hN⟩ : ∃ N, (splitOn1 59 Z.data.toList).length = N := ⟨_, rfl⟩
        have hzl : zs.length = N := by rw [← hzs, List.length_map, hN]
        have hbl : bracketL Z = zs.map trimB := by
          unfold bracketL
          rw [← hzs, ← splitB_one, List.map_map, List.map_map]
          rfl
        rw [hbl] at hbr
        rw [hzs] at hrow
        rw [hN] at hcap ⊢
        have hrow0 : RowT w6 gb (trimTo zs 0) := hrow
        have hsplit : Lib.splitB ⟨#[59]⟩ 0 (Lib.countB Z ⟨#[59]⟩) Z = zs := by
          rw [← hzs, ← splitB_one, List.map_map]
          exact (List.map_id _).symm
        have hzb := hide (fun z (hz : z ∈ zs) => Nat.le_trans (splitB_mem hsplit hz) (Nat.le_of_lt hZs))
        have hNl : N ≤ 9223372036854775807 := by
          have h1 := splitOn1_len 59 Z.data.toList
          rw [ba_len, hN] at h1
          omega
        have hgb1 : w.heap.size ≤ gb := Nat.le_trans ho5.size hgb
        have hgne : g ≠ gb := by omega
        replace hzl := hide hzl
        clear hrow hb6 hzs hN hbl h5 hsplit
        go_wp2
        go_loopw [7] (fun i wr => ∃ j : Nat, j ≤ N ∧ i = .int .i64 j ∧ RowT wr gb (trimTo zs j) ∧ RdyAt wr g t e (q + 1) ∧ Only g w wr) (fun i _ => N - (intOf i).toNat)
        case atStart => exact ⟨0, Nat.zero_le _, rfl, hrow0, h7, ho7⟩
        case round =>
          clear hrow0 h7 ho7
          obtain ⟨j, hj, rfl, hrj, hrd, ho⟩ := hrel
          by_cases hjN : j < N
          · obtain ⟨z, hz⟩ : ∃ z, zs[j]? = some z := ⟨_, List.getElem?_eq_getElem (by rw [hzl.out]; exact hjN)⟩
            have hjl : j < zs.length := by rw [hzl.out]; exact hjN
            have hzz := hzb.out z (List.mem_of_getElem? hz)
            rw [← rowJ_first hz] at hrj
            have k0 : (0 : Int) ≤ (j : Int) := by omega
            have k1 : (j : Int) < (N : Int) := by omega
            go_wp2
            go_loopw [] (fun wr => ∃ y, RowT wr gb (rowJ zs j y) ∧ Hid (trimB y = trimB z) ∧ y.size ≤ z.size ∧ RdyAt wr g t e (q + 1) ∧ Only g w wr) (fun wr => szAt gb j wr)
            case atStart => exact ⟨z, hrj, hide rfl, Nat.le_refl _, hrd, ho⟩
            case round =>
              clear hrj hrd ho
              obtain ⟨y, hrj, hty, hyz, hrd, ho⟩ := hrel
              have hsz := hide (szAt_row hrj (rowJ_at hjl y))
              obtain ⟨cy, fy, gl⟩ := hrj.get (rowJ_at hjl y)
              by_cases hy0 : 0 < y.size
              · obtain ⟨n0, hn0⟩ : ∃ n0, y[0].toNat = n0 := ⟨_, rfl⟩
                have hyi : (0 : Int) < (y.size : Int) := by omega
                have hy1 : (1 : Int) ≤ (y.size : Int) := by omega
                by_cases h32 : n0 = 32
                · have hset := hrj.set (j := j) (y.extract 1 y.size)
                  rw [rowJ_set] at hset
                  have hty2 : Hid (trimB (y.extract 1 y.size) = trimB z) := hide (by rw [trimB_front hy0 (hn0.trans h32)]; exact hty.out)
                  have hrd2 : RdyAt (wr.setCell ⟨gb, j, none⟩ (.string (y.extract 1 y.size))) g t e (q + 1) := hrd.same (Below.heap_setCell _ _ _ g (by show g ≠ gb; exact hgne))
                  have ho2 : Only g w (wr.setCell ⟨gb, j, none⟩ (.string (y.extract 1 y.size))) := only_setCell ho (.inr hgb1) _
                  have hme : Hid (szAt gb j (wr.setCell ⟨gb, j, none⟩ (.string (y.extract 1 y.size))) < szAt gb j wr) := hide (by
                    rw [szAt_row hset (rowJ_at hjl _), hsz.out, ByteArray.size_extract]; omega)
                  subst h32
                  clear hrj hrd ho hty hsz
                  go_wp2
                  go_roundw
                  case rel => exact ⟨_, hset, hty2, by rw [ByteArray.size_extract]; omega, hrd2, ho2⟩
                  case measure => exact hme.out
                · have hne : ((n0 : Int) == 32) = false := by rw [beq_eq_false_iff_ne]; omega
                  have hfront : Hid (∀ hz : 0 < y.size, y[0].toNat ≠ 32) := hide (fun _ e => h32 (hn0.symm.trans e))
                  replace h32 := hide h32
                  (
                                    go_wp2_with fail
                                    clear hsz cy fy gl
                                    go_loopw [] (fun wr => ∃ y, RowT wr gb (rowJ zs j y) ∧ Hid (trimB y = trimB z) ∧ y.size ≤ z.size ∧ Hid (∀ hz : 0 < y.size, y[0].toNat ≠ 32) ∧ RdyAt wr g t e (q + 1) ∧ Only g w wr) (fun wr => szAt gb j wr)
                                    case atStart => exact ⟨y, hrj, hty, hyz, hfront, hrd, ho⟩
                                    case round =>
                                      clear hrj hty hfront hrd ho
                                      obtain ⟨y, hrj, hty, hyz, hfront, hrd, ho⟩ := hrel
                                      have hsz := hide (szAt_row hrj (rowJ_at hjl y))
                                      obtain ⟨cy, fy, gl⟩ := hrj.get (rowJ_at hjl y)
                                      by_cases hy0 : 0 < y.size
                                      · obtain ⟨k, hk⟩ : ∃ k, y.size = k + 1 := ⟨y.size - 1, by omega⟩
                                        have hkl : k < y.size := by omega
                                        obtain ⟨m0, hm0⟩ : ∃ m0, y[k].toNat = m0 := ⟨_, rfl⟩
                                        have hyi : (0 : Int) < (y.size : Int) := by omega
                                        have hkz : (0 : Int) ≤ (k : Int) := by omega
                                        have hki : (k : Int) < (y.size : Int) := by omega
                                        have hkj : (k : Int) ≤ (y.size : Int) := by omega
                                        have e9 : IntKind.i64.wrap ((y.size : Int) - 1) = (k : Int) := (IntWalk.i64_in _ (by omega)).trans (by omega)
                                        replace hk := hide hk
                                        by_cases h32 : m0 = 32
                                        · go_upto_region 17 with fail
                                          subst h32
                                          go_quiet (fail)
                                          have hrj3 := hrj.later (ext_drewN (Below.refl _ _) nq)
                                          have hrd3 := hrd.later (ext_drewN (Below.refl _ _) nq)
                                          have ho3 := Only.later ho (ext_drewN (Below.refl _ _) nq)
                                          have hsz3 : Hid (szAt gb j wr = y.size) := hsz
                                          clear hsz hrj hrd ho cy fy gl
                                          generalize wr.drewN nq = wx at *
                                          obtain ⟨cy, fy, gl⟩ := hrj3.get (rowJ_at hjl y)
                                          have hset := hrj3.set (j := j) (y.extract 0 k)
                                          rw [rowJ_set] at hset
                                          have hset2 := hset.later (ext_drew (Below.refl _ _))
                                          have hesz : (y.extract 0 k).size = k := by rw [ByteArray.size_extract]; omega
                                          have hk2 := hk.out
                                          have hty2 : Hid (trimB (y.extract 0 k) = trimB z) := hide (by rw [trimB_back hk2 hm0]; exact hty.out)
                                          have hyz2 : (y.extract 0 k).size ≤ z.size := by omega
                                          have hfr2 : Hid (∀ hz : 0 < (y.extract 0 k).size, (y.extract 0 k)[0].toNat ≠ 32) := hide (fun hz e => hfront.out hy0 (by rw [← e]; congr 1; rw [ByteArray.getElem_extract]))
                                          have hrd2 : RdyAt ((wx.setCell ⟨gb, j, none⟩ (.string (y.extract 0 k))).drew) g t e (q + 1) := (hrd3.same (Below.heap_setCell _ _ _ g (by show g ≠ gb; exact hgne))).later (ext_drew (Below.refl _ _))
                                          have ho2 : Only g w ((wx.setCell ⟨gb, j, none⟩ (.string (y.extract 0 k))).drew) := Only.later (only_setCell ho3 (.inr hgb1) _) (ext_drew (Below.refl _ _))
                                          have hme : Hid (szAt gb j ((wx.setCell ⟨gb, j, none⟩ (.string (y.extract 0 k))).drew) < szAt gb j wr) := hide (by
                                            rw [szAt_row hset2 (rowJ_at hjl _), hsz3.out, hesz]; omega)
                                          clear hrj3 hrd3 ho3 hset hk2 hesz hty hfront hsz3
                                          replace hme := hme
                                          go_wp2
                                          go_region
                                          go_wp2
                                          go_roundw
                                          case rel => exact ⟨_, hset2, hty2, hyz2, hfr2, hrd2, ho2⟩
                                          case measure => exact hme.out
                                        · have hne9 : ((m0 : Int) == 32) = false := by rw [beq_eq_false_iff_ne]; omega
                                          have hdone : trimB y = y := trimB_keep hfront.out (fun k' hk' => by
                                            obtain rfl : k' = k := by have := hk.out; omega
                                            rw [hm0]; exact h32)
                                          replace h32 := hide h32
                                          have hrow9 : rowJ zs j y = trimTo zs (j + 1) := by rw [← hdone, hty.out]; exact rowJ_done hz
                                          rw [hrow9] at hrj
                                          clear hdone hrow9 hty hfront hsz
                                          go_upto_region 17 with fail
                                          go_quiet (fail)
                                          have hrj3 := hrj.later (ext_drewN (Below.refl _ _) nq)
                                          have hrd3 := hrd.later (ext_drewN (Below.refl _ _) nq)
                                          have ho3 := Only.later ho (ext_drewN (Below.refl _ _) nq)
                                          clear hrj hrd ho cy fy gl
                                          generalize wr.drewN nq = wx at *
                                          go_wp2
                                          go_roundw
                                          case rel => exact ⟨j + 1, by omega, by go_num, hrj3, hrd3, ho3⟩
                                          case measure => simp [intOf]; omega
                                      · have hy0' : ¬ (0 : Int) < (y.size : Int) := by omega
                                        have hyd : decide ((0 : Int) < (y.size : Int)) = false := decide_eq_false hy0'
                                        have hdone : trimB y = y := trimB_keep hfront.out (fun k' hk' => by omega)
                                        have hrow9 : rowJ zs j y = trimTo zs (j + 1) := by rw [← hdone, hty.out]; exact rowJ_done hz
                                        rw [hrow9] at hrj
                                        clear hdone hrow9 hty hfront hsz
                                        go_upto_region 17 with fail
                                        go_quiet (fail)
                                        have hrj3 := hrj.later (ext_drewN (Below.refl _ _) nq)
                                        have hrd3 := hrd.later (ext_drewN (Below.refl _ _) nq)
                                        have ho3 := Only.later ho (ext_drewN (Below.refl _ _) nq)
                                        clear hrj hrd ho cy fy gl
                                        generalize wr.drewN nq = wx at *
                                        go_wp2
                                        go_roundw
                                        case rel => exact ⟨j + 1, by omega, by go_num, hrj3, hrd3, ho3⟩
                                        case measure => simp [intOf]; omega)
              · have hy0' : ¬ (0 : Int) < (y.size : Int) := by omega
                have hfront : Hid (∀ hz : 0 < y.size, y[0].toNat ≠ 32) := hide (fun hz => absurd hz hy0)
                (
                                  go_wp2_with fail
                                  clear hsz cy fy gl
                                  go_loopw [] (fun wr => ∃ y, RowT wr gb (rowJ zs j y) ∧ Hid (trimB y = trimB z) ∧ y.size ≤ z.size ∧ Hid (∀ hz : 0 < y.size, y[0].toNat ≠ 32) ∧ RdyAt wr g t e (q + 1) ∧ Only g w wr) (fun wr => szAt gb j wr)
                                  case atStart => exact ⟨y, hrj, hty, hyz, hfront, hrd, ho⟩
                                  case round =>
                                    clear hrj hty hfront hrd ho
                                    obtain ⟨y, hrj, hty, hyz, hfront, hrd, ho⟩ := hrel
                                    have hsz := hide (szAt_row hrj (rowJ_at hjl y))
                                    obtain ⟨cy, fy, gl⟩ := hrj.get (rowJ_at hjl y)
                                    by_cases hy0 : 0 < y.size
                                    · obtain ⟨k, hk⟩ : ∃ k, y.size = k + 1 := ⟨y.size - 1, by omega⟩
                                      have hkl : k < y.size := by omega
                                      obtain ⟨m0, hm0⟩ : ∃ m0, y[k].toNat = m0 := ⟨_, rfl⟩
                                      have hyi : (0 : Int) < (y.size : Int) := by omega
                                      have hkz : (0 : Int) ≤ (k : Int) := by omega
                                      have hki : (k : Int) < (y.size : Int) := by omega
                                      have hkj : (k : Int) ≤ (y.size : Int) := by omega
                                      have e9 : IntKind.i64.wrap ((y.size : Int) - 1) = (k : Int) := (IntWalk.i64_in _ (by omega)).trans (by omega)
                                      replace hk := hide hk
                                      by_cases h32 : m0 = 32
                                      · go_upto_region 17 with fail
                                        subst h32
                                        go_quiet (fail)
                                        have hrj3 := hrj.later (ext_drewN (Below.refl _ _) nq)
                                        have hrd3 := hrd.later (ext_drewN (Below.refl _ _) nq)
                                        have ho3 := Only.later ho (ext_drewN (Below.refl _ _) nq)
                                        have hsz3 : Hid (szAt gb j wr = y.size) := hsz
                                        clear hsz hrj hrd ho cy fy gl
                                        generalize wr.drewN nq = wx at *
                                        obtain ⟨cy, fy, gl⟩ := hrj3.get (rowJ_at hjl y)
                                        have hset := hrj3.set (j := j) (y.extract 0 k)
                                        rw [rowJ_set] at hset
                                        have hset2 := hset.later (ext_drew (Below.refl _ _))
                                        have hesz : (y.extract 0 k).size = k := by rw [ByteArray.size_extract]; omega
                                        have hk2 := hk.out
                                        have hty2 : Hid (trimB (y.extract 0 k) = trimB z) := hide (by rw [trimB_back hk2 hm0]; exact hty.out)
                                        have hyz2 : (y.extract 0 k).size ≤ z.size := by omega
                                        have hfr2 : Hid (∀ hz : 0 < (y.extract 0 k).size, (y.extract 0 k)[0].toNat ≠ 32) := hide (fun hz e => hfront.out hy0 (by rw [← e]; congr 1; rw [ByteArray.getElem_extract]))
                                        have hrd2 : RdyAt ((wx.setCell ⟨gb, j, none⟩ (.string (y.extract 0 k))).drew) g t e (q + 1) := (hrd3.same (Below.heap_setCell _ _ _ g (by show g ≠ gb; exact hgne))).later (ext_drew (Below.refl _ _))
                                        have ho2 : Only g w ((wx.setCell ⟨gb, j, none⟩ (.string (y.extract 0 k))).drew) := Only.later (only_setCell ho3 (.inr hgb1) _) (ext_drew (Below.refl _ _))
                                        have hme : Hid (szAt gb j ((wx.setCell ⟨gb, j, none⟩ (.string (y.extract 0 k))).drew) < szAt gb j wr) := hide (by
                                          rw [szAt_row hset2 (rowJ_at hjl _), hsz3.out, hesz]; omega)
                                        clear hrj3 hrd3 ho3 hset hk2 hesz hty hfront hsz3
                                        replace hme := hme
                                        go_wp2
                                        go_region
                                        go_wp2
                                        go_roundw
                                        case rel => exact ⟨_, hset2, hty2, hyz2, hfr2, hrd2, ho2⟩
                                        case measure => exact hme.out
                                      · have hne9 : ((m0 : Int) == 32) = false := by rw [beq_eq_false_iff_ne]; omega
                                        have hdone : trimB y = y := trimB_keep hfront.out (fun k' hk' => by
                                          obtain rfl : k' = k := by have := hk.out; omega
                                          rw [hm0]; exact h32)
                                        replace h32 := hide h32
                                        have hrow9 : rowJ zs j y = trimTo zs (j + 1) := by rw [← hdone, hty.out]; exact rowJ_done hz
                                        rw [hrow9] at hrj
                                        clear hdone hrow9 hty hfront hsz
                                        go_upto_region 17 with fail
                                        go_quiet (fail)
                                        have hrj3 := hrj.later (ext_drewN (Below.refl _ _) nq)
                                        have hrd3 := hrd.later (ext_drewN (Below.refl _ _) nq)
                                        have ho3 := Only.later ho (ext_drewN (Below.refl _ _) nq)
                                        clear hrj hrd ho cy fy gl
                                        generalize wr.drewN nq = wx at *
                                        go_wp2
                                        go_roundw
                                        case rel => exact ⟨j + 1, by omega, by go_num, hrj3, hrd3, ho3⟩
                                        case measure => simp [intOf]; omega
                                    · have hy0' : ¬ (0 : Int) < (y.size : Int) := by omega
                                      have hyd : decide ((0 : Int) < (y.size : Int)) = false := decide_eq_false hy0'
                                      have hdone : trimB y = y := trimB_keep hfront.out (fun k' hk' => by omega)
                                      have hrow9 : rowJ zs j y = trimTo zs (j + 1) := by rw [← hdone, hty.out]; exact rowJ_done hz
                                      rw [hrow9] at hrj
                                      clear hdone hrow9 hty hfront hsz
                                      go_upto_region 17 with fail
                                      go_quiet (fail)
                                      have hrj3 := hrj.later (ext_drewN (Below.refl _ _) nq)
                                      have hrd3 := hrd.later (ext_drewN (Below.refl _ _) nq)
                                      have ho3 := Only.later ho (ext_drewN (Below.refl _ _) nq)
                                      clear hrj hrd ho cy fy gl
                                      generalize wr.drewN nq = wx at *
                                      go_wp2
                                      go_roundw
                                      case rel => exact ⟨j + 1, by omega, by go_num, hrj3, hrd3, ho3⟩
                                      case measure => simp [intOf]; omega)
          · obtain rfl : j = N := by omega
            have hall : trimTo zs j = zs.map trimB := by
              unfold trimTo
              rw [← hzl.out, List.take_length, List.drop_length, List.append_nil]
            rw [hall] at hrj
            have hfin : Hid (RmG g t e vStrs (brackP gramT t e a) w (.returned (.slice (some ⟨gb, 0, none⟩) j cap)) wr) := hide (RmG.ok hbr.out ho hrd hlt ⟨_, cap, by rw [List.length_map, hzl.out], by rw [List.length_map, hzl.out]; exact hcap, hrj.at hgb1⟩)
            clear hrj hrd ho hall
            go_wp2
            go_ret
            exact hfin.out
      · rw [if_neg hlt] at hbr
        rw [decide_eq_false hlt] at hcut
        replace hbr := hide hbr
        obtain ⟨Z, hZ⟩ : ∃ Z, t.extract b q = Z := ⟨_, rfl⟩
        rw [hZ] at hcut
        have hC : Cn2 g 0 (.string t) g 2 (.int .i64 b) w := ⟨c0, c2⟩
        have hcw := hide (fun (V : World) (hV : Below w.heap.size w V) => (hcut V).mono fun e w' ⟨he, hb⟩ => (⟨he, ext_trans hV hb, hC.later (ext_trans hV hb)⟩ : e = Ending.returned (.tuple #[.string Z, .string yy, .bool false]) ∧ Below w.heap.size w w' ∧ Cn2 g 0 (.string t) g 2 (.int .i64 b) w'))
        have hbw : Below w.heap.size w w := Below.refl _ _
        replace hZ := hide hZ
        clear hcut hsy
        go_enter Tryz.func154, Tryz.ntmps154
        go_wp2_with (go_at_call 100; refine hg.mono ?_; rintro en w' ⟨rfl, rfl⟩)
        go_upto_region 5 with (go_at_call 100; refine hg.mono ?_; rintro en w' ⟨rfl, rfl⟩)
        have hCd := hC.drew
        go_region_held3 (fun W' => W'.cell? ⟨g, 0, none⟩ = some (.string t) ∧ W'.cell? ⟨g, 2, none⟩ = some (.int .i64 b)) (first | ((repeat (first | (with_reducible assumption) | (with_reducible refine Cn2.alloc ?_ _) | (with_reducible refine Cn2.drew ?_) | (with_reducible refine Cn2.set ?_ ?_ ?_ _) | omega)); done)) (first | (go_at_call 56; refine (hcw.out _ (by repeat (first | (with_reducible assumption) | (with_reducible refine ext_alloc ?_ _) | (with_reducible refine ext_drew ?_)))).mono ?_; rintro e w3 ⟨rfl, hb3, hx3⟩))
        clear hC hCd hcw hbw hx3 c0 c1 c2 c3 c4 c8 hg
        have hr3 := hr.later hb3
        have hsy := rsyntax_walk g t e b x p w3 hr3 h3 (by omega) h1 h2
        have ho3 := only_of_below hb3 (some g)
        clear hr hr3 hb3
        go_wp2_with fail
        refine hsy.mono ?_
        rintro en w4 ⟨rfl, ho, h4⟩
        have hfin : Hid (RmG g t e vStrs (brackP gramT t e a) w (.returned (.slice none 0 0)) w4) := hide (RmG.err (x := []) hbr.out (ho3.trans ho) h4 (hnil _))
        clear hsy h4 ho ho3 hnil
        go_wp2
        go_ret
        exact hfin.out
    · have hxk : (x.toList == [91]) = false := by rw [word_is]; exact decide_eq_false hx
      have hz : brackP gramT t e a = .error (p, 15) := by unfold brackP; rw [hn]; exact if_neg hx
      replace hx := hide hx
      clear h hr h2 h3 hn hb hl hf
      replace hz := hide hz
      go_enter Tryz.func154, Tryz.ntmps154
      go_wp2_with (go_at_call 100; refine hg.mono ?_; rintro en w' ⟨rfl, rfl⟩)
      refine hsy.mono ?_
      rintro en w1 ⟨rfl, ho, h4⟩
      obtain ⟨p1, x1, f1, hr1, q1, -⟩ := id h4
      have hg1 := rgood_walk g t e p1 x1 f1 _ _ w1 hr1
      rw [show (((p, (15 : Int)) : Nat × Int).2 == 0) = false from rfl] at hg1
      replace h4 := hide h4
      clear hr1 q1 hsy hg c0 c1 c2 c3 c4 c8
      go_wp2_with (go_at_call 100; refine hg1.mono ?_; rintro en w' ⟨rfl, rfl⟩)
      go_ret
      exact RmG.err (x := []) hz.out ho h4.out (hnil _)
end Go.Proofs.YtdnnahdafhddlaaGreatDoor
