/- Walk of the parser's rule. Conditions: the parser's cells are as PsAt says; what the program's variables hold. The reference's readers one behind another, whether an error is noted or not. Conditions: the reader's cells are as RSt says; the words of the selections are as Lvs says. -/
import Derived.Test.YtdnnahdafhddlaaGreatDoorYRrF
namespace Go.Proofs.YtdnnahdafhddlaaGreatDoor
open Go.RowKit
set_option maxRecDepth 100000

/-- Block b holds these cells. -/
def RowV (ty : TypeId) (w : World) (b : Nat) (vs : List Value) : Prop := ∃ cs : Array Value, w.heap[b]? = some (.cells cs ty (0, 0)) ∧ cs.toList = vs
section
variable {ty : TypeId} {w w' : World} {b : Nat} {vs : List Value}
theorem RowV.get (h : RowV ty w b vs) {j : Nat} {u : Value} (hj : vs[j]? = some u) : w.cell? ⟨b, j, none⟩ = some u := by
  obtain ⟨cs, h1, h2⟩ := h
  rw [cell_of_row w b j _ _ _ h1]
  have : cs.toList[j]? = some u := by rw [h2, hj]
  simpa using this
theorem RowV.free (h : RowV ty w b vs) (j : Nat) : w.frozen? ⟨b, j, none⟩ = false := by
  obtain ⟨cs, h1, h2⟩ := h
  simp [World.frozen?, h1]
theorem RowV.lt (h : RowV ty w b vs) : b < w.heap.size := by
  obtain ⟨cs, h1, h2⟩ := h
  exact blk_lt h1
theorem RowV.set (h : RowV ty w b vs) (j : Nat) (u : Value) : RowV ty (w.setCell ⟨b, j, none⟩ u) b (vs.set j u) := by
  obtain ⟨cs, h1, h2⟩ := h
  refine ⟨cs.setIfInBounds j u, ?_, by rw [Array.toList_setIfInBounds, h2]⟩
  simp only [World.setCell, Array.getElem?_modify, h1]
  rfl
theorem RowV.later (h : RowV ty w b vs) (hb : Below w.heap.size w w') : RowV ty w' b vs := by
  obtain ⟨cs, h1, h2⟩ := h
  exact ⟨cs, (hb.block b (blk_lt h1)).trans h1, h2⟩
theorem RowV.only {g : Nat} (h : RowV ty w b vs) (ho : Only g w w') (hne : b ≠ g) : RowV ty w' b vs := by
  obtain ⟨cs, h1, h2⟩ := h
  exact ⟨cs, (ho.block b (blk_lt h1) (by intro e; injection e with e; exact hne e)).trans h1, h2⟩
end
theorem then_of {α β : Type} {p : Nat → Res α} {q : α → Nat → Res β} {a b : Nat} {x : α} (h : p a = .ok (x, b)) : thenP p q a = q x b := by unfold thenP; rw [h]
theorem then_bad {α β : Type} {p : Nat → Res α} {q : α → Nat → Res β} {a : Nat} {y : Nat × Int} (h : p a = .error y) : thenP p q a = .error y := by unfold thenP; rw [h]
theorem numbered_walk (k : Nat) (w : World) : Calls Tryz.prog 30 #[.int .i64 k] w fun e w' => e = .returned (.bool (numbK k)) ∧ w = w' := by
  by_cases h : k = 7 ∨ k = 8 ∨ k = 9
  · rw [show numbK k = true from by unfold numbK; simp; omega]
    go_enter Tryz.func30, Tryz.ntmps30
    go_wp2
    all_goals
      go_ret
      exact ⟨ret_bool (by simp; try omega), rfl⟩
  · rw [show numbK k = false from by unfold numbK; simp; omega]
    go_enter Tryz.func30, Tryz.ntmps30
    go_wp2
    all_goals
      go_ret
      exact ⟨ret_bool (by simp; try omega), rfl⟩
/-- The cells of a rule. -/
def ruleL (n : ByteArray) (wt k : Nat) (f0 : Int) (f1 : ByteArray) (f2 : Value) (s0 : Int) (s1 : ByteArray) (s2 : Value) (m : Nat) : List Value :=
  [.string n, .int .i64 wt, .int .i64 k, .int .i64 f0, .string f1, f2, .int .i64 s0, .string s1, s2, .int .i64 m, .slice none 0 0, .slice none 0 0, .int .i64 0]
def ruleV (n : ByteArray) (wt k : Nat) (f0 : Int) (f1 : ByteArray) (f2 : Value) (s0 : Int) (s1 : ByteArray) (s2 : Value) (m : Nat) : Value :=
  .agg #[.string n, .int .i64 wt, .int .i64 k, .int .i64 f0, .string f1, f2, .int .i64 s0, .string s1, s2, .int .i64 m, .slice none 0 0, .slice none 0 0, .int .i64 0]
theorem load13 {w : World} {g : Nat} {n : ByteArray} {wt k : Nat} {f0 : Int} {f1 : ByteArray} {f2 : Value} {s0 : Int} {s1 : ByteArray} {s2 : Value} {m : Nat} (h : RowV 43 w g (ruleL n wt k f0 f1 f2 s0 s1 s2 m)) :
    (loadVar 43 ⟨g, 0, none⟩).run Tryz.prog w = .ok (ruleV n wt k f0 f1 f2 s0 s1 s2 m) w := by
  have h0 := h.get (j := 0) rfl
  have h1 := h.get (j := 1) rfl
  have h2 := h.get (j := 2) rfl
  have h3 := h.get (j := 3) rfl
  have h4 := h.get (j := 4) rfl
  have h5 := h.get (j := 5) rfl
  have h6 := h.get (j := 6) rfl
  have h7 := h.get (j := 7) rfl
  have h8 := h.get (j := 8) rfl
  have h9 := h.get (j := 9) rfl
  have h10 := h.get (j := 10) rfl
  have h11 := h.get (j := 11) rfl
  have h12 := h.get (j := 12) rfl
  simp [go_sem, h0, h1, h2, h3, h4, h5, h6, h7, h8, h9, h10, h11, h12, ruleV]
/-- What is read of a rule, with all that its parts hold, in new blocks. -/
def vRule (w w' : World) (u : RuleT) (v : Value) : Prop := ∃ f0 f1 fA fl fc s0 s1 sA sl sc A c,
  v = .tuple #[ruleV u.name u.weight u.kind f0 f1 (.slice fA fl fc) s0 s1 (.slice sA sl sc) u.n, .slice A u.parts.length c] ∧
  kSel.rep (fun b => w.heap.size ≤ b) w' u.first [.int .i64 f0, .string f1, .slice fA fl fc] ∧ kSel.rep (fun b => w.heap.size ≤ b) w' u.second [.int .i64 s0, .string s1, .slice sA sl sc] ∧ u.parts.length ≤ c ∧ At kStr (fun b => w.heap.size ≤ b) w' A u.parts
theorem end_rule {fn : Func} {p u : Tmp} (hr : fn.results = #[.cell p 43, .tmp u]) {Q : Ending → World → Prop} {act : Act} {w : World} (g : Nat) {v : Value} (x : Value) (hd : act.defers = [])
    (hp : act.tmps.getD p undef = .pointer (some ⟨g, 0, none⟩)) (he : act.tmps.getD u undef = x) (hl : (loadVar 43 ⟨g, 0, none⟩).run Tryz.prog w = .ok v w)
    (hQ : Q (.returned (.tuple #[v, x])) w) : bodyPost Tryz.prog fn Q .ret act w := by
  refine bodyPost_ret (v := .tuple #[v, x]) ?_ hd hQ
  rw [results_cell_tmp hr, hp, he]
  simp only [asAddr, Sem.run_pure, Result.andThen_ok]
  rw [hl]
  rfl
/-- The state while a rule is read: the parser, the rule's cells. -/
structure RuAt (w : World) (g r : Nat) (t : ByteArray) (e b : Nat) (vs : List Value) (V : World) : Prop where
  ps : PsAt V g t e b
  row : RowV 43 V r vs
  only : Only g w V
section
variable {w V V' : World} {g r : Nat} {t : ByteArray} {e b c : Nat} {vs : List Value}
theorem RuAt.next (h : RuAt w g r t e b vs V) (hgr : g < r) (ho : Only g V V') (hp : PsAt V' g t e c) : RuAt w g r t e c vs V' := ⟨hp, h.row.only ho (by omega), h.only.trans ho⟩
theorem RuAt.set (h : RuAt w g r t e b vs V) (hgr : g < r) (hr : w.heap.size = r) (j : Nat) (u : Value) : RuAt w g r t e b (vs.set j u) (V.setCell ⟨r, j, none⟩ u) :=
  ⟨row_other h.ps (by omega) _, h.row.set j u, only_setCell h.only (.inr (Nat.le_of_eq hr)) _⟩
theorem RuAt.later (h : RuAt w g r t e b vs V) (hb : Below V.heap.size V V') : RuAt w g r t e b vs V' := ⟨h.ps.later hb, h.row.later hb, Only.later h.only hb⟩
end
theorem digP_start (t : ByteArray) (e a : Nat) : digP gramT t e (startT t a) = digP gramT t e a := by
  unfold digP nextP
  rw [lookT_start, startT_twice]
abbrev ru0 (n : ByteArray) (wt k : Nat) : List Value := ruleL n wt k 0 ⟨#[]⟩ (.slice none 0 0) 0 ⟨#[]⟩ (.slice none 0 0) 0
theorem rep_only {g r : Nat} {V V' : World} {s : Sel} {vs : List Value} (h : kSel.rep (fun b => r + 1 ≤ b) V s vs) (ho : Only g V V') (hgr : g < r) : kSel.rep (fun b => r + 1 ≤ b) V' s vs :=
  kSel.kept h fun b hb hlt => ⟨hb, Nat.lt_of_lt_of_le hlt ho.size, ho.block b hlt (by intro e; injection e with e; omega)⟩
theorem rep_set {r j : Nat} {V : World} {u : Value} {s : Sel} {vs : List Value} (h : kSel.rep (fun b => r + 1 ≤ b) V s vs) : kSel.rep (fun b => r + 1 ≤ b) (V.setCell ⟨r, j, none⟩ u) s vs :=
  kSel.kept h fun b hb hlt => ⟨hb, by simpa [World.setCell] using hlt, Below.heap_setCell _ _ _ b (by show b ≠ r; omega)⟩
theorem at_only {g r : Nat} {V V' : World} {A : Option Addr} {l : List ByteArray} (h : At kStr (fun b => r + 1 ≤ b) V A l) (ho : Only g V V') (hgr : g < r) : At kStr (fun b => r + 1 ≤ b) V' A l :=
  h.kept fun b hb hlt => ⟨hb, Nat.lt_of_lt_of_le hlt ho.size, ho.block b hlt (by intro e; injection e with e; omega)⟩
theorem at_set {r j : Nat} {V : World} {u : Value} {A : Option Addr} {l : List ByteArray} (h : At kStr (fun b => r + 1 ≤ b) V A l) : At kStr (fun b => r + 1 ≤ b) (V.setCell ⟨r, j, none⟩ u) A l :=
  h.kept fun b hb hlt => ⟨hb, by simpa [World.setCell] using hlt, Below.heap_setCell _ _ _ b (by show b ≠ r; omega)⟩
/-- What is kept beside the cells while the rest of a rule is read. -/
structure Kept (r : Nat) (s1 : Sel) (v1 : List Value) (s2 : Sel) (v2 : List Value) (A : Option Addr) (l : List ByteArray) (V : World) : Prop where
  fst : kSel.rep (fun b => r + 1 ≤ b) V s1 v1
  snd : kSel.rep (fun b => r + 1 ≤ b) V s2 v2
  parts : At kStr (fun b => r + 1 ≤ b) V A l
section
variable {r : Nat} {s1 s2 : Sel} {v1 v2 : List Value} {A : Option Addr} {l : List ByteArray} {V V' : World}
theorem Kept.only {g : Nat} (h : Kept r s1 v1 s2 v2 A l V) (ho : Only g V V') (hgr : g < r) : Kept r s1 v1 s2 v2 A l V' := ⟨rep_only h.fst ho hgr, rep_only h.snd ho hgr, at_only h.parts ho hgr⟩
theorem Kept.set {j : Nat} {u : Value} (h : Kept r s1 v1 s2 v2 A l V) : Kept r s1 v1 s2 v2 A l (V.setCell ⟨r, j, none⟩ u) := ⟨rep_set h.fst, rep_set h.snd, at_set h.parts⟩
end
theorem zsel_rep {S : Nat → Prop} {V : World} : kSel.rep S V zSel [.int .i64 0, .string ⟨#[]⟩, .slice none 0 0] := rep_sel.2 ⟨none, 0, rfl, Nat.le_refl _, fun h => absurd h (Nat.lt_irrefl 0)⟩
/-- The rule's cells are written once more, as they stand: what was read. -/
theorem rule_done {w V : World} {g r : Nat} {t : ByteArray} {e bG : Nat} {nm fn sn : ByteArray} {wt kd n fl fc sl sc c : Nat} {fk sk : Int} {fA sA A : Option Addr} {s s2 : Sel} {parts : List ByteArray} {res : Res RuleT}
    (hres : res = .ok (⟨nm, wt, kd, n, s, s2, parts⟩, bG)) (hb : bG ≤ t.size) (hgr : g < r) (hr : w.heap.size = r) (hc : parts.length ≤ c)
    (sG : RuAt w g r t e bG (ruleL nm wt kd fk fn (.slice fA fl fc) sk sn (.slice sA sl sc) n) V)
    (kG : Kept r s [.int .i64 fk, .string fn, .slice fA fl fc] s2 [.int .i64 sk, .string sn, .slice sA sl sc] A parts V) :
    RowV 43 (((((((((((((V.setCell ⟨r, 0, none⟩ (.string nm)).setCell ⟨r, 1, none⟩ (.int .i64 (wt : Int))).setCell ⟨r, 2, none⟩ (.int .i64 (kd : Int))).setCell ⟨r, 3, none⟩ (.int .i64 fk)).setCell ⟨r, 4, none⟩ (.string fn)).setCell ⟨r, 5, none⟩ (.slice fA fl fc)).setCell ⟨r, 6, none⟩ (.int .i64 sk)).setCell ⟨r, 7, none⟩ (.string sn)).setCell ⟨r, 8, none⟩ (.slice sA sl sc)).setCell ⟨r, 9, none⟩ (.int .i64 (n : Int))).setCell ⟨r, 10, none⟩ (.slice none 0 0)).setCell ⟨r, 11, none⟩ (.slice none 0 0)).setCell ⟨r, 12, none⟩ (.int .i64 0)) r (ruleL nm wt kd fk fn (.slice fA fl fc) sk sn (.slice sA sl sc) n) ∧
      RdG g t e vRule res w (.returned (.tuple #[ruleV nm wt kd fk fn (.slice fA fl fc) sk sn (.slice sA sl sc) n, .slice A parts.length c])) (((((((((((((V.setCell ⟨r, 0, none⟩ (.string nm)).setCell ⟨r, 1, none⟩ (.int .i64 (wt : Int))).setCell ⟨r, 2, none⟩ (.int .i64 (kd : Int))).setCell ⟨r, 3, none⟩ (.int .i64 fk)).setCell ⟨r, 4, none⟩ (.string fn)).setCell ⟨r, 5, none⟩ (.slice fA fl fc)).setCell ⟨r, 6, none⟩ (.int .i64 sk)).setCell ⟨r, 7, none⟩ (.string sn)).setCell ⟨r, 8, none⟩ (.slice sA sl sc)).setCell ⟨r, 9, none⟩ (.int .i64 (n : Int))).setCell ⟨r, 10, none⟩ (.slice none 0 0)).setCell ⟨r, 11, none⟩ (.slice none 0 0)).setCell ⟨r, 12, none⟩ (.int .i64 0)) := by
  have sH := (((((((((((((sG.set hgr hr 0 (.string nm)).set hgr hr 1 (.int .i64 (wt : Int))).set hgr hr 2 (.int .i64 (kd : Int))).set hgr hr 3 (.int .i64 fk)).set hgr hr 4 (.string fn)).set hgr hr 5 (.slice fA fl fc)).set hgr hr 6 (.int .i64 sk)).set hgr hr 7 (.string sn)).set hgr hr 8 (.slice sA sl sc)).set hgr hr 9 (.int .i64 (n : Int))).set hgr hr 10 (.slice none 0 0)).set hgr hr 11 (.slice none 0 0)).set hgr hr 12 (.int .i64 0))
  have kH := (((((((((((((kG.set (j := 0) (u := (.string nm))).set (j := 1) (u := (.int .i64 (wt : Int)))).set (j := 2) (u := (.int .i64 (kd : Int)))).set (j := 3) (u := (.int .i64 fk))).set (j := 4) (u := (.string fn))).set (j := 5) (u := (.slice fA fl fc))).set (j := 6) (u := (.int .i64 sk))).set (j := 7) (u := (.string sn))).set (j := 8) (u := (.slice sA sl sc))).set (j := 9) (u := (.int .i64 (n : Int)))).set (j := 10) (u := (.slice none 0 0))).set (j := 11) (u := (.slice none 0 0))).set (j := 12) (u := (.int .i64 0)))
  refine ⟨sH.row, RdG.ok hres sH.only sH.ps hb ⟨fk, fn, fA, fl, fc, sk, sn, sA, sl, sc, A, c, rfl, kSel.more kH.fst fun b hb => by omega, kSel.more kH.snd fun b hb => by omega, hc, kH.parts.more fun b hb => by omega⟩⟩
set_option maxHeartbeats 8000000 in
theorem rule_walk (f g : Nat) (t : ByteArray) (e a : Nat) (w w0 : World) (hS : Std w0) (hbw : Below w0.heap.size w0 w) (hg0 : w0.heap.size ≤ g) (h : PsAt w g t e a) (ha : a ≤ t.size) (hs : t.size < 1073741824) (hf : t.size < f) :
    Calls Tryz.prog 96 #[.pointer (some ⟨g, 0, none⟩)] w fun en w' => RdG g t e vRule (ruleP gramT t e f a) w en w' := by
  obtain ⟨r, hr⟩ : ∃ r, w.heap.size = r := ⟨_, rfl⟩
  obtain ⟨W, hW⟩ : ∃ W, w.alloc (.cells #[.string ⟨#[]⟩, .int .i64 0, .int .i64 0, .int .i64 0, .string ⟨#[]⟩, .slice none 0 0, .int .i64 0, .string ⟨#[]⟩, .slice none 0 0, .int .i64 0, .slice none 0 0, .slice none 0 0, .int .i64 0] 43) = W := ⟨_, rfl⟩
  have hb1 : Below w.heap.size w W := by rw [← hW]; exact ext_alloc (Below.refl _ _) _
  have h1 := h.later hb1
  have ho1 : Only g w W := only_of_below hb1 _
  have hrow : RowV 43 W r (ruleL ⟨#[]⟩ 0 0 0 ⟨#[]⟩ (.slice none 0 0) 0 ⟨#[]⟩ (.slice none 0 0) 0) := ⟨_, by rw [← hW, ← hr]; exact heap_alloc_new _ _, rfl⟩
  have hgr : g < r := by rw [← hr]; exact blk_lt h
  have hWs : W.heap.size = r + 1 := by rw [← hW, World.size_alloc, hr]
  have hid := ident_walk g t e a W h1 ha hs
  have hR : ruleP gramT t e f a = thenP (identP codeB t e) (fun nm => thenP (needP t e xColon) fun _ => thenP (weightP gramT t e) fun w => thenP (kindP gramT t e) fun k => thenP (numbP gramT t e k) fun n => thenP (selP gramT t e f) fun s => tailP gramT t e f nm w k n s) a := rfl
  clear hb1 h
  go_enter Tryz.func96, Tryz.ntmps96
  go_wp2_with fail
  refine hid.mono ?_
  rintro en w1 ⟨ho2, hm⟩
  clear hid
  cases hp : identP codeB t e a with
  | error y =>
    obtain ⟨y1, y2⟩ := y
    rw [hp] at hm
    obtain rfl := hm
    go_wp2
    exact ⟨rfl, RdG.err (hR.trans (then_bad hp)) (ho1.trans ho2)⟩
  | ok z =>
    obtain ⟨nm, b1⟩ := z
    rw [hp] at hm
    obtain ⟨h2, hb1, v, rfl, rfl⟩ := hm
    replace hR := hR.trans (then_of hp)
    clear hp
    have s1 : RuAt w g r t e b1 _ w1 := ⟨h2, hrow.only ho2 (by omega), ho1.trans ho2⟩
    have s2 := s1.set hgr hr 0 (.string nm)
    have c0 := s1.row.get (j := 0) rfl
    have f0 := s1.row.free 0
    have hrl := s1.row.lt
    have hnd := need_walk g t e b1 xColon _ s2.ps hb1 hs
    clear s1 h2 ho2 hrow
    go_wp2_with fail
    refine hnd.mono ?_
    rintro en w3 ⟨ho3, hm⟩
    clear hnd c0 f0 hrl
    generalize w1.setCell _ _ = w2 at *
    cases hp : needP t e xColon b1 with
    | error y =>
      obtain ⟨y1, y2⟩ := y
      rw [hp] at hm
      obtain rfl := hm
      go_wp2
      exact ⟨rfl, RdG.err (hR.trans (then_bad hp)) (s2.only.trans ho3)⟩
    | ok z =>
      obtain ⟨uu, b2⟩ := z
      rw [hp] at hm
      obtain ⟨h3, hb2, v, rfl, rfl⟩ := hm
      replace hR := hR.trans (then_of hp)
      have s3 := s2.next hgr ho3 h3
      clear hp s2 h3 ho3
      have hf1 := run_tok1
      have hpk := peek_walk g t e b2 w3 s3.ps hb2 hs
      go_wp2_with fail
      refine hpk.mono ?_
      rintro en w4 ⟨ho4, hm⟩
      clear hpk
      cases hl : lookT t e b2 with
      | bad b =>
        rw [hl] at hm
        obtain rfl := hm
        go_wp2
        exact ⟨rfl, RdG.err (hR.trans (then_bad (by unfold weightP nextP; rw [hl]))) (s3.only.trans ho4)⟩
      | tok x p =>
        rw [hl] at hm
        obtain ⟨rfl, h4⟩ := hm
        have s4 := s3.next hgr ho4 h4
        have hb4 : startT t b2 ≤ t.size := passT_in blankC t hb2
        have hin := look_in hb2 hl
        have his := is_walk g t e (startT t b2) xHard w4 h4 hb4 hs
        have hls : lookT t e (startT t b2) = .tok x p := by rw [lookT_start, hl]
        have hw : weightP gramT t e b2 = if x = xHard then .ok (0, startT t b2 + x.size) else
            match numZ 4 x with
            | some (n + 1) => .ok (n + 1, startT t b2 + x.size)
            | _ => .error (p, 15) := by unfold weightP nextP; rw [hl]; rfl
        have hd : digP gramT t e (startT t b2) = match numZ 4 x with
            | some n => .ok (n, startT t b2 + x.size)
            | none => .error (p, 15) := by rw [digP_start]; unfold digP nextP; rw [hl]; rfl
        have his : Calls Tryz.prog 135 #[.pointer (some ⟨g, 0, none⟩), .string ⟨#[104, 97, 114, 100]⟩] w4 fun en w' => IsG g t e (startT t b2) xHard w4 en w' := his
        clear hl s3 h4 ho4
        go_wp2_with fail
        refine his.mono ?_
        rintro en w5 ⟨ho5, hm⟩
        rw [hls] at hm
        obtain ⟨rfl, h5⟩ := hm
        rw [startT_twice] at h5
        have s5 := s4.next hgr ho5 h5
        clear his hls s4 h5 ho5
        obtain ⟨Q, hQ⟩ : ∃ Q, decide (x = xHard) = Q := ⟨_, rfl⟩
        rw [hQ]
        have s5 : RuAt w g r t e (if x = xHard then startT t b2 + x.size else startT t b2) (ru0 nm 0 0) w5 := s5
        go_upto_if 16 with fail
        go_cut [] (fun V => ∃ wt b, weightP gramT t e b2 = .ok (wt, b) ∧ b ≤ t.size ∧ RuAt w g r t e b (ru0 nm wt 0) V)
        case first =>
          cases Q with
          | true =>
            have hx := of_decide_eq_true hQ
            rw [if_pos hx] at s5 hw
            clear hQ hR hd
            replace hx := hide hx
            replace hw := hide hw
            go_wp2_with fail
            go_meet
            exact ⟨0, _, hw.out, hin, s5⟩
          | false =>
            have hx := of_decide_eq_false hQ
            rw [if_neg hx] at s5 hw
            replace hx := hide hx
            have hnum := pnumber_walk g t e (startT t b2) w5 s5.ps hb4 hs
            have sset := fun (V : World) b (sV : RuAt w g r t e b (ru0 nm 0 0) V) (n : Nat) => hide (sV.set hgr hr 1 (.int .i64 n))
            go_wp2_with fail
            refine hnum.mono ?_
            rintro en w6 ⟨ho6, hm⟩
            clear hnum
            rw [hd] at hm
            cases hz : numZ 4 x with
            | none =>
              rw [hz] at hm hw
              obtain rfl := hm
              go_wp2
              exact ⟨rfl, RdG.err (hR.trans (then_bad hw)) (s5.only.trans ho6)⟩
            | some n =>
              rw [hz] at hm hw
              obtain ⟨h6, hb6, v, rfl, rfl⟩ := hm
              have s6 := s5.next hgr ho6 h6
              have c1 := s6.row.get (j := 1) rfl
              have f1 := s6.row.free 1
              have hrl := s6.row.lt
              have s7 := s6.set hgr hr 1 (.int .i64 (n : Int))
              cases n with
              | zero =>
                have hw : weightP gramT t e b2 = .error (p, 15) := hw
                replace hw := hide hw
                clear hz hd h6
                go_wp2_with (go_at_call 137; refine (sfail_walk _ _ _ _).mono ?_; rintro e w' ⟨rfl, rfl⟩)
                exact ⟨rfl, RdG.err (hR.trans (then_bad hw.out)) s7.only⟩
              | succ n =>
                have hw : weightP gramT t e b2 = .ok (n + 1, startT t b2 + x.size) := hw
                have s7 : RuAt w g r t e (startT t b2 + x.size) (ru0 nm (n + 1) 0) (w6.setCell ⟨r, 1, none⟩ (.int .i64 ((n : Int) + 1))) := s7
                have hn0 : ((n : Int) + 1 == 0) = false := by rw [beq_eq_false_iff_ne]; omega
                replace hw := hide hw
                replace s7 := hide s7
                clear hz hd h6
                go_wp2_with fail
                all_goals try (exfalso; omega)
                go_meet
                exact ⟨n + 1, _, hw.out, hb6, s7.out⟩
        case rest =>
          clear s5 hw hd hQ
          obtain ⟨wt, b, hwt, hb, s6⟩ := hcut
          replace hR := hR.trans (then_of hwt)
          have hnx := pnext_walk g t e b wc s6.ps hb hs
          clear hwt
          go_wp2_with fail
          refine hnx.mono ?_
          rintro en w7 ⟨ho7, hm⟩
          clear hnx
          clear hf1 hin hb4 his s5
          cases hl : lookT t e b with
          | bad c =>
            rw [hl] at hm
            obtain rfl := hm
            go_wp2
            exact ⟨rfl, RdG.err (hR.trans (then_bad (by unfold kindP nextP; rw [hl]))) (s6.only.trans ho7)⟩
          | tok x p =>
            rw [hl] at hm
            obtain ⟨rfl, h7⟩ := hm
            have hin := look_in hb hl
            have s7 := s6.next hgr ho7 h7
            have hk : kindP gramT t e b = if leafK kindWs x < 12 then .ok (leafK kindWs x + 1, startT t b + x.size) else .error (p, 15) := by unfold kindP nextP; rw [hl]; rfl
            obtain ⟨w8, hw8⟩ : ∃ w8, w7.alloc (.cells #[.string x, .int .i64 (p : Int)] 166) = w8 := ⟨_, rfl⟩
            obtain ⟨q, hq⟩ : ∃ q, w7.heap.size = q := ⟨_, rfl⟩
            have hb8 : Below w7.heap.size w7 w8 := by rw [← hw8]; exact ext_alloc (Below.refl _ _) _
            have hrq : r < q := by rw [← hq]; exact s7.row.lt
            have s8 := s7.later hb8
            have ht8 : w8.heap[q]? = some (.cells #[.string x, .int .i64 (p : Int)] 166 (0, 0)) := by rw [← hw8, ← hq]; exact heap_alloc_new _ _
            obtain ⟨d0, d1, -⟩ := tok_cells ht8
            have c2 := s8.row.get (j := 2) rfl
            have c2 : w8.cell? ⟨r, 2, none⟩ = some (.int .i64 0) := c2
            obtain ⟨ix, hix⟩ : ∃ ix, idxS x kindWs = ix := ⟨_, rfl⟩
            have hbw : Below w8.heap.size w8 w8 := Below.refl _ _
            have hC : Cn2 q 0 (.string x) q 1 (.int .i64 p) w8 := ⟨d0, d1⟩
            have hsel := hide (fun (V : World) (hV : Below w8.heap.size w8 V) => (kinds_walk V).mono fun e w' ⟨A, he, hA, hb⟩ => (⟨A, he, hA, ext_trans hV hb, hC.later (ext_trans hV hb), cell_later (ext_trans hV hb) c2, (s8.later (ext_trans hV hb)).row.free 2, (s8.later (ext_trans hV hb)).row.lt⟩ : ∃ A, e = Ending.returned (.slice A 12 12) ∧ At kStr AnyB w' A kindWs ∧ Below w8.heap.size w8 w' ∧ Cn2 q 0 (.string x) q 1 (.int .i64 p) w' ∧ w'.cell? ⟨r, 2, none⟩ = some (Value.int .i64 0) ∧ w'.frozen? ⟨r, 2, none⟩ = false ∧ r < w'.heap.size))
            have hidx : Hid (∀ (A : Option Addr) (V : World), At kStr AnyB V A kindWs → Calls Tryz.prog 115 #[.slice A 12 12, .string x] V fun e w' => e = Ending.returned (.int .i64 ix) ∧ V = w') := hide (fun A V hA => (sindex_walk A kindWs 12 x V (by decide) hA).mono fun e w' ⟨he, hw⟩ => (⟨he.trans (by rw [hix]), hw⟩ : e = Ending.returned (.int .i64 ix) ∧ V = w'))
            clear hl s6 s7 h7 ho7 hb8
            have hixl : ix = if leafK kindWs x < 12 then 0 + (leafK kindWs x : Int) else -1 := hix.symm.trans (idx_leaf x kindWs 0)
            obtain ⟨kk, hkk⟩ : ∃ kk, leafK kindWs x = kk := ⟨_, rfl⟩
            rw [hkk] at hixl hk
            have hixr : -1 ≤ ix ∧ ix < 12 := by rw [hixl]; split <;> omega
            have ewr : IntKind.i64.wrap (ix + 1) = ix + 1 := IntWalk.i64_in _ (by omega)
            replace hix := hide hix
            replace hixl := hide hixl
            go_upto_region 9 with fail
            have hCd := hC.drew
            have fr2 := (s8.later (ext_drew (Below.refl _ _))).row.free 2
            have frl := (s8.later (ext_drew (Below.refl _ _))).row.lt
            go_region_held3 (fun W' => W'.cell? ⟨q, 0, none⟩ = some (.string x) ∧ W'.cell? ⟨q, 1, none⟩ = some (.int .i64 p)) (first | ((repeat (first | (with_reducible assumption) | (with_reducible refine Cn2.alloc ?_ _) | (with_reducible refine Cn2.drew ?_) | (with_reducible refine Cn2.set ?_ ?_ ?_ _) | omega)); done)) (first | (go_at_call 79; refine (hsel.out _ (by repeat (first | (with_reducible assumption) | (with_reducible refine ext_alloc ?_ _) | (with_reducible refine ext_drew ?_)))).mono ?_; rintro e w9 ⟨A9, rfl, hA9, hb9, hc9, hr9, hf9, hl9⟩) | (go_at_call 115; (with_reducible refine (hidx.out _ _ (by first | (with_reducible assumption) | exact At.later (by assumption) (ext_drew (Below.refl _ _)))).mono ?_); rintro e w10 ⟨rfl, rfl⟩))
            obtain ⟨kd, hkd⟩ : ∃ kd : Nat, ix + 1 = (kd : Int) := ⟨(ix + 1).toNat, by omega⟩
            rw [hkd]
            have s10 := (s8.later hb9).set hgr hr 2 (.int .i64 (kd : Int))
            have s10 : RuAt w g r t e (startT t b + x.size) (ru0 nm wt kd) (w9.setCell ⟨r, 2, none⟩ (.int .i64 (kd : Int))) := s10
            have hCx : Cn2 q 0 (.string x) q 1 (.int .i64 p) (w9.setCell ⟨r, 2, none⟩ (.int .i64 (kd : Int))) := hc9.set (by omega) (by omega) _
            obtain ⟨d2, d3⟩ := hCx
            have c3 := s10.row.get (j := 2) rfl
            have frl := s10.row.lt
            have c3 : (w9.setCell ⟨r, 2, none⟩ (.int .i64 (kd : Int))).cell? ⟨r, 2, none⟩ = some (.int .i64 (kd : Int)) := c3
            have hkd2 : (kk < 12 ∧ kd = kk + 1) ∨ (¬ kk < 12 ∧ kd = 0) := by
              have h1 := hixl.out
              by_cases h2 : kk < 12
              · rw [if_pos h2] at h1; exact .inl ⟨h2, by omega⟩
              · rw [if_neg h2] at h1; exact .inr ⟨h2, by omega⟩
            clear hsel hidx hC hCd hbw d0 d1 hix hixl hixr ewr c2 hc9 hr9 hf9 hl9 hb9 s8 ht8 hw8 hq
            replace hkd := hide hkd
            generalize w9.setCell ⟨r, 2, none⟩ (Value.int .i64 (kd : Int)) = w10 at *
            rcases hkd2 with ⟨hk12, hkk2⟩ | ⟨hk12, hkk2⟩
            · rw [if_pos hk12, ← hkk2] at hk
              replace hR := hR.trans (then_of hk)
              have hkd0 : ((kd : Int) == 0) = false := by rw [beq_eq_false_iff_ne]; omega
              have hnb := numbered_walk kd
              obtain ⟨Q, hQ⟩ : ∃ Q, numbK kd = Q := ⟨_, rfl⟩
              rw [hQ] at hnb
              replace hkk2 := hide hkk2
              go_upto_if 43 with (go_at_call 30; refine (hnb _).mono ?_; rintro e w' ⟨rfl, rfl⟩)
              have hbk : startT t b + x.size ≤ t.size := hin
              go_cut [] (fun V => ∃ n b3, numbP gramT t e kd (startT t b + x.size) = .ok (n, b3) ∧ b3 ≤ t.size ∧ RuAt w g r t e b3 (ruleL nm wt kd 0 ⟨#[]⟩ (.slice none 0 0) 0 ⟨#[]⟩ (.slice none 0 0) n) V)
              case first =>
                clear d2 d3 hA9
                cases Q with
                | false =>
                  have hnp : numbP gramT t e kd (startT t b + x.size) = .ok (0, startT t b + x.size) := by unfold numbP; rw [hQ]; rfl
                  clear hQ hnb
                  replace hnp := hide hnp
                  go_wp2_with fail
                  go_meet
                  exact ⟨0, _, hnp.out, hbk, s10⟩
                | true =>
                  have hnp : numbP gramT t e kd (startT t b + x.size) = digP gramT t e (startT t b + x.size) := by unfold numbP; rw [hQ]; rfl
                  have hnum := pnumber_walk g t e (startT t b + x.size) w10 s10.ps hbk hs
                  clear hQ hnb
                  go_wp2_with fail
                  refine hnum.mono ?_
                  rintro en w11 ⟨ho11, hm⟩
                  clear hnum
                  cases hz : digP gramT t e (startT t b + x.size) with
                  | error y =>
                    obtain ⟨y1, y2⟩ := y
                    rw [hz] at hm hnp
                    obtain rfl := hm
                    go_wp2
                    exact ⟨rfl, RdG.err (hR.trans (then_bad hnp)) (s10.only.trans ho11)⟩
                  | ok z =>
                    obtain ⟨n, b3⟩ := z
                    rw [hz] at hm hnp
                    obtain ⟨h11, hb3, v, rfl, rfl⟩ := hm
                    have s11 := s10.next hgr ho11 h11
                    have c9 := s11.row.get (j := 9) rfl
                    have f9 := s11.row.free 9
                    have hrl := s11.row.lt
                    have s12 := s11.set hgr hr 9 (.int .i64 (n : Int))
                    replace hnp := hide hnp
                    clear hz h11
                    go_wp2_with fail
                    go_meet
                    exact ⟨n, b3, hnp.out, hb3, s12⟩
              case rest =>
                clear s10 hQ hnb c3 frl d2 d3 hkd hk hbk hkd0
                obtain ⟨n, b3, hnp, hb3, s11⟩ := hcut
                replace hR := hR.trans (then_of hnp)
                have hse := sel_walk f (atom_all f) g t e b3 wc s11.ps hb3 hs (by omega)
                clear hnp
                go_wp2_with fail
                refine hse.mono ?_
                rintro en w12 ⟨ho12, hm⟩
                clear hse
                cases hz : selP gramT t e f b3 with
                | error y =>
                  obtain ⟨y1, y2⟩ := y
                  rw [hz] at hm
                  obtain rfl := hm
                  go_wp2
                  exact ⟨rfl, RdG.err (hR.trans (then_bad hz)) (s11.only.trans ho12)⟩
                | ok z =>
                  obtain ⟨s, b4⟩ := z
                  rw [hz] at hm
                  obtain ⟨h12, hb4, v, ⟨fk, fn, fA, fl, fc, rfl, hrep⟩, rfl⟩ := hm
                  replace hR := hR.trans (then_of hz)
                  have s12 := s11.next hgr ho12 h12
                  have c3 := s12.row.get (j := 3) rfl
                  have c4 := s12.row.get (j := 4) rfl
                  have c5 := s12.row.get (j := 5) rfl
                  have f3 := s12.row.free 3
                  have f4 := s12.row.free 4
                  have f5 := s12.row.free 5
                  have hrl := s12.row.lt
                  have s13 := ((s12.set hgr hr 3 (.int .i64 fk)).set hgr hr 4 (.string fn)).set hgr hr 5 (.slice fA fl fc)
                  have s13 : RuAt w g r t e b4 (ruleL nm wt kd fk fn (.slice fA fl fc) 0 ⟨#[]⟩ (.slice none 0 0) n) _ := s13
                  have hrep1 : kSel.rep (fun b => r + 1 ≤ b) w12 s [.int .i64 fk, .string fn, .slice fA fl fc] := kSel.more hrep fun b hb => Nat.le_trans s11.row.lt hb
                  have hrep2 := rep_set (j := 5) (u := .slice fA fl fc) (rep_set (j := 4) (u := .string fn) (rep_set (j := 3) (u := .int .i64 fk) hrep1))
                  clear hz h12 hrep hrep1 s11
                  go_upto_region 15 with fail
                  clear s12 c3 c4 c5 f3 f4 f5 hrl
                  generalize ((w12.setCell ⟨r, 3, none⟩ (Value.int .i64 fk)).setCell ⟨r, 4, none⟩ (Value.string fn)).setCell ⟨r, 5, none⟩ (Value.slice fA fl fc) = wF at *
                  have ck : wF.cell? ⟨r, 2, none⟩ = some (.int .i64 (kd : Int)) := s13.row.get (j := 2) rfl
                  have hrl := s13.row.lt
                  by_cases hk6 : kd = 6
                  · have e6 : ((kd : Int) == 6) = true := by rw [hk6]; rfl
                    have hlast : lastP gramT t e f kd b4 = (match needP t e xComma b4 with
                      | .error y => .error y
                      | .ok (_, b) => (match selP gramT t e f b with
                        | .error y => .error y
                        | .ok (s, c) => .ok ((s, []), c))) := if_pos hk6
                    have hR := hR.trans (show tailP gramT t e f nm wt kd n s b4 = thenP (lastP gramT t e f kd) _ b4 from rfl)
                    replace hk6 := hide hk6
                    have hnc := need_walk g t e b4 xComma _ s13.ps hb4 hs
                    have hnc : Calls Tryz.prog 133 #[.pointer (some ⟨g, 0, none⟩), .string ⟨#[44]⟩] wF fun en w' => RdG g t e vUnit (needP t e xComma b4) wF en w' := hnc
                    clear hk12
                    go_wp2_with fail
                    refine hnc.mono ?_
                    rintro en w14 ⟨ho14, hm⟩
                    clear hnc
                    cases hz : needP t e xComma b4 with
                    | error y =>
                      obtain ⟨y1, y2⟩ := y
                      rw [hz] at hm hlast
                      obtain rfl := hm
                      go_wp2
                      exact ⟨rfl, RdG.err (hR.trans (then_bad hlast)) (s13.only.trans ho14)⟩
                    | ok z =>
                      obtain ⟨u14, b14⟩ := z
                      rw [hz] at hm hlast
                      obtain ⟨h14, hb14, v, rfl, rfl⟩ := hm
                      have s14 := s13.next hgr ho14 h14
                      have hrep14 := rep_only hrep2 ho14 hgr
                      have hse := sel_walk f (atom_all f) g t e b14 w14 h14 hb14 hs (by omega)
                      clear hz s13 hrep2 ck hrl
                      go_wp2_with fail
                      refine hse.mono ?_
                      rintro en w15 ⟨ho15, hm⟩
                      clear hse
                      cases hz : selP gramT t e f b14 with
                      | error y =>
                        obtain ⟨y1, y2⟩ := y
                        rw [hz] at hm hlast
                        obtain rfl := hm
                        go_wp2
                        exact ⟨rfl, RdG.err (hR.trans (then_bad hlast)) (s14.only.trans ho15)⟩
                      | ok z =>
                        obtain ⟨s2, bF⟩ := z
                        rw [hz] at hm hlast
                        obtain ⟨h15, hbF, v, ⟨sk, sn, sA, sl, sc, rfl, hrepS⟩, rfl⟩ := hm
                        replace hR := hR.trans (then_of hlast)
                        have s15 := s14.next hgr ho15 h15
                        have hrep15 := rep_only hrep14 ho15 hgr
                        have hrepS2 : kSel.rep (fun b => r + 1 ≤ b) w15 s2 [.int .i64 sk, .string sn, .slice sA sl sc] := kSel.more hrepS fun b hb => Nat.le_trans s14.row.lt hb
                        have g6 := s15.row.get (j := 6) rfl
                        have g7 := s15.row.get (j := 7) rfl
                        have g8 := s15.row.get (j := 8) rfl
                        have f6 := s15.row.free 6
                        have f7 := s15.row.free 7
                        have f8 := s15.row.free 8
                        have hrl15 := s15.row.lt
                        have sF := ((s15.set hgr hr 6 (.int .i64 sk)).set hgr hr 7 (.string sn)).set hgr hr 8 (.slice sA sl sc)
                        have sF : RuAt w g r t e bF (ruleL nm wt kd fk fn (.slice fA fl fc) sk sn (.slice sA sl sc) n) _ := sF
                        have hK0 : Kept r s [.int .i64 fk, .string fn, .slice fA fl fc] s2 [.int .i64 sk, .string sn, .slice sA sl sc] none [] w15 := ⟨hrep15, hrepS2, fun h => absurd h (Nat.lt_irrefl 0)⟩
                        have hK := ((hK0.set (j := 6) (u := .int .i64 sk)).set (j := 7) (u := .string sn)).set (j := 8) (u := .slice sA sl sc)
                        have hcF : ([] : List ByteArray).length ≤ 0 := Nat.le_refl _
                        clear hz hlast hrep14 hrep15 hrepS hrepS2 hK0 h15 s14 ho15 ho14 h14
                        go_upto_region 22 with fail
                        clear g6 g7 g8 f6 f7 f8 hrl15 s15
                        generalize ((w15.setCell ⟨r, 6, none⟩ (Value.int .i64 sk)).setCell ⟨r, 7, none⟩ (Value.string sn)).setCell ⟨r, 8, none⟩ (Value.slice sA sl sc) = wF at *
                        (
                                            have hnd := need_walk g t e bF xNone _ sF.ps hbF hs
                                            have hnd : Calls Tryz.prog 133 #[.pointer (some ⟨g, 0, none⟩), .string ⟨#[]⟩] wF fun en w' => RdG g t e vUnit (needP t e xNone bF) wF en w' := hnd
                                            go_wp2_with fail
                                            refine hnd.mono ?_
                                            rintro en wG ⟨hoG, hm⟩
                                            clear hnd
                                            cases hz : needP t e xNone bF with
                                            | error y =>
                                              obtain ⟨y1, y2⟩ := y
                                              rw [hz] at hm
                                              obtain rfl := hm
                                              go_wp2
                                              exact ⟨rfl, RdG.err (hR.trans (then_bad hz)) (sF.only.trans hoG)⟩
                                            | ok z =>
                                              obtain ⟨uG, bG⟩ := z
                                              rw [hz] at hm
                                              obtain ⟨hG, hbG, v, rfl, rfl⟩ := hm
                                              replace hR := hR.trans (then_of hz)
                                              have sG := sF.next hgr hoG hG
                                              have kG := hK.only hoG hgr
                                              have c0 := sG.row.get (j := 0) rfl
                                              have c1 := sG.row.get (j := 1) rfl
                                              have c2 := sG.row.get (j := 2) rfl
                                              have c3 := sG.row.get (j := 3) rfl
                                              have c4 := sG.row.get (j := 4) rfl
                                              have c5 := sG.row.get (j := 5) rfl
                                              have c6 := sG.row.get (j := 6) rfl
                                              have c7 := sG.row.get (j := 7) rfl
                                              have c8 := sG.row.get (j := 8) rfl
                                              have c9 := sG.row.get (j := 9) rfl
                                              have c10 := sG.row.get (j := 10) rfl
                                              have c11 := sG.row.get (j := 11) rfl
                                              have c12 := sG.row.get (j := 12) rfl
                                              have hfz := sG.row.free
                                              have hrl := sG.row.lt
                                              have f0 := hfz 0
                                              have f1 := hfz 1
                                              have f2 := hfz 2
                                              have f3 := hfz 3
                                              have f4 := hfz 4
                                              have f5 := hfz 5
                                              have f6 := hfz 6
                                              have f7 := hfz 7
                                              have f8 := hfz 8
                                              have f9 := hfz 9
                                              have f10 := hfz 10
                                              have f11 := hfz 11
                                              have f12 := hfz 12
                                              have hdone := hide (rule_done hR hbG hgr hr hcF sG kG)
                                              clear hz sF hG hfz sG kG hR hK
                                              go_wp2
                                              refine end_rule rfl r _ rfl rfl rfl (load13 hdone.out.1) ?_
                                              exact hdone.out.2)
                  · by_cases hk10 : kd = 10 ∨ kd = 11
                    · have e6 : ((kd : Int) == 6) = false := by rw [beq_eq_false_iff_ne]; omega
                      have hlast : lastP gramT t e f kd b4 = (match bracksP t e b4 with
                        | .error y => .error y
                        | .ok (l, c) => .ok ((zSel, l), c)) := by
                        unfold lastP bracksP thenP
                        rw [if_neg hk6, if_pos hk10]
                        cases needP t e xComma b4 with
                        | error y => rfl
                        | ok z => rfl
                      have hR := hR.trans (show tailP gramT t e f nm wt kd n s b4 = thenP (lastP gramT t e f kd) _ b4 from rfl)
                      replace hk6 := hide hk6
                      have hbr := brackets_walk g t e b4 wF w0 hS (Below.trans hbw (Only.below s13.only hg0 (by have := hbw.size; omega))) hg0 s13.ps hb4 hs
                      clear hk12
                      have hkk : ∃ Q1 Q2, ((kd : Int) == 10) = Q1 ∧ ((kd : Int) == 11) = Q2 ∧ (Q1 = true ∨ (Q1 = false ∧ Q2 = true)) := by
                        refine ⟨_, _, rfl, rfl, ?_⟩
                        rcases hk10 with rfl | rfl
                        · exact .inl rfl
                        · exact .inr ⟨rfl, rfl⟩
                      obtain ⟨Q1, Q2, e10, e11, hQQ⟩ := hkk
                      replace hk10 := hide hk10
                      rcases hQQ with rfl | ⟨rfl, rfl⟩
                      all_goals
                        go_wp2_with fail
                        refine hbr.mono ?_
                        rintro en wF ⟨ho14, hm⟩
                        clear hbr
                        cases hz : bracksP t e b4 with
                        | error y =>
                          obtain ⟨y1, y2⟩ := y
                          rw [hz] at hm hlast
                          obtain rfl := hm
                          go_wp2
                          exact ⟨rfl, RdG.err (hR.trans (then_bad hlast)) (s13.only.trans ho14)⟩
                        | ok z =>
                          obtain ⟨l, bF⟩ := z
                          rw [hz] at hm hlast
                          obtain ⟨h14, hbF, v, ⟨AF, cF, rfl, hcF, hAF⟩, rfl⟩ := hm
                          replace hR := hR.trans (then_of hlast)
                          have sF := s13.next hgr ho14 h14
                          have hK : Kept r s [.int .i64 fk, .string fn, .slice fA fl fc] zSel [.int .i64 0, .string ⟨#[]⟩, .slice none 0 0] AF l wF := ⟨rep_only hrep2 ho14 hgr, zsel_rep, hAF.more fun b hb => Nat.le_trans s13.row.lt hb⟩
                          clear hz hlast s13 hrep2 ho14 h14 hAF ck hrl
                          (
                                              have hnd := need_walk g t e bF xNone _ sF.ps hbF hs
                                              have hnd : Calls Tryz.prog 133 #[.pointer (some ⟨g, 0, none⟩), .string ⟨#[]⟩] wF fun en w' => RdG g t e vUnit (needP t e xNone bF) wF en w' := hnd
                                              go_wp2_with fail
                                              refine hnd.mono ?_
                                              rintro en wG ⟨hoG, hm⟩
                                              clear hnd
                                              cases hz : needP t e xNone bF with
                                              | error y =>
                                                obtain ⟨y1, y2⟩ := y
                                                rw [hz] at hm
                                                obtain rfl := hm
                                                go_wp2
                                                exact ⟨rfl, RdG.err (hR.trans (then_bad hz)) (sF.only.trans hoG)⟩
                                              | ok z =>
                                                obtain ⟨uG, bG⟩ := z
                                                rw [hz] at hm
                                                obtain ⟨hG, hbG, v, rfl, rfl⟩ := hm
                                                replace hR := hR.trans (then_of hz)
                                                have sG := sF.next hgr hoG hG
                                                have kG := hK.only hoG hgr
                                                have c0 := sG.row.get (j := 0) rfl
                                                have c1 := sG.row.get (j := 1) rfl
                                                have c2 := sG.row.get (j := 2) rfl
                                                have c3 := sG.row.get (j := 3) rfl
                                                have c4 := sG.row.get (j := 4) rfl
                                                have c5 := sG.row.get (j := 5) rfl
                                                have c6 := sG.row.get (j := 6) rfl
                                                have c7 := sG.row.get (j := 7) rfl
                                                have c8 := sG.row.get (j := 8) rfl
                                                have c9 := sG.row.get (j := 9) rfl
                                                have c10 := sG.row.get (j := 10) rfl
                                                have c11 := sG.row.get (j := 11) rfl
                                                have c12 := sG.row.get (j := 12) rfl
                                                have hfz := sG.row.free
                                                have hrl := sG.row.lt
                                                have f0 := hfz 0
                                                have f1 := hfz 1
                                                have f2 := hfz 2
                                                have f3 := hfz 3
                                                have f4 := hfz 4
                                                have f5 := hfz 5
                                                have f6 := hfz 6
                                                have f7 := hfz 7
                                                have f8 := hfz 8
                                                have f9 := hfz 9
                                                have f10 := hfz 10
                                                have f11 := hfz 11
                                                have f12 := hfz 12
                                                have hdone := hide (rule_done hR hbG hgr hr hcF sG kG)
                                                clear hz sF hG hfz sG kG hR hK
                                                go_wp2
                                                refine end_rule rfl r _ rfl rfl rfl (load13 hdone.out.1) ?_
                                                exact hdone.out.2)
                    · have e6 : ((kd : Int) == 6) = false := by rw [beq_eq_false_iff_ne]; omega
                      have e10 : ((kd : Int) == 10) = false := by rw [beq_eq_false_iff_ne]; omega
                      have e11 : ((kd : Int) == 11) = false := by rw [beq_eq_false_iff_ne]; omega
                      have hlast : lastP gramT t e f kd b4 = .ok ((zSel, []), b4) := by unfold lastP; rw [if_neg hk6, if_neg hk10]
                      have hR := (hR.trans (show tailP gramT t e f nm wt kd n s b4 = thenP (lastP gramT t e f kd) _ b4 from rfl)).trans (then_of hlast)
                      have hK : Kept r s [.int .i64 fk, .string fn, .slice fA fl fc] zSel [.int .i64 0, .string ⟨#[]⟩, .slice none 0 0] none [] wF := ⟨hrep2, zsel_rep, fun h => absurd h (Nat.lt_irrefl 0)⟩
                      have sF := s13
                      have hbF := hb4
                      have hcF : ([] : List ByteArray).length ≤ 0 := Nat.le_refl _
                      replace hk10 := hide hk10
                      replace hk6 := hide hk6
                      clear hlast s13 hrep2 ho12 hk12
                      generalize b4 = bF at *
                      (
                                          have hnd := need_walk g t e bF xNone _ sF.ps hbF hs
                                          have hnd : Calls Tryz.prog 133 #[.pointer (some ⟨g, 0, none⟩), .string ⟨#[]⟩] wF fun en w' => RdG g t e vUnit (needP t e xNone bF) wF en w' := hnd
                                          go_wp2_with fail
                                          refine hnd.mono ?_
                                          rintro en wG ⟨hoG, hm⟩
                                          clear hnd
                                          cases hz : needP t e xNone bF with
                                          | error y =>
                                            obtain ⟨y1, y2⟩ := y
                                            rw [hz] at hm
                                            obtain rfl := hm
                                            go_wp2
                                            exact ⟨rfl, RdG.err (hR.trans (then_bad hz)) (sF.only.trans hoG)⟩
                                          | ok z =>
                                            obtain ⟨uG, bG⟩ := z
                                            rw [hz] at hm
                                            obtain ⟨hG, hbG, v, rfl, rfl⟩ := hm
                                            replace hR := hR.trans (then_of hz)
                                            have sG := sF.next hgr hoG hG
                                            have kG := hK.only hoG hgr
                                            have c0 := sG.row.get (j := 0) rfl
                                            have c1 := sG.row.get (j := 1) rfl
                                            have c2 := sG.row.get (j := 2) rfl
                                            have c3 := sG.row.get (j := 3) rfl
                                            have c4 := sG.row.get (j := 4) rfl
                                            have c5 := sG.row.get (j := 5) rfl
                                            have c6 := sG.row.get (j := 6) rfl
                                            have c7 := sG.row.get (j := 7) rfl
                                            have c8 := sG.row.get (j := 8) rfl
                                            have c9 := sG.row.get (j := 9) rfl
                                            have c10 := sG.row.get (j := 10) rfl
                                            have c11 := sG.row.get (j := 11) rfl
                                            have c12 := sG.row.get (j := 12) rfl
                                            have hfz := sG.row.free
                                            have hrl := sG.row.lt
                                            have f0 := hfz 0
                                            have f1 := hfz 1
                                            have f2 := hfz 2
                                            have f3 := hfz 3
                                            have f4 := hfz 4
                                            have f5 := hfz 5
                                            have f6 := hfz 6
                                            have f7 := hfz 7
                                            have f8 := hfz 8
                                            have f9 := hfz 9
                                            have f10 := hfz 10
                                            have f11 := hfz 11
                                            have f12 := hfz 12
                                            have hdone := hide (rule_done hR hbG hgr hr hcF sG kG)
                                            clear hz sF hG hfz sG kG hR hK
                                            go_wp2
                                            refine end_rule rfl r _ rfl rfl rfl (load13 hdone.out.1) ?_
                                            exact hdone.out.2)
            · rw [if_neg hk12] at hk
              subst hkk2
              go_wp2_with (go_at_call 137; refine (sfail_walk _ _ _ _).mono ?_; rintro e w' ⟨rfl, rfl⟩)
              exact ⟨rfl, RdG.err (hR.trans (then_bad hk)) s10.only⟩
end Go.Proofs.YtdnnahdafhddlaaGreatDoor

namespace Go.Proofs.YtdnnahdafhddlaaGreatDoor
open Go.RowKit
set_option maxRecDepth 100000

/-- The reader has noted an error, or stands at a place. -/
def RSt (w : World) (g : Nat) (t : ByteArray) (e : Nat) (s : Except (Nat × Int) Nat) : Prop := match s with
  | .error y => RBad w g t e y
  | .ok a => RdyAt w g t e a ∧ a ≤ t.size
/-- What has been read so far leads to R: an error, or what K says from the place on. -/
def Tie {β : Type} (R : Res β) (s : Except (Nat × Int) Nat) (K : Nat → Res β) : Prop := match s with
  | .error y => R = .error y
  | .ok a => R = K a
section
variable {w w' : World} {g e : Nat} {t : ByteArray} {s : Except (Nat × Int) Nat}
theorem RSt.later (h : RSt w g t e s) (hb : Below w.heap.size w w') : RSt w' g t e s := by
  cases s with
  | error y => exact RBad.later h hb
  | ok a => exact ⟨RdyAt.later h.1 hb, h.2⟩
theorem RSt.same (h : RSt w g t e s) (hg : w'.heap[g]? = w.heap[g]?) : RSt w' g t e s := by
  cases s with
  | error y => exact RBad.same h hg
  | ok a => exact ⟨RdyAt.same h.1 hg, h.2⟩
theorem RmG.tie {α β : Type} {val : World → World → α → Value → Prop} {z : Res α} {R : Res β} {q : α → Nat → Res β} {en : Ending} (h : RmG g t e val z w en w') (h1 : ∀ y, z = .error y → R = .error y) (h2 : ∀ x b, z = .ok (x, b) → R = q x b) :
    Only g w w' ∧ ∃ x v s, en = .returned v ∧ val w w' x v ∧ RSt w' g t e s ∧ Tie R s (q x) := by
  obtain ⟨ho, hm⟩ := h
  refine ⟨ho, ?_⟩
  cases z with
  | error y => obtain ⟨hb, x, v, hv, he⟩ := hm; exact ⟨x, v, .error y, he, hv, hb, h1 y rfl⟩
  | ok zz => obtain ⟨x, b⟩ := zz; obtain ⟨hr, hbl, v, hv, he⟩ := hm; exact ⟨x, v, .ok b, he, hv, ⟨hr, hbl⟩, h2 x b rfl⟩
theorem RmG.then {α β : Type} {val : World → World → α → Value → Prop} {pp : Nat → Res α} {a : Nat} {R : Res β} {q : α → Nat → Res β} {en : Ending} (h : RmG g t e val (pp a) w en w') (hR : R = thenP pp q a) :
    Only g w w' ∧ ∃ x v s, en = .returned v ∧ val w w' x v ∧ RSt w' g t e s ∧ Tie R s (q x) :=
  h.tie (fun _ hy => hR.trans (then_bad hy)) fun _ _ hz => hR.trans (then_of hz)
/-- What comes next, if no error is noted. -/
theorem RSt.look {β : Type} {R : Res β} {K : Nat → Res β} (h : RSt w g t e s) (hT : Tie R s K) (hK : ∀ a b, lookT t e a = .bad b → K a = .error (b, 5)) :
    (∃ y, RBad w g t e y ∧ R = .error y) ∨ (∃ a x p, lookT t e a = .tok x p ∧ a ≤ t.size ∧ RdyAt w g t e a ∧ R = K a) := by
  cases s with
  | error y => exact .inl ⟨y, h, hT⟩
  | ok a =>
    cases hl : lookT t e a with
    | bad b => exact .inl ⟨_, rdy_is_bad hl h.1, hT.trans (hK a b hl)⟩
    | tok x p => exact .inr ⟨a, x, p, hl, h.2, h.1, hT⟩
end
theorem rtake_st {β : Type} {R : Res β} {s : Except (Nat × Int) Nat} {q : Unit → Nat → Res β} (g : Nat) (t : ByteArray) (e : Nat) (k : ByteArray) (w : World) (h : RSt w g t e s) (hT : Tie R s (thenP (needP t e k) q)) (hs : t.size + e < 1073741824) :
    Calls Tryz.prog 150 #[.pointer (some ⟨g, 0, none⟩), .string k] w fun en w' => en = .returned (.tuple #[]) ∧ Only g w w' ∧ ∃ s', RSt w' g t e s' ∧ Tie R s' (q ()) := by
  cases s with
  | error y => exact (rtake_bad g t e y k w h).mono fun en w' ⟨he, ho, hb⟩ => ⟨he, ho, .error y, hb, hT⟩
  | ok a =>
    refine (rtake_walk g t e k a w h.1 hs).mono fun en w' hm => ?_
    obtain ⟨ho, x, v, s', he, hv, h1, h2⟩ := hm.then (q := q) hT
    subst hv
    exact ⟨he, ho, s', h1, h2⟩
theorem rsel_st {β : Type} {R : Res β} {s : Except (Nat × Int) Nat} {q : Sel → Nat → Res β} (f g : Nat) (t : ByteArray) (e : Nat) (w : World) (h : RSt w g t e s) (hT : Tie R s (thenP (selP gramT t e f) q)) (hs : t.size + e < 1073741824) (hgN : 12 ≤ g) (hL : Lvs w) (hf : t.size < f) :
    Calls Tryz.prog 153 #[.pointer (some ⟨g, 0, none⟩), .int .i64 9] w fun en w' => Only g w w' ∧ ∃ x v s', en = .returned v ∧ vSel w w' x v ∧ RSt w' g t e s' ∧ Tie R s' (q x) := by
  cases s with
  | error y => exact (rlistO_bad g t e y w h).mono fun en w' ⟨ho, hb, x, v, hv, he⟩ => ⟨ho, x, v, .error y, he, hv, hb, hT⟩
  | ok a => exact (rlistO_walk f (ratom_all f) g t e a w h.1 h.2 hs hgN hL (by omega)).mono fun en w' hm => RmG.then (pp := selP gramT t e f) (q := q) hm hT
theorem dig_numb (t : ByteArray) (e a : Nat) : digP gramT t e a = numbZ true t e a := by
  unfold digP numbZ
  cases nextP t e a with
  | error y => rfl
  | ok z =>
    obtain ⟨⟨x, p⟩, b⟩ := z
    have hg : gramT.num x = numZ 4 x := rfl
    dsimp only
    rw [hg]
    cases numZ 4 x with
    | none => rfl
    | some n => simp
theorem rnum_st {β : Type} {R : Res β} {s : Except (Nat × Int) Nat} {q : Nat → Nat → Res β} (g : Nat) (t : ByteArray) (e : Nat) (w : World) (h : RSt w g t e s) (hT : Tie R s (thenP (digP gramT t e) q)) (hs : t.size + e < 1073741824) :
    Calls Tryz.prog 151 #[.pointer (some ⟨g, 0, none⟩), .bool true] w fun en w' => Only g w w' ∧ ∃ n s', en = .returned (.int .i64 (n : Nat)) ∧ RSt w' g t e s' ∧ Tie R s' (q n) := by
  cases s with
  | error y => exact (rnumber_bad g t e y true w h).mono fun en w' ⟨⟨n, he⟩, ho, hb⟩ => ⟨ho, n, .error y, he, hb, hT⟩
  | ok a =>
    refine (rnumber_walk g t e a true w h.1 hs).mono fun en w' hm => ?_
    rw [← dig_numb] at hm
    obtain ⟨ho, x, v, s', he, hv, h1, h2⟩ := hm.then (q := q) hT
    subst hv
    exact ⟨ho, x, s', he, h1, h2⟩
theorem rbrack_st {β : Type} {R : Res β} {s : Except (Nat × Int) Nat} {q : List ByteArray → Nat → Res β} (g : Nat) (t : ByteArray) (e : Nat) (w : World) (h : RSt w g t e s) (hT : Tie R s (thenP (brackP gramT t e) q)) (hs : t.size + e < 1073741824) :
    Calls Tryz.prog 154 #[.pointer (some ⟨g, 0, none⟩)] w fun en w' => Only g w w' ∧ ∃ x v s', en = .returned v ∧ vStrs w w' x v ∧ RSt w' g t e s' ∧ Tie R s' (q x) := by
  cases s with
  | error y => exact (rbracket_bad g t e y w h).mono fun en w' ⟨he, ho, hb⟩ => ⟨ho, [], _, .error y, he, ⟨none, 0, rfl, Nat.le_refl _, fun h => absurd h (Nat.lt_irrefl 0)⟩, hb, hT⟩
  | ok a => exact (rbracket_walk g t e a w h.1 hs).mono fun en w' hm => RmG.then (pp := brackP gramT t e) (q := q) hm hT
/-- What the reference's names of the kinds of rules hold. -/
def Nms (w : World) : Prop := ∃ t r, w.heap[(0 : Nat)]? = some (.cells (kindWs.map Value.string).toArray t r)
theorem Nms.after {w w' : World} (h : Nms w) (hb : Below w.heap.size w w') : Nms w' := by obtain ⟨t, r, hr⟩ := h; exact ⟨t, r, (hb.block _ (blk_lt hr)).trans hr⟩
theorem Nms.only {w w' : World} {g : Nat} (h : Nms w) (ho : Only g w w') (hg : 12 ≤ g) : Nms w' := by obtain ⟨t, r, hr⟩ := h; exact ⟨t, r, (ho.block _ (blk_lt hr) (by intro e; injection e with e; omega)).trans hr⟩
theorem Nms.cell {w : World} (h : Nms w) {i : Nat} {x : ByteArray} (hx : kindWs[i]? = some x) : w.cell? ⟨0, i, none⟩ = some (.string x) := by
  obtain ⟨t, r, hr⟩ := h
  rw [cell_of_row w _ _ _ _ _ hr]
  simp [hx]
theorem Nms.lt {w : World} (h : Nms w) : (0 : Nat) < w.heap.size := by obtain ⟨t, r, hr⟩ := h; exact blk_lt hr
theorem Lvs.go {w w' : World} (h : Lvs w) (hb : Below w.heap.size w w') : Lvs w' := by obtain ⟨t, r, hr⟩ := h; exact ⟨t, r, (hb.block _ (blk_lt hr)).trans hr⟩
/-- The state while the reference reads a rule: the reader, the rule's cells, the result's. -/
structure RuR (w : World) (g rb r : Nat) (t : ByteArray) (e : Nat) (s : Except (Nat × Int) Nat) (vs : List Value) (V : World) : Prop where
  st : RSt V g t e s
  row : RowV 43 V r vs
  res : RowV 43 V rb (ru0 ⟨#[]⟩ 0 0)
  only : Only g w V
section
variable {w V V' : World} {g rb r e : Nat} {t : ByteArray} {s s' : Except (Nat × Int) Nat} {vs : List Value}
theorem RuR.next (h : RuR w g rb r t e s vs V) (hgb : g < rb) (hbr : rb < r) (ho : Only g V V') (hp : RSt V' g t e s') : RuR w g rb r t e s' vs V' := ⟨hp, h.row.only ho (by omega), h.res.only ho (by omega), h.only.trans ho⟩
theorem RowV.other {ty : TypeId} {b i : Nat} {o : Nat} {u : Value} {vs : List Value} (h : RowV ty V b vs) (hne : b ≠ o) : RowV ty (V.setCell ⟨o, i, none⟩ u) b vs := by
  obtain ⟨cs, h1, h2⟩ := h
  exact ⟨cs, (Below.heap_setCell _ _ _ b (by show b ≠ o; exact hne)).trans h1, h2⟩
theorem RuR.set (h : RuR w g rb r t e s vs V) (hgb : g < rb) (hbr : rb < r) (hr : w.heap.size ≤ r) (j : Nat) (u : Value) : RuR w g rb r t e s (vs.set j u) (V.setCell ⟨r, j, none⟩ u) :=
  ⟨h.st.same (Below.heap_setCell _ _ _ g (by show g ≠ r; omega)), h.row.set j u, h.res.other (by omega), only_setCell h.only (.inr hr) _⟩
theorem RuR.later (h : RuR w g rb r t e s vs V) (hb : Below V.heap.size V V') : RuR w g rb r t e s vs V' := ⟨h.st.later hb, h.row.later hb, h.res.later hb, Only.later h.only hb⟩
theorem RuR.with (h : RuR w g rb r t e s vs V) (hp : RSt V g t e s') : RuR w g rb r t e s' vs V := ⟨hp, h.row, h.res, h.only⟩
end
theorem then_assoc {α β γ : Type} (p : Nat → Res α) (q : α → Nat → Res β) (k : β → Nat → Res γ) : thenP (thenP p q) k = thenP p fun x => thenP (q x) k := by
  funext a
  unfold thenP
  cases p a with
  | error y => rfl
  | ok z => rfl
theorem then_pure {α β : Type} (x : α) (k : α → Nat → Res β) : thenP (pureP x) k = k x := rfl
theorem Tie.to {β : Type} {R : Res β} {s : Except (Nat × Int) Nat} {K K' : Nat → Res β} (h : Tie R s K) (e : K = K') : Tie R s K' := e ▸ h
section
variable (t : ByteArray) (e f : Nat)
theorem last6 : lastP gramT t e f 6 = thenP (needP t e xComma) fun _ => thenP (selP gramT t e f) fun s => pureP (s, []) := by
  funext a
  unfold lastP thenP
  rw [if_pos rfl]
  cases needP t e xComma a with
  | error y => rfl
  | ok z =>
    obtain ⟨u, b⟩ := z
    dsimp only
    cases selP gramT t e f b with
    | error y => rfl
    | ok zz => rfl
theorem last10 {k : Nat} (h6 : k ≠ 6) (h : k = 10 ∨ k = 11) : lastP gramT t e f k = thenP (needP t e xComma) fun _ => thenP (brackP gramT t e) fun l => pureP (zSel, l) := by
  funext a
  unfold lastP thenP
  rw [if_neg h6, if_pos h]
  cases needP t e xComma a with
  | error y => rfl
  | ok z =>
    obtain ⟨u, b⟩ := z
    dsimp only
    cases brackP gramT t e b with
    | error y => rfl
    | ok zz => rfl
theorem last0 {k : Nat} (h6 : k ≠ 6) (h : ¬ (k = 10 ∨ k = 11)) : lastP gramT t e f k = pureP (zSel, []) := by
  funext a
  unfold lastP pureP
  rw [if_neg h6, if_neg h]
theorem weight_numb {a p : Nat} {x : ByteArray} (hl : lookT t e a = .tok x p) (hx : x ≠ xHard) : weightP gramT t e a = numbZ false t e a := by
  unfold weightP numbZ
  rw [nextP_tok hl]
  have hg : gramT.num x = numZ 4 x := rfl
  dsimp only
  rw [if_neg hx, hg]
  cases numZ 4 x with
  | none => rfl
  | some n =>
    cases n with
    | zero => rfl
    | succ n => simp
theorem weight_hard {a p : Nat} (hl : lookT t e a = .tok xHard p) : weightP gramT t e a = .ok (0, startT t a + xHard.size) := by
  unfold weightP
  rw [nextP_tok hl]
  exact if_pos rfl
end
theorem kinds_apart : ∀ i : Nat, i < 12 → ∀ j : Nat, j < 12 → kindWs[i]? = kindWs[j]? → i = j := by decide +kernel
theorem kind_leaf {x : ByteArray} {j : Nat} (hj : j < 12) (h : kindWs[j]? = some x) : leafK kindWs x = j :=
  leafK_at kindWs x j (fun i hi e => by have := kinds_apart i (by omega) j hj (e.trans h.symm); omega) (.inr h)
theorem leaf_get {ws : List ByteArray} {x : ByteArray} (h : leafK ws x < ws.length) : ws[leafK ws x]? = some x := by
  have := List.findIdx_getElem (p := fun w => decide (w = x)) (xs := ws) (w := h)
  rw [List.getElem?_eq_getElem h]
  exact congrArg some (of_decide_eq_true this)
/-- What the reference's reader of rules does. -/
def RuleG (g : Nat) (t : ByteArray) (e : Nat) (R : Res RuleT) (w : World) (en : Ending) (w' : World) : Prop :=
  Only g w w' ∧ match R with
    | .error y => RBad w' g t e y ∧ ∃ nm wt k f0 f1 fA fl fc s0 s1 sA sl sc m ps, en = .returned (.tuple #[ruleV nm wt k f0 f1 (.slice fA fl fc) s0 s1 (.slice sA sl sc) m, ps])
    | .ok (u, _) => (∃ p x f, Rr w' g t e p x f 0 0) ∧ ∃ v, vRule w w' u v ∧ en = .returned v
/-- Thirteen cells are written. -/
def set13 (V : World) (r : Nat) (n : ByteArray) (wt k : Nat) (f0 : Int) (f1 : ByteArray) (f2 : Value) (s0 : Int) (s1 : ByteArray) (s2 : Value) (m : Nat) : World :=
  (((((((((((((V.setCell ⟨r, 0, none⟩ (.string n)).setCell ⟨r, 1, none⟩ (.int .i64 wt)).setCell ⟨r, 2, none⟩ (.int .i64 k)).setCell ⟨r, 3, none⟩ (.int .i64 f0)).setCell ⟨r, 4, none⟩ (.string f1)).setCell ⟨r, 5, none⟩ f2).setCell ⟨r, 6, none⟩ (.int .i64 s0)).setCell ⟨r, 7, none⟩ (.string s1)).setCell ⟨r, 8, none⟩ s2).setCell ⟨r, 9, none⟩ (.int .i64 m)).setCell ⟨r, 10, none⟩ (.slice none 0 0)).setCell ⟨r, 11, none⟩ (.slice none 0 0)).setCell ⟨r, 12, none⟩ (.int .i64 0))
theorem set13_done {w V : World} {g b : Nat} {x0 x1 x2 x3 x4 x5 x6 x7 x8 x9 x10 x11 x12 : Value} (hrow : RowV 43 V b [x0, x1, x2, x3, x4, x5, x6, x7, x8, x9, x10, x11, x12]) (ho : Only g w V) (hb : w.heap.size ≤ b) (n : ByteArray) (wt k : Nat) (f0 : Int) (f1 : ByteArray) (f2 : Value) (s0 : Int) (s1 : ByteArray) (s2 : Value) (m : Nat) :
    RowV 43 (set13 V b n wt k f0 f1 f2 s0 s1 s2 m) b (ruleL n wt k f0 f1 f2 s0 s1 s2 m) ∧ Only g w (set13 V b n wt k f0 f1 f2 s0 s1 s2 m) ∧ (set13 V b n wt k f0 f1 f2 s0 s1 s2 m).heap.size = V.heap.size ∧ ∀ c, c ≠ b → (set13 V b n wt k f0 f1 f2 s0 s1 s2 m).heap[c]? = V.heap[c]? := by
  have step : ∀ {U : World} {vs : List Value} (j : Nat) (u : Value), RowV 43 U b vs ∧ Only g w U ∧ U.heap.size = V.heap.size ∧ (∀ c, c ≠ b → U.heap[c]? = V.heap[c]?) →
      RowV 43 (U.setCell ⟨b, j, none⟩ u) b (vs.set j u) ∧ Only g w (U.setCell ⟨b, j, none⟩ u) ∧ (U.setCell ⟨b, j, none⟩ u).heap.size = V.heap.size ∧ (∀ c, c ≠ b → (U.setCell ⟨b, j, none⟩ u).heap[c]? = V.heap[c]?) :=
    fun j u ⟨h1, h2, h3, h4⟩ => ⟨h1.set j u, only_setCell h2 (.inr hb) _, by rw [← h3]; simp [World.setCell], fun c hc => (Below.heap_setCell _ _ _ c hc).trans (h4 c hc)⟩
  exact step 12 _ (step 11 _ (step 10 _ (step 9 _ (step 8 _ (step 7 _ (step 6 _ (step 5 _ (step 4 _ (step 3 _ (step 2 _ (step 1 _ (step 0 _ ⟨hrow, ho, rfl, fun _ _ => rfl⟩))))))))))))
end Go.Proofs.YtdnnahdafhddlaaGreatDoor
