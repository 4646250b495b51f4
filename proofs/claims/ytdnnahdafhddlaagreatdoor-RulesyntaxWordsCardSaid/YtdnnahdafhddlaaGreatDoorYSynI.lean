/- Walk of rulesyntax.finish. Conditions: the rule's cells are as RowV says; what the program's variables hold. Walk of rulesyntax.finish at a rule that takes times. Conditions: the rule's cells are as RowV says; what the program's variables hold. How great what is read can be (plain). No walk. The grammar of rules: a line, as the program reads it and as the reference does (plain). No walk. What is read ends in the text; how great a rule's parts can be (plain). No walk. The parts of a text in brackets are no greater than the text (plain). No walk. The grammar of rules: a text of lines (plain). No walk. A text of rules, line by line (plain). No walk. A line is cut at its remark and trimmed: in the words of the readers (plain); the kept rule's line. No walk. -/
import Derived.Test.YtdnnahdafhddlaaGreatDoorYRrS
namespace Go.Proofs.YtdnnahdafhddlaaGreatDoor
open Go.RowKit
set_option maxRecDepth 100000

def joinP (ps : List ByteArray) : ByteArray := ⟨(Lib.join (ps.map (·.data.toList)) [59]).toArray⟩
def ruleOf (u : RuleT) (line : Int) (ts : List T4) (rs : List ByteArray) : RuleD := ⟨u.name, u.weight, u.kind, u.first, u.second, u.n, ts, rs, line⟩
def checkR (d sl b m wk : Int) (r : RuleD) : Except Int RuleD := if ruleE d sl b m wk r = 0 then .ok r else .error (ruleE d sl b m wk r)
/-- What is kept of a rule that was read, or its first error. -/
def finR (d sl b m wk line : Int) (u : RuleT) : Except Int RuleD :=
  if u.kind = 10 then (if firstE (pieceE d sl b m wk) u.parts = 0 then checkR d sl b m wk (ruleOf u line (u.parts.map (pieceV d sl b m wk)) []) else .error (firstE (pieceE d sl b m wk) u.parts))
  else if u.kind = 11 then (if (listV (joinP u.parts)).1 = 0 then checkR d sl b m wk (ruleOf u line [] (listV (joinP u.parts)).2) else .error ((listV (joinP u.parts)).1 : Int))
  else checkR d sl b m wk (ruleOf u line [] [])
def FinG (rb : Nat) (S : Nat → Prop) (r : Except Int RuleD) (w : World) (en : Ending) (w' : World) : Prop :=
  Only rb w w' ∧ match r with
  | .error c => c ≠ 0 ∧ en = .returned (.int .i64 c)
  | .ok x => en = .returned (.int .i64 0) ∧ ∃ vs, RowV 43 w' rb vs ∧ kRule.rep (fun b => (S b ∨ w.heap.size ≤ b) ∧ b ≠ rb) w' x vs
theorem fin_err {rb : Nat} {S : Nat → Prop} {c : Int} {w w' : World} (ho : Only rb w w') (hc : c ≠ 0) : FinG rb S (.error c) w (.returned (.int .i64 c)) w' := ⟨ho, hc, rfl⟩
/-- The last word is Valid's. -/
theorem fin_check {rb : Nat} {S : Nat → Prop} {d sl b m wk : Int} {x : RuleD} {w V w' : World} {vs : List Value} (ho : Only rb w V) (hrow : RowV 43 V rb vs) (hrep : kRule.rep (fun b => (S b ∨ w.heap.size ≤ b) ∧ b ≠ rb) V x vs) (hb : Below V.heap.size V w') :
    FinG rb S (checkR d sl b m wk x) w (.returned (.int .i64 (ruleE d sl b m wk x))) w' := by
  unfold checkR
  by_cases h : ruleE d sl b m wk x = 0
  · rw [if_pos h, h]
    exact ⟨Only.later ho hb, rfl, vs, hrow.later hb, kRule.later hrep hb⟩
  · rw [if_neg h]
    exact ⟨Only.later ho hb, h, rfl⟩
theorem load13v {w : World} {g : Nat} {u0 u1 u2 u3 u4 u5 u6 u7 u8 u9 u10 u11 u12 : Value} (h : RowV 43 w g [u0, u1, u2, u3, u4, u5, u6, u7, u8, u9, u10, u11, u12]) :
    (loadVar 43 ⟨g, 0, none⟩).run Tryz.prog w = .ok (.agg #[u0, u1, u2, u3, u4, u5, u6, u7, u8, u9, u10, u11, u12]) w := by
  have h0 := h.get (j := 0) rfl
  have h1 := h.get (j := 1) rfl
  have h2 := h.get (j := 2) rfl
  have h3 := h.get (j := 3) rfl
  have h4 := h.get (j := 4) rfl
  have h5 := h.get (j := 5) rfl
  have h6 := h.get (j := 6) rfl
  have h7 := h.get (j := 7) rfl
  have h8 := h.get (j := 8) rfl
  have h9 := h.get (j := 9) rfl
  have h10 := h.get (j := 10) rfl
  have h11 := h.get (j := 11) rfl
  have h12 := h.get (j := 12) rfl
  simp [go_sem, h0, h1, h2, h3, h4, h5, h6, h7, h8, h9, h10, h11, h12]
/-- A time is appended, in a region that draws. -/
theorem step_tm {ops : Array Oper} {o : Oper} {a : Act} {K' : Act → World → Prop} {Q : Exit → Act → World → Prop} {E : Prop} {B H : Nat} {w : World} {v : Value} {ts : List T4} (hgd : o.guard = none) (s x : Operand)
    (ho : o.op = .call { callee := .builtin .append, args := #[s, x], argTypes := #[41, 41] }) (hs : a.eval s = v) (h : TimesOwn B w v ts) (hl : ts.length ≤ 2000000000) (ad : Addr) (c : Nat) (hx : a.eval x = .slice (some ad) 1 c) (t : T4)
    (hnews : ∀ j u, (encT t)[j]? = some u → w.cell? (ad.add j) = some u) (hB : B ≤ w.heap.size) (hH : w.heap.size = H)
    (hk : ∀ g cap w', TimesOwn B w' (.slice (some ⟨g, 0, none⟩) (ts.length + 1) cap) (ts ++ [t]) → w.grownBy w' v.ownBlock → (v.ownBlock = some g ∨ g = H) → g < w'.heap.size → K' (a.put o.dst (.slice (some ⟨g, 0, none⟩) (ts.length + 1) cap)) w') :
    if Region.wanted o (yielded ops a.tmps) = true then Oper.wp Tryz.prog o a w K' Q else E := by
  obtain ⟨i0, hi, hz0, hz1, hz2⟩ := info_parts infoTime
  refine step_append_lies w hgd s x 41 ho B 67 i0 (.agg #[.int .i64 0, .int .i64 0, .int .i64 0, .int .i64 0]) 4 32 Tryz.underlying41 hi hz0 hz1 hz2 rfl (by decide) v ts.length _ hs h ad 1 c (encT t) hx rfl hnews (one_times t) (by decide) (by unfold maxLen; omega) (by omega) hB H hH fun g cap w' hn hg hwh hlt => hk g cap w' ?_ hg hwh hlt
  unfold TimesOwn
  rw [List.length_append, flatT_snoc]
  exact hn
theorem joinP_walk {S : Nat → Prop} (w : World) (A : Option Addr) (c : Nat) (zs : List ByteArray) (h : At kStr S w A zs) (hc : zs.length ≤ c) (hl : zs.length ≤ 1000000) (hj : (joinP zs).size ≤ 1073741824) :
    Calls Tryz.prog 61 #[.slice A zs.length c, .string ⟨#[59]⟩] w fun e w' => e = .returned (.string (joinP zs)) ∧ Below w.heap.size w w' := by
  by_cases h0 : 0 < zs.length
  · obtain ⟨b, off, rfl, -, hlt, hcl⟩ := h h0
    refine Tryz.strings_Join b off c zs ⟨#[59]⟩ w (fun j x hx => ?_) hlt (by omega) hc (by rw [show (joinP zs).size = _ from rfl] at hj; exact Nat.le_trans (by simpa [joinP, ByteArray.size] using hj) (by decide))
    obtain ⟨vs, hr, hcell⟩ := hcl j x hx
    obtain rfl := rep_str.1 hr
    simpa [kStr] using hcell 0 _ rfl
  · obtain rfl := List.eq_nil_of_length_eq_zero (by omega : zs.length = 0)
    exact (Tryz.strings_Join_none A c _ w).mono fun e w' ⟨he, hw⟩ => ⟨he, by rw [hw]; exact Below.refl _ _⟩
set_option maxHeartbeats 4000000 in
/-- A rule that takes no list. -/
theorem finish_none (d sl b m wk line : Int) (u : RuleT) (h10 : u.kind ≠ 10) (h11 : u.kind ≠ 11) (hok : selSize u.first ≤ 9223372036854775807 ∧ selSize u.second ≤ 9223372036854775807) (rb : Nat) (S : Nat → Prop) (f0 s0 : Int) (f1 s1 : ByteArray) (fA sA A : Option Addr) (fl fc sl' sc c : Nat) (w : World)
    (hrow : RowV 43 w rb [.string u.name, .int .i64 u.weight, .int .i64 u.kind, .int .i64 f0, .string f1, .slice fA fl fc, .int .i64 s0, .string s1, .slice sA sl' sc, .int .i64 u.n, .slice none 0 0, .slice none 0 0, .int .i64 line]) (hS : ∀ x, S x → x ≠ rb)
    (h1 : kSel.rep S w u.first [.int .i64 f0, .string f1, .slice fA fl fc]) (h2 : kSel.rep S w u.second [.int .i64 s0, .string s1, .slice sA sl' sc]) :
    Calls Tryz.prog 54 #[.pointer (some ⟨rb, 0, none⟩), .slice A u.parts.length c, .agg #[.int .i64 d, .int .i64 sl, .int .i64 b, .int .i64 m], .int .i64 wk] w fun en w' => FinG rb S (finR d sl b m wk line u) w en w' := by
  have hfin : finR d sl b m wk line u = checkR d sl b m wk (ruleOf u line [] []) := by unfold finR; rw [if_neg h10, if_neg h11]
  rw [hfin]
  obtain ⟨W, hW⟩ : ∃ W, w.alloc (.cells #[.int .i64 d, .int .i64 sl, .int .i64 b, .int .i64 m] 23) = W := ⟨_, rfl⟩
  have hb : Below w.heap.size w W := by rw [← hW]; exact (by repeat (first | exact Below.refl _ _ | refine ext_alloc ?_ _ | refine ext_drewN ?_ _ | refine ext_drew ?_ | refine ext_trans ?_ (by assumption)))
  have hrep : kRule.rep (fun x => (S x ∨ w.heap.size ≤ x) ∧ x ≠ rb) w (ruleOf u line [] []) [.string u.name, .int .i64 u.weight, .int .i64 u.kind, .int .i64 f0, .string f1, .slice fA fl fc, .int .i64 s0, .string s1, .slice sA sl' sc, .int .i64 u.n, .slice none 0 0, .slice none 0 0, .int .i64 line] :=
    ⟨f0, f1, fA, fl, fc, s0, s1, sA, sl', sc, none, 0, none, 0, rfl, kSel.more h1 fun x hx => ⟨.inl hx, hS x hx⟩, kSel.more h2 fun x hx => ⟨.inl hx, hS x hx⟩, Nat.le_refl _, fun h => absurd h (Nat.lt_irrefl 0), Nat.le_refl _, fun h => absurd h (Nat.lt_irrefl 0)⟩
  have hV := rvalid_walk (ruleOf u line [] []) ⟨hok.1, hok.2, Nat.zero_le _, Nat.zero_le _⟩ d sl b m wk f1 s1 f0 s0 fA sA none none fl fc sl' sc 0 0 W.drew (Nat.le_refl _) (kSel.later (kSel.more h1 fun _ _ => trivial) (ext_drew hb)) (kSel.later (kSel.more h2 fun _ _ => trivial) (ext_drew hb)) (fun h => absurd h (Nat.lt_irrefl 0)) (fun h => absurd h (Nat.lt_irrefl 0))
  have hrowW := hrow.later hb
  have hrowD := hrow.later (ext_drew hb)
  have hrepW := kRule.later hrep (ext_drew hb)
  have hend : Hid (∀ w', Below W.drew.heap.size W.drew w' → FinG rb S (checkR d sl b m wk (ruleOf u line [] [])) w (.returned (.int .i64 (ruleE d sl b m wk (ruleOf u line [] [])))) w') := hide fun w' hb' => fin_check (only_of_below (ext_drew hb) _) hrowD hrepW hb'
  obtain ⟨E, hE⟩ : ∃ E, ruleE d sl b m wk (ruleOf u line [] []) = E := ⟨_, rfl⟩
  have hV : Calls Tryz.prog 16 #[.agg #[.string u.name, .int .i64 u.weight, .int .i64 u.kind, .int .i64 f0, .string f1, .slice fA fl fc, .int .i64 s0, .string s1, .slice sA sl' sc, .int .i64 u.n, .slice none 0 0, .slice none 0 0, .int .i64 line], .agg #[.int .i64 d, .int .i64 sl, .int .i64 b, .int .i64 m], .int .i64 wk] W.drew fun e w' => e = .returned (.int .i64 (ruleE d sl b m wk (ruleOf u line [] []))) ∧ Below W.drew.heap.size W.drew w' := hV
  rw [hE] at hV hend
  obtain ⟨kd, hkd⟩ : ∃ kd, u.kind = kd := ⟨_, rfl⟩
  obtain ⟨nm, hnm⟩ : ∃ nm, u.name = nm := ⟨_, rfl⟩
  obtain ⟨wt, hwt⟩ : ∃ wt, u.weight = wt := ⟨_, rfl⟩
  obtain ⟨nn, hnn⟩ : ∃ nn, u.n = nn := ⟨_, rfl⟩
  rw [hkd, hnm, hwt, hnn] at hrow hrowW hV
  rw [hkd] at h10 h11
  have c2 := hrowW.get (j := 2) rfl
  have c0 := hrowW.get (j := 0) rfl
  have c1 := hrowW.get (j := 1) rfl
  have c3 := hrowW.get (j := 3) rfl
  have c4 := hrowW.get (j := 4) rfl
  have c5 := hrowW.get (j := 5) rfl
  have c6 := hrowW.get (j := 6) rfl
  have c7 := hrowW.get (j := 7) rfl
  have c8 := hrowW.get (j := 8) rfl
  have c9 := hrowW.get (j := 9) rfl
  have c10 := hrowW.get (j := 10) rfl
  have c11 := hrowW.get (j := 11) rfl
  have c12 := hrowW.get (j := 12) rfl
  have hrl := hrow.lt
  have hrlW := hrowW.lt
  have hb4 : Box4 W w.heap.size (.int .i64 d) (.int .i64 sl) (.int .i64 b) (.int .i64 m) := by rw [← hW]; exact Box4.new w 23 (.int .i64 d) (.int .i64 sl) (.int .i64 b) (.int .i64 m)
  obtain ⟨g0, g1, g2, g3⟩ := hb4
  clear hrep hrepW hrowD h1 h2 hok hS hE hfin hkd hnm hwt hnn
  replace hrowW := hide hrowW
  replace hrow := hide hrow
  go_enter Tryz.func54, Tryz.ntmps54
  go_wp2_with fail
  go_still_tail 5, (by kernel_rfl)
  change wpList _ _ _ _ _ W.drew
  go_wp2_with fail
  refine hV.mono ?_
  rintro e w1 ⟨rfl, hb1⟩
  have hfin := hend.out w1 hb1
  clear hV hend
  go_wp2
  go_ret
  exact hfin
theorem rep_apart {rb : Nat} {S : Nat → Prop} {w V : World} {s : Sel} {vs : List Value} (h : kSel.rep S w s vs) (ho : Only rb w V) (hS : ∀ x, S x → x ≠ rb) : kSel.rep (fun x => (S x ∨ w.heap.size ≤ x) ∧ x ≠ rb) V s vs :=
  kSel.kept h fun b hb hlt => ⟨⟨.inl hb, hS b hb⟩, Nat.lt_of_lt_of_le hlt ho.size, ho.block b hlt (by intro e; injection e with e; exact hS b hb e)⟩
set_option maxHeartbeats 4000000 in
/-- A rule that takes rooms. -/
theorem finish_rooms (d sl b m wk line : Int) (u : RuleT) (h11 : u.kind = 11) (hok : selSize u.first ≤ 9223372036854775807 ∧ selSize u.second ≤ 9223372036854775807) (hj : (joinP u.parts).size < 1073741824) (hl : u.parts.length ≤ 1000000) (rb : Nat) (S : Nat → Prop) (f0 s0 : Int) (f1 s1 : ByteArray) (fA sA A : Option Addr) (fl fc sl' sc c : Nat) (w : World) (hStd : Std w) (_ : 12 ≤ rb)
    (hrow : RowV 43 w rb [.string u.name, .int .i64 u.weight, .int .i64 u.kind, .int .i64 f0, .string f1, .slice fA fl fc, .int .i64 s0, .string s1, .slice sA sl' sc, .int .i64 u.n, .slice none 0 0, .slice none 0 0, .int .i64 line]) (hS : ∀ x, S x → x ≠ rb)
    (h1 : kSel.rep S w u.first [.int .i64 f0, .string f1, .slice fA fl fc]) (h2 : kSel.rep S w u.second [.int .i64 s0, .string s1, .slice sA sl' sc]) (h3 : At kStr S w A u.parts) (h4 : u.parts.length ≤ c) :
    Calls Tryz.prog 54 #[.pointer (some ⟨rb, 0, none⟩), .slice A u.parts.length c, .agg #[.int .i64 d, .int .i64 sl, .int .i64 b, .int .i64 m], .int .i64 wk] w fun en w' => FinG rb S (finR d sl b m wk line u) w en w' := by
  have hfin : finR d sl b m wk line u = (if (listV (joinP u.parts)).1 = 0 then checkR d sl b m wk (ruleOf u line [] (listV (joinP u.parts)).2) else .error ((listV (joinP u.parts)).1 : Int)) := by unfold finR; rw [if_neg (by omega), if_pos h11]
  rw [hfin]
  obtain ⟨W, hW⟩ : ∃ W, w.alloc (.cells #[.int .i64 d, .int .i64 sl, .int .i64 b, .int .i64 m] 23) = W := ⟨_, rfl⟩
  have hb : Below w.heap.size w W := by rw [← hW]; exact (by repeat (first | exact Below.refl _ _ | refine ext_alloc ?_ _ | refine ext_drewN ?_ _ | refine ext_drew ?_ | refine ext_trans ?_ (by assumption)))
  have hjw := joinP_walk W A c u.parts (h3.later hb) h4 hl (by omega)
  obtain ⟨J, hJ⟩ : ∃ J, joinP u.parts = J := ⟨_, rfl⟩
  rw [hJ] at hjw hj ⊢
  obtain ⟨n, l, hnl⟩ : ∃ n l, listV J = (n, l) := ⟨_, _, rfl⟩
  have hlw := hide (fun (V : World) (hV : Below W.heap.size W V) => (list_walk J V ((hStd.after hb).after hV) hj).mono (fun e w' h => (by obtain ⟨v, he, ho, hb⟩ := h; rw [hnl] at he ho; exact ⟨v, he, ho, hb⟩ : ∃ v, e = .returned (.tuple #[v, .int .i64 (n : Int)]) ∧ Own kStr 9 [] 0 V.heap.size w' v l ∧ Below V.heap.size V w')))
  have hnl2 := Nat.le_trans (listV_len64 J) (by decide : 64 ≤ 9223372036854775807)
  rw [hnl] at hnl2
  rw [hnl]
  dsimp only at hnl2 ⊢
  obtain ⟨R, hR⟩ : ∃ R, (if n = 0 then checkR d sl b m wk (ruleOf u line [] l) else Except.error (n : Int)) = R := ⟨_, rfl⟩
  rw [hR]
  replace hR := hide hR
  have hrowW := hrow.later hb
  have hrl := hrow.lt
  obtain ⟨kd, hkd⟩ : ∃ kd : Int, (u.kind : Int) = kd := ⟨_, rfl⟩
  have hkd11 : kd = 11 := by omega
  rw [hkd] at hrowW
  subst hkd11
  have hb4 : Box4 W w.heap.size (.int .i64 d) (.int .i64 sl) (.int .i64 b) (.int .i64 m) := by rw [← hW]; exact Box4.new w 23 (.int .i64 d) (.int .i64 sl) (.int .i64 b) (.int .i64 m)
  have c2 := hrowW.get (j := 2) rfl
  have hrlW := hrowW.lt
  replace hkd := hide hkd
  replace hrowW := hide hrowW
  replace hb4 := hide hb4
  obtain ⟨N, hN⟩ : ∃ N, u.parts.length = N := ⟨_, rfl⟩
  rw [hN] at hjw
  rw [hN]
  clear hrow hfin h11 hN h3 h4
  go_enter Tryz.func54, Tryz.ntmps54
  go_wp2_with fail
  refine hjw.mono ?_
  rintro e w1 ⟨rfl, hb1⟩
  have hl1 := hlw.out w1 hb1
  clear hjw hlw
  go_wp2_with fail
  refine hl1.mono ?_
  rintro e w2 ⟨v, rfl, hown, hb2⟩
  have hbw := ext_trans hb (ext_trans hb1 hb2)
  have hbW := ext_trans hb1 hb2
  by_cases hn : n = 0
  · subst hn
    have hR := hR.out
    rw [if_pos rfl] at hR
    obtain ⟨A', c', rfl, hc', hat⟩ := hown.at
    have hrow2 := hrowW.out.later hbW
    have hrow3 := hrow2.set 11 (.slice A' l.length c')
    have hfz := hrow2.free 11
    have hbw1 := hb1.size
    have hWw := hb.size
    have ho3 : Only rb w (w2.setCell ⟨rb, 11, none⟩ (.slice A' l.length c')) := only_setCell (only_of_below hbw _) (.inl rfl) _
    have hb43 : Box4 (w2.setCell ⟨rb, 11, none⟩ (.slice A' l.length c')) w.heap.size (.int .i64 d) (.int .i64 sl) (.int .i64 b) (.int .i64 m) := ((hb4.out).later hbW).only (g := rb) (only_setCell (Only.refl _ _) (.inl rfl) _) (Nat.ne_of_gt hrl)
    have hat3 : At kStr (fun x => (S x ∨ w.heap.size ≤ x) ∧ x ≠ rb) (w2.setCell ⟨rb, 11, none⟩ (.slice A' l.length c')) A' l := hat.kept fun x hx hlt => by
      have hx2 : w.heap.size ≤ x := by
        rcases hx with h | ⟨h, -⟩
        · omega
        · omega
      exact ⟨⟨.inr hx2, by omega⟩, by simpa [World.setCell] using hlt, Below.heap_setCell _ _ _ x (by show x ≠ rb; omega)⟩
    generalize hw3 : w2.setCell ⟨rb, 11, none⟩ (.slice A' l.length c') = w3 at *
    have hr1 := rep_apart h1 ho3 hS
    have hr2 := rep_apart h2 ho3 hS
    have hrep3 : kRule.rep (fun x => (S x ∨ w.heap.size ≤ x) ∧ x ≠ rb) w3 (ruleOf u line [] l) [.string u.name, .int .i64 u.weight, .int .i64 11, .int .i64 f0, .string f1, .slice fA fl fc, .int .i64 s0, .string s1, .slice sA sl' sc, .int .i64 u.n, .slice none 0 0, .slice A' l.length c', .int .i64 line] := by
      rw [← hkd.out]
      exact ⟨f0, f1, fA, fl, fc, s0, s1, sA, sl', sc, none, 0, A', c', rfl, hr1, hr2, Nat.le_refl _, fun h => absurd h (Nat.lt_irrefl 0), hc', hat3⟩
    have hV := rvalid_walk (ruleOf u line [] l) ⟨hok.1, hok.2, Nat.zero_le _, hnl2⟩ d sl b m wk f1 s1 f0 s0 fA sA none A' fl fc sl' sc 0 c' w3.drew hc' (kSel.later (kSel.more hr1 fun _ _ => trivial) (ext_drew (Below.refl _ _))) (kSel.later (kSel.more hr2 fun _ _ => trivial) (ext_drew (Below.refl _ _))) (fun h => absurd h (Nat.lt_irrefl 0)) ((hat3.more fun _ _ => trivial).later (ext_drew (Below.refl _ _)))
    have hrow3 : RowV 43 w3 rb [.string u.name, .int .i64 u.weight, .int .i64 11, .int .i64 f0, .string f1, .slice fA fl fc, .int .i64 s0, .string s1, .slice sA sl' sc, .int .i64 u.n, .slice none 0 0, .slice A' l.length c', .int .i64 line] := hrow3
    have hend : Hid (∀ w', Below w3.drew.heap.size w3.drew w' → FinG rb S R w (.returned (.int .i64 (ruleE d sl b m wk (ruleOf u line [] l)))) w') := hide fun w' hb' => hR ▸ fin_check (Only.later ho3 (ext_drew (Below.refl _ _))) (hrow3.later (ext_drew (Below.refl _ _))) (kRule.later hrep3 (ext_drew (Below.refl _ _))) hb'
    obtain ⟨E, hE⟩ : ∃ E, ruleE d sl b m wk (ruleOf u line [] l) = E := ⟨_, rfl⟩
    have hV : Calls Tryz.prog 16 #[.agg #[.string u.name, .int .i64 u.weight, .int .i64 u.kind, .int .i64 f0, .string f1, .slice fA fl fc, .int .i64 s0, .string s1, .slice sA sl' sc, .int .i64 u.n, .slice none 0 0, .slice A' l.length c', .int .i64 line], .agg #[.int .i64 d, .int .i64 sl, .int .i64 b, .int .i64 m], .int .i64 wk] w3.drew fun e w' => e = .returned (.int .i64 (ruleE d sl b m wk (ruleOf u line [] l))) ∧ Below w3.drew.heap.size w3.drew w' := hV
    rw [hkd.out, hE] at hV
    rw [hE] at hend
    have hVh := hide hV
    clear hV hrep3 hr1 hr2 hat3 hat h1 h2 hb4 hown hE ho3 hnl2 hb hb1 hb2 hbw hbW
    have q0 := hrow3.get (j := 0) rfl
    have q1 := hrow3.get (j := 1) rfl
    have q2 := hrow3.get (j := 2) rfl
    have q3 := hrow3.get (j := 3) rfl
    have q4 := hrow3.get (j := 4) rfl
    have q5 := hrow3.get (j := 5) rfl
    have q6 := hrow3.get (j := 6) rfl
    have q7 := hrow3.get (j := 7) rfl
    have q8 := hrow3.get (j := 8) rfl
    have q9 := hrow3.get (j := 9) rfl
    have q10 := hrow3.get (j := 10) rfl
    have q11 := hrow3.get (j := 11) rfl
    have q12 := hrow3.get (j := 12) rfl
    have hrl3 := hrow3.lt
    obtain ⟨g0, g1, g2, g3⟩ := hb43
    have hrl2 := hrow2.lt
    have hr11 := hrow2.get (j := 11) rfl
    clear hrow3 hrow2 c2
    go_upto_region 16 with fail
    go_still_tail 5, (by kernel_rfl)
    change wpList _ _ _ _ _ w3.drew
    go_wp2_with fail
    refine hVh.out.mono ?_
    rintro e w4 ⟨rfl, hb4⟩
    have hfin := hend.out w4 hb4
    clear hVh hend
    go_wp2
    go_ret
    exact hfin
  · have hR := hR.out
    rw [if_neg hn] at hR
    have hend : Hid (∀ w', w' = w2 → FinG rb S R w (.returned (.int .i64 (n : Int))) w') := hide fun w' e => by rw [e, ← hR]; exact fin_err (only_of_below hbw _) (by omega)
    have hn2 : ((n : Int) != 0) = true := by rw [bne_iff_ne]; omega
    replace hn := hide hn
    clear h1 h2 hown hb hb1 hb2 hbw hbW c2
    go_wp2
    go_ret
    exact hend.out _ rfl
end Go.Proofs.YtdnnahdafhddlaaGreatDoor

namespace Go.Proofs.YtdnnahdafhddlaaGreatDoor
open Go.RowKit
set_option maxRecDepth 100000

theorem firstE_stop (f : ByteArray → Int) : ∀ (l : List ByteArray) (j : Nat) (z : ByteArray), firstE f (l.take j) = 0 → l[j]? = some z → f z ≠ 0 → firstE f l = f z
  | [], j, z, _, h, _ => by simp at h
  | x :: l, 0, z, _, h, hz => by
    simp at h; subst h
    rw [firstE, if_neg hz]
  | x :: l, j + 1, z, h0, h, hz => by
    rw [List.take_succ_cons, firstE] at h0
    by_cases hx : f x = 0
    · rw [if_pos hx] at h0
      rw [firstE, if_pos hx]
      exact firstE_stop f l j z h0 (by simpa using h) hz
    · rw [if_neg hx] at h0
      exact absurd h0 hx
def TmLoop (d sl b m wk : Int) (zs : List ByteArray) (rb : Nat) (nm : ByteArray) (wt : Nat) (f0 : Int) (f1 : ByteArray) (f2 : Value) (s0 : Int) (s1 : ByteArray) (s2 : Value) (nn : Nat) (line : Int) (_w W : World) (i : Value) (wr : World) : Prop :=
  ∃ j : Nat, j ≤ zs.length ∧ i = .int .i64 j ∧ firstE (pieceE d sl b m wk) (zs.take j) = 0 ∧ Only rb W wr ∧ ∃ A n c, j = n ∧ TimesOwn W.heap.size wr (.slice A n c) ((zs.take j).map (pieceV d sl b m wk)) ∧ RowV 43 wr rb [.string nm, .int .i64 wt, .int .i64 10, .int .i64 f0, .string f1, f2, .int .i64 s0, .string s1, s2, .int .i64 nn, .slice A n c, .slice none 0 0, .int .i64 line]
theorem times_at {B : Nat} {w : World} {A : Option Addr} {n c : Nat} {ts : List T4} (h : TimesOwn B w (.slice A n c) ts) (hn : ts.length = n) : At kTime (fun x => B ≤ x) w A ts ∧ n ≤ c := by
  have ho : Own kTime 67 [] 0 B w (.slice A n c) ts := ⟨ts.map encT, by simp, by rw [show (ts.map encT).flatten = ts.flatMap encT from (List.flatMap_def ..).symm]; exact h, fun j x vs hj hv => by
    rw [List.getElem?_map, hj] at hv
    cases Option.some.inj hv
    exact ⟨[_], _, rfl, rfl, [_], _, rfl, rfl, [_], [_], rfl, rfl, rfl⟩⟩
  obtain ⟨A', c', he, hc, hat⟩ := ho.at
  injection he with e1 e2 e3
  subst e1 e3
  refine ⟨hat.more fun b hb => ?_, by omega⟩
  rcases hb with hb | ⟨hb, -⟩
  · omega
  · exact hb
theorem RowV.grown {ty : TypeId} {w w' : World} {b : Nat} {vs : List Value} {row : Option Nat} (h : RowV ty w b vs) (hg : w.grownBy w' row) (hne : some b ≠ row) : RowV ty w' b vs := by
  obtain ⟨cs, h1, h2⟩ := h
  exact ⟨cs, (hg.block b (blk_lt h1) hne).trans h1, h2⟩
set_option maxHeartbeats 4000000 in
theorem finish_times (d sl b m wk line : Int) (u : RuleT) (h10 : u.kind = 10) (hok : selSize u.first ≤ 9223372036854775807 ∧ selSize u.second ≤ 9223372036854775807) (hl : u.parts.length ≤ 1000000) (hz : ∀ z ∈ u.parts, z.size < 1073741824) (rb : Nat) (S : Nat → Prop) (f0 s0 : Int) (f1 s1 : ByteArray) (fA sA A : Option Addr) (fl fc sl' sc c : Nat) (w : World) (hStd : Std w) (hrb : 12 ≤ rb)
    (hrow : RowV 43 w rb [.string u.name, .int .i64 u.weight, .int .i64 u.kind, .int .i64 f0, .string f1, .slice fA fl fc, .int .i64 s0, .string s1, .slice sA sl' sc, .int .i64 u.n, .slice none 0 0, .slice none 0 0, .int .i64 line]) (hS : ∀ x, S x → x ≠ rb)
    (h1 : kSel.rep S w u.first [.int .i64 f0, .string f1, .slice fA fl fc]) (h2 : kSel.rep S w u.second [.int .i64 s0, .string s1, .slice sA sl' sc]) (h3 : At kStr S w A u.parts) :
    Calls Tryz.prog 54 #[.pointer (some ⟨rb, 0, none⟩), .slice A u.parts.length c, .agg #[.int .i64 d, .int .i64 sl, .int .i64 b, .int .i64 m], .int .i64 wk] w fun en w' => FinG rb S (finR d sl b m wk line u) w en w' := by
  have hfin : finR d sl b m wk line u = (if firstE (pieceE d sl b m wk) u.parts = 0 then checkR d sl b m wk (ruleOf u line (u.parts.map (pieceV d sl b m wk)) []) else .error (firstE (pieceE d sl b m wk) u.parts)) := by unfold finR; rw [if_pos h10]
  obtain ⟨R, hR⟩ : ∃ R, finR d sl b m wk line u = R := ⟨_, rfl⟩
  rw [hR] at hfin ⊢
  replace hfin := hide hfin
  obtain ⟨W, hW⟩ : ∃ W, w.alloc (.cells #[.int .i64 d, .int .i64 sl, .int .i64 b, .int .i64 m] 23) = W := ⟨_, rfl⟩
  have hb : Below w.heap.size w W := by rw [← hW]; exact (by repeat (first | exact Below.refl _ _ | refine ext_alloc ?_ _ | refine ext_drewN ?_ _ | refine ext_drew ?_ | refine ext_trans ?_ (by assumption)))
  have hSW := hStd.after hb
  have hrl := hrow.lt
  have h3W := h3.later hb
  obtain ⟨zs, hzs⟩ : ∃ zs, u.parts = zs := ⟨_, rfl⟩
  rw [hzs] at hz hl h3W hfin ⊢
  obtain ⟨len, hlen⟩ : ∃ len, zs.length = len := ⟨_, rfl⟩
  rw [hlen] at hl ⊢
  replace hlen := hide hlen
  replace hz := hide hz
  have hrowW := hrow.later hb
  obtain ⟨kd, hkd⟩ : ∃ kd : Int, (u.kind : Int) = kd := ⟨_, rfl⟩
  have hkd10 : kd = 10 := by omega
  rw [hkd] at hrowW
  subst hkd10
  have hb4 : Box4 W w.heap.size (.int .i64 d) (.int .i64 sl) (.int .i64 b) (.int .i64 m) := by rw [← hW]; exact Box4.new w 23 (.int .i64 d) (.int .i64 sl) (.int .i64 b) (.int .i64 m)
  have c2 := hrowW.get (j := 2) rfl
  have hrlW := hrowW.lt
  have hloop0 : TmLoop d sl b m wk zs rb u.name u.weight f0 f1 (.slice fA fl fc) s0 s1 (.slice sA sl' sc) u.n line w W (.int .i64 (0 : Nat)) W := ⟨0, Nat.zero_le _, rfl, rfl, Only.refl _ _, none, 0, 0, rfl, World.ownsRow_nil _ _ _ _, hrowW⟩
  obtain ⟨nm, hnm⟩ : ∃ nm, u.name = nm := ⟨_, rfl⟩
  obtain ⟨wt, hwt⟩ : ∃ wt, u.weight = wt := ⟨_, rfl⟩
  obtain ⟨nn, hnn⟩ : ∃ nn, u.n = nn := ⟨_, rfl⟩
  rw [hnm, hwt, hnn] at hloop0
  replace hkd := hide hkd
  clear h3 hrow hrowW h10 hR hzs
  replace hloop0 := hide hloop0
  go_enter Tryz.func54, Tryz.ntmps54
  go_wp2
  go_loopw [23] (fun i wr => TmLoop d sl b m wk zs rb nm wt f0 f1 (.slice fA fl fc) s0 s1 (.slice sA sl' sc) nn line w W i wr) (fun i _ => len - (intOf i).toNat)
  case atStart => exact hloop0.out
  case round =>
    obtain ⟨j, hj, rfl, he0, hor, A', n, c', rfl, hown, hrow⟩ := hrel
    rw [hlen.out] at hj
    by_cases hlt : j < len
    · obtain ⟨z, hzj⟩ : ∃ z, zs[j]? = some z := ⟨_, List.getElem?_eq_getElem (by rw [hlen.out]; exact hlt)⟩
      have hzz := hz.out z (List.mem_of_getElem? hzj)
      have h3r := h3W.kept (S' := S) (w' := wr) (fun b hb hlt => ⟨hb, Nat.lt_of_lt_of_le hlt hor.size, hor.block b hlt (by intro e; injection e with e; exact hS b hb e)⟩)
      obtain ⟨pb, po, rfl, -, hpl, hcl⟩ := h3r (by rw [hlen.out]; omega)
      obtain ⟨vs, hvs, hcz⟩ := hcl j z hzj
      obtain rfl := rep_str.1 hvs
      have hcz := hcz 0 _ rfl
      rw [show po + j * kStr.k + 0 = po + j from by simp [kStr]] at hcz
      clear hcl
      have bG := hb4.only hor (Nat.ne_of_gt hrl)
      obtain ⟨a0, a1, a2, a3⟩ := id bG
      have hSr := hor.std hSW hrb
      obtain ⟨x1, x2, x3, x4, er, hT⟩ : ∃ x1 x2 x3 x4 er, pieceT d sl b m wk z = (x1, x2, x3, x4, er) := ⟨_, _, _, _, _, rfl⟩
      have hpc := tgParse_at hT hzz wr hSr
      have hEr : pieceE d sl b m wk z = er := by unfold pieceE; rw [hT]
      have hts : Hid ((zs.take (j + 1)).map (pieceV d sl b m wk) = (zs.take j).map (pieceV d sl b m wk) ++ [(x1, x2, x3, x4)]) := by
        refine hide ((take_map _ zs j z hzj).trans ?_); unfold pieceV; rw [hT]
      have hes : Hid (firstE (pieceE d sl b m wk) (zs.take (j + 1)) = er) := by
        refine hide ((take_first _ zs j z hzj).trans ?_); rw [if_pos he0, hEr]
      have hst : Hid (er ≠ 0 → firstE (pieceE d sl b m wk) zs = er) := hide fun h => (firstE_stop _ zs j z he0 hzj (by rw [hEr]; exact h)).trans hEr
      obtain ⟨ts, hts0⟩ : ∃ ts, (zs.take j).map (pieceV d sl b m wk) = ts := ⟨_, rfl⟩
      have htl : ts.length = j := by rw [← hts0, List.length_map, List.length_take, hlen.out]; omega
      rw [hts0] at hown hts
      clear hts0 hT hEr he0 hzj h3r hvs
      go_wp2_with fail
      refine hpc.mono ?_
      rintro e w2 ⟨rfl, hb2⟩
      clear hpc
      by_cases her : er = 0
      · subst her
        obtain ⟨W3, hW3⟩ : ∃ W3, w2.alloc (.cells #[.int .i64 x1, .int .i64 x2, .int .i64 x3, .int .i64 x4] 67) = W3 := ⟨_, rfl⟩
        have hb3 : Below wr.heap.size wr W3 := by rw [← hW3]; exact ext_alloc hb2 _
        have bT : Box4 W3 w2.heap.size (.int .i64 x1) (.int .i64 x2) (.int .i64 x3) (.int .i64 x4) := by rw [← hW3]; exact Box4.new w2 67 (.int .i64 x1) (.int .i64 x2) (.int .i64 x3) (.int .i64 x4)
        obtain ⟨t0, t1, t2, t3⟩ := id bT
        have htl3 := bT.lt
        have hrow3 := hrow.later hb3
        have hown3 := owns_later hown hb3
        have ho3 := Only.later hor hb3
        have c10 := hrow3.get (j := 10) rfl
        have f10 := hrow3.free 10
        have hrl3 := hrow3.lt
        have hb4' : Below W3.heap.size W3 ((W3.alloc (.cells #[.int .i64 x1, .int .i64 x2, .int .i64 x3, .int .i64 x4] 67)).drew) := ext_drew (ext_alloc (Below.refl _ _) _)
        have hown4 := owns_later hown3 hb4'
        have hrow4 := hrow3.later hb4'
        have ho4 := Only.later ho3 hb4'
        have hnews := (new_four W3 x1 x2 x3 x4 67)
        have hnews4 : ∀ j u, (encT (x1, x2, x3, x4))[j]? = some u → ((W3.alloc (.cells #[.int .i64 x1, .int .i64 x2, .int .i64 x3, .int .i64 x4] 67)).drew).cell? ((⟨W3.heap.size, 0, none⟩ : Addr).add j) = some u := hnews
        have hWs : W.heap.size ≤ ((W3.alloc (.cells #[.int .i64 x1, .int .i64 x2, .int .i64 x3, .int .i64 x4] 67)).drew).heap.size := Nat.le_trans ho3.size hb4'.size
        have hfar : some rb ≠ (Value.slice A' j c').ownBlock := own_far hown3 hrlW
        have hhigh := own_high hown3 (Nat.le_refl _)
        have hl2 : ts.length ≤ 2000000000 := by omega
        clear hrow hown hb3 hb2 bT a0 a1 a2 a3 bG hcz hnews hrow3 ho3 hb4' hpl
        replace hrow4 := hide hrow4
        replace ho4 := hide ho4
        go_upto_region 9 with fail
        go_region_law (refine step_tm (B := W.heap.size) (H := ((W3.alloc (.cells #[.int .i64 x1, .int .i64 x2, .int .i64 x3, .int .i64 x4] 67)).drew).heap.size) (v := .slice A' j c') (ts := ts) rfl (.tmp 41) (.tmp 43) rfl (by simp [Act.eval]; done) hown4 hl2 ⟨W3.heap.size, 0, none⟩ 1 (by simp [Act.eval]; done) (x1, x2, x3, x4) hnews4 hWs rfl ?_; intro g5 c5 w5 hown5 hgr5 hwh5 hgl5; have hrow5 := hide (RowV.grown hrow4.out hgr5 hfar); have f5 := hrow5.out.free 10; have q5 := hrow5.out.get (j := 10) rfl; have hrl5 := hrow5.out.lt)
        all_goals
          clear hrow4 f5 q5
          have hr10 := hrow5.out.set 10 (.slice (some ⟨g5, 0, none⟩) (ts.length + 1) c5)
          have hown6 : TimesOwn W.heap.size (w5.setCell ⟨rb, 10, none⟩ (.slice (some ⟨g5, 0, none⟩) (ts.length + 1) c5)) (.slice (some ⟨g5, 0, none⟩) (ts.length + 1) c5) (ts ++ [(x1, x2, x3, x4)]) := owns_only hown5 (only_setCell (Only.refl rb _) (.inl rfl) _) hrlW
          have ho6 : Only rb W (w5.setCell ⟨rb, 10, none⟩ (.slice (some ⟨g5, 0, none⟩) (ts.length + 1) c5)) := only_setCell (ho4.out.trans_own hgr5 hhigh) (.inl rfl) _
          rw [htl] at hr10 hown6 ho6
          clear hown5 hgr5 hwh5 hfar hhigh hnews4 hown4 hown3 c10 f10 t0 t1 t2 t3
          go_wp2
          go_roundw
          case rel => exact ⟨j + 1, by rw [hlen.out]; omega, by go_num, hes.out, ho6, _, j + 1, _, rfl, by rw [hts.out]; exact hown6, hr10⟩
          case measure => simp [intOf]; omega
      · have hend : Hid (∀ w', w' = w2.alloc (.cells #[.int .i64 x1, .int .i64 x2, .int .i64 x3, .int .i64 x4] 67) → FinG rb S R w (.returned (.int .i64 er)) w') := hide fun w' e => by
          rw [e, hfin.out, if_neg (by rw [hst.out her]; exact her), hst.out her]
          exact fin_err ((only_of_below hb (some rb)).trans (Only.later hor (ext_alloc hb2 _))) her
        have her2 : (er != 0) = true := by rw [bne_iff_ne]; exact her
        replace her := hide her
        clear hown hrow hor hb2 hts hes hst c2 hcz a0 a1 a2 a3 bG
        go_wp2
        go_ret
        exact hend.out _ rfl
    · obtain rfl : j = len := by omega
      have hall : zs.take j = zs := by rw [← hlen.out]; exact List.take_length
      rw [hall] at he0 hown
      have hlm : (zs.map (pieceV d sl b m wk)).length = j := by rw [List.length_map]; exact hlen.out
      obtain ⟨ts, hts⟩ : ∃ ts, zs.map (pieceV d sl b m wk) = ts := ⟨_, rfl⟩
      have hRR : R = checkR d sl b m wk (ruleOf u line ts []) := by rw [hfin.out, if_pos he0, hts]
      rw [hts] at hown hlm
      obtain ⟨hat, hcc⟩ := times_at hown hlm
      have how : Only rb w wr := (only_of_below hb (some rb)).trans hor
      have hr1 := rep_apart h1 how hS
      have hr2 := rep_apart h2 how hS
      have hat3 : At kTime (fun x => (S x ∨ w.heap.size ≤ x) ∧ x ≠ rb) wr A' ts := hat.more fun x hx => ⟨.inr (Nat.le_trans hb.size hx), by omega⟩
      have hrep3 : kRule.rep (fun x => (S x ∨ w.heap.size ≤ x) ∧ x ≠ rb) wr (ruleOf u line ts []) [.string u.name, .int .i64 u.weight, .int .i64 10, .int .i64 f0, .string f1, .slice fA fl fc, .int .i64 s0, .string s1, .slice sA sl' sc, .int .i64 u.n, .slice A' j c', .slice none 0 0, .int .i64 line] := by
        rw [← hkd.out, ← hlm]
        exact ⟨f0, f1, fA, fl, fc, s0, s1, sA, sl', sc, A', c', none, 0, rfl, hr1, hr2, by rw [show (ruleOf u line ts []).times = ts from rfl, hlm]; exact hcc, hat3, Nat.le_refl _, fun h => absurd h (Nat.lt_irrefl 0)⟩
      have hV := rvalid_walk (ruleOf u line ts []) ⟨hok.1, hok.2, by rw [show (ruleOf u line ts []).times = ts from rfl, hlm]; omega, Nat.zero_le _⟩ d sl b m wk f1 s1 f0 s0 fA sA A' none fl fc sl' sc c' 0 wr.drew (Nat.le_refl _) (kSel.later (kSel.more hr1 fun _ _ => trivial) (ext_drew (Below.refl _ _))) (kSel.later (kSel.more hr2 fun _ _ => trivial) (ext_drew (Below.refl _ _))) ((hat3.more fun _ _ => trivial).later (ext_drew (Below.refl _ _))) (fun h => absurd h (Nat.lt_irrefl 0))
      have hend : Hid (∀ w', Below wr.drew.heap.size wr.drew w' → FinG rb S R w (.returned (.int .i64 (ruleE d sl b m wk (ruleOf u line ts [])))) w') := hide fun w' hb' => by
        rw [hRR]
        rw [← hnm, ← hwt, ← hnn] at hrow
        exact fin_check (Only.later how (ext_drew (Below.refl _ _))) (hrow.later (ext_drew (Below.refl _ _))) (kRule.later hrep3 (ext_drew (Below.refl _ _))) hb'
      obtain ⟨E, hE⟩ : ∃ E, ruleE d sl b m wk (ruleOf u line ts []) = E := ⟨_, rfl⟩
      have hV : Calls Tryz.prog 16 #[.agg #[.string u.name, .int .i64 u.weight, .int .i64 u.kind, .int .i64 f0, .string f1, .slice fA fl fc, .int .i64 s0, .string s1, .slice sA sl' sc, .int .i64 u.n, .slice A' ts.length c', .slice none 0 0, .int .i64 line], .agg #[.int .i64 d, .int .i64 sl, .int .i64 b, .int .i64 m], .int .i64 wk] wr.drew fun e w' => e = .returned (.int .i64 (ruleE d sl b m wk (ruleOf u line ts []))) ∧ Below wr.drew.heap.size wr.drew w' := hV
      rw [hkd.out, hE, hlm, hnm, hwt, hnn] at hV
      rw [hE] at hend
      have bG := hb4.only hor (Nat.ne_of_gt hrl)
      obtain ⟨g0, g1, g2, g3⟩ := bG
      have hVh := hide hV
      clear hV hrep3 hr1 hr2 hat3 hat h1 h2 hb4 hown hE how hor hall he0 hRR hlm hts c2
      have q0 := hrow.get (j := 0) rfl
      have q1 := hrow.get (j := 1) rfl
      have q2 := hrow.get (j := 2) rfl
      have q3 := hrow.get (j := 3) rfl
      have q4 := hrow.get (j := 4) rfl
      have q5 := hrow.get (j := 5) rfl
      have q6 := hrow.get (j := 6) rfl
      have q7 := hrow.get (j := 7) rfl
      have q8 := hrow.get (j := 8) rfl
      have q9 := hrow.get (j := 9) rfl
      have q10 := hrow.get (j := 10) rfl
      have q11 := hrow.get (j := 11) rfl
      have q12 := hrow.get (j := 12) rfl
      have hrl3 := hrow.lt
      clear hrow
      go_upto_region 16 with fail
      go_still_tail 5, (by kernel_rfl)
      change wpList _ _ _ _ _ wr.drew
      go_wp2_with fail
      refine hVh.out.mono ?_
      rintro e w4 ⟨rfl, hb4⟩
      have hfin2 := hend.out w4 hb4
      clear hVh hend
      go_wp2
      go_ret
      exact hfin2
/-- finish, whole. -/
theorem finish_walk (d sl b m wk line : Int) (u : RuleT) (hok : selSize u.first ≤ 9223372036854775807 ∧ selSize u.second ≤ 9223372036854775807) (hl : u.parts.length ≤ 1000000) (hz : ∀ z ∈ u.parts, z.size < 1073741824) (hj : (joinP u.parts).size < 1073741824) (rb : Nat) (S : Nat → Prop) (f0 s0 : Int) (f1 s1 : ByteArray) (fA sA A : Option Addr) (fl fc sl' sc c : Nat) (w : World) (hStd : Std w) (hrb : 12 ≤ rb)
    (hrow : RowV 43 w rb [.string u.name, .int .i64 u.weight, .int .i64 u.kind, .int .i64 f0, .string f1, .slice fA fl fc, .int .i64 s0, .string s1, .slice sA sl' sc, .int .i64 u.n, .slice none 0 0, .slice none 0 0, .int .i64 line]) (hS : ∀ x, S x → x ≠ rb)
    (h1 : kSel.rep S w u.first [.int .i64 f0, .string f1, .slice fA fl fc]) (h2 : kSel.rep S w u.second [.int .i64 s0, .string s1, .slice sA sl' sc]) (h3 : At kStr S w A u.parts) (h4 : u.parts.length ≤ c) :
    Calls Tryz.prog 54 #[.pointer (some ⟨rb, 0, none⟩), .slice A u.parts.length c, .agg #[.int .i64 d, .int .i64 sl, .int .i64 b, .int .i64 m], .int .i64 wk] w fun en w' => FinG rb S (finR d sl b m wk line u) w en w' := by
  by_cases h10 : u.kind = 10
  · exact finish_times d sl b m wk line u h10 hok hl hz rb S f0 s0 f1 s1 fA sA A fl fc sl' sc c w hStd hrb hrow hS h1 h2 h3
  · by_cases h11 : u.kind = 11
    · exact finish_rooms d sl b m wk line u h11 hok hj hl rb S f0 s0 f1 s1 fA sA A fl fc sl' sc c w hStd hrb hrow hS h1 h2 h3 h4
    · exact finish_none d sl b m wk line u h10 h11 hok rb S f0 s0 f1 s1 fA sA A fl fc sl' sc c w hrow hS h1 h2
end Go.Proofs.YtdnnahdafhddlaaGreatDoor

namespace Go.Proofs.YtdnnahdafhddlaaGreatDoor
open Go.RowKit
set_option maxRecDepth 100000

theorem nextP_gap {t : ByteArray} {e a b p : Nat} {x : ByteArray} (h : nextP t e a = .ok ((x, p), b)) : a + x.size ≤ b := by
  unfold nextP at h
  have hs : a ≤ startT t a := passT_ge _ _ _
  cases hl : lookT t e a with
  | bad c => rw [hl] at h; cases h
  | tok y q =>
    rw [hl] at h
    injection h with h
    injection h with h1 h2
    injection h1 with h1 _
    subst h1
    omega
theorem sumS_app {α : Type} (g : α → Nat) : ∀ (l r : List α), sumS g (l ++ r) = sumS g l + sumS g r
  | [], r => by simp [sumS]
  | x :: l, r => by rw [List.cons_append, sumS, sumS, sumS_app g l r]; omega
theorem oneOf_size {kind : Int} {l : List Sel} {a0 a : Nat} (h0 : l ≠ []) (h : a0 + sumS selSize l + (l.length - 1) ≤ a) : a0 + selSize (oneOf kind l) ≤ a := by
  match l, h0, h with
  | [s], _, h => simp [sumS] at h; exact h
  | s :: s2 :: r, _, h =>
    show a0 + selSize (.mk kind ⟨#[]⟩ (s :: s2 :: r)) ≤ a
    rw [selSize_mk]
    simp only [List.length_cons] at h
    omega
theorem moreP_size {t k : ByteArray} {e : Nat} {pp : Nat → Res Sel} {kind : Int} (hk : 1 ≤ k.size) (hm : ∀ b s c, pp b = .ok (s, c) → b + selSize s ≤ c) : ∀ (n : Nat) (l : List Sel) (a b : Nat) (s : Sel) (a0 : Nat), l ≠ [] → a0 + sumS selSize l + (l.length - 1) ≤ a → moreP t e pp k kind n l a = .ok (s, b) → a0 + selSize s ≤ b
  | 0, l, a, b, s, a0, _, _, h => by
    unfold moreP at h
    split at h <;> cases h
  | n + 1, l, a, b, s, a0, h0, h1, h => by
    have hs : a ≤ startT t a := passT_ge _ _ _
    cases hl : lookT t e a with
    | bad c => rw [moreP_bad hl] at h; cases h
    | tok x p =>
      by_cases hx : x = k
      · rw [hx] at hl
        rw [moreP_yes hl] at h
        cases hp : pp (startT t a + k.size) with
        | error y => rw [hp] at h; cases h
        | ok z =>
          obtain ⟨s1, c⟩ := z
          rw [hp] at h
          have h2 := hm _ _ _ hp
          refine moreP_size hk hm n _ _ _ _ a0 (by simp) ?_ h
          rw [sumS_app, List.length_append]
          have hp : 0 < l.length := List.length_pos_iff.2 h0
          simp only [sumS, List.length_singleton]
          omega
      · rw [moreP_no hl hx] at h
        injection h with h; injection h with e1 e2
        subst e1 e2
        exact Nat.le_trans (oneOf_size h0 h1) hs
theorem serP_size {t k : ByteArray} {e : Nat} {pp : Nat → Res Sel} {kind : Int} (hk : 1 ≤ k.size) (hm : ∀ b s c, pp b = .ok (s, c) → b + selSize s ≤ c) (a : Nat) (s : Sel) (b : Nat) (h : serP t e pp k kind a = .ok (s, b)) : a + selSize s ≤ b := by
  unfold serP at h
  cases hp : pp a with
  | error y => rw [hp] at h; cases h
  | ok z =>
    obtain ⟨s1, c⟩ := z
    rw [hp] at h
    have h1 := hm _ _ _ hp
    exact moreP_size hk hm _ _ _ _ _ a (by simp) (by simp only [sumS, List.length_singleton]; omega) h
theorem leafK_mem {ws : List ByteArray} {x : ByteArray} (h : leafK ws x < ws.length) : x ∈ ws := by
  unfold leafK at h
  have := List.findIdx_getElem (w := h)
  simp only [decide_eq_true_eq] at this
  exact this ▸ List.getElem_mem _
/-- A selection has no more parts than bytes were read. -/
theorem atomP_size {ok : ByteArray → Bool} {ws : List ByteArray} {t : ByteArray} {e : Nat} (hw : ∀ x ∈ ws, 1 ≤ x.size) : ∀ (f a : Nat) (s : Sel) (b : Nat), atomP ok ws t e f a = .ok (s, b) → a + selSize s ≤ b
  | 0, a, s, b, h => by
    unfold atomP at h
    split at h <;> cases h
  | f + 1, a, s, b, h => by
    unfold atomP at h
    cases hn : nextP t e a with
    | error y => rw [hn] at h; cases h
    | ok z =>
      obtain ⟨⟨x, p⟩, c⟩ := z
      rw [hn] at h
      have h0 := nextP_gap hn
      simp only at h
      split at h
      · rename_i hx
        cases hp : atomP ok ws t e f c with
        | error y => rw [hp] at h; cases h
        | ok z =>
          obtain ⟨s1, d⟩ := z
          rw [hp] at h
          have h1 := atomP_size hw f _ _ _ hp
          injection h with h; injection h with e1 e2
          subst e1 e2
          rw [selSize_mk]
          simp only [sumS]
          rw [hx, show xNot.size = 3 from rfl] at h0
          omega
      · split at h
        · cases hp : serP t e (serP t e (atomP ok ws t e f) xAnd 8) xOr 9 c with
          | error y => rw [hp] at h; cases h
          | ok z =>
            obtain ⟨s1, d⟩ := z
            rw [hp] at h
            have h1 := serP_size (by decide) (fun b s c h => serP_size (by decide) (fun b s c h => atomP_size hw f b s c h) b s c h) _ _ _ hp
            simp only at h
            cases hq : needP t e xShut d with
            | error y => rw [hq] at h; cases h
            | ok z =>
              obtain ⟨u, d2⟩ := z
              rw [hq] at h
              have h2 := needP_le hq
              injection h with h; injection h with e1 e2
              subst e1 e2
              omega
        · split at h
          · rename_i hx
            injection h with h; injection h with e1 e2
            subst e1 e2
            rw [selSize_mk]
            simp only [sumS]
            rw [hx, show xAll.size = 3 from rfl] at h0
            omega
          · split at h
            · rename_i hlf
              have hx := hw x (leafK_mem hlf)
              cases hq : identP ok t e c with
              | error y => rw [hq] at h; cases h
              | ok z =>
                obtain ⟨u, d2⟩ := z
                rw [hq] at h
                have h2 := identP_le hq
                injection h with h; injection h with e1 e2
                subst e1 e2
                rw [selSize_mk]
                simp only [sumS]
                omega
            · cases h
theorem selP_size {G : Gram} {t : ByteArray} {e : Nat} (hw : ∀ x ∈ G.ws, 1 ≤ x.size) (f a : Nat) (s : Sel) (b : Nat) (h : selP G t e f a = .ok (s, b)) : a + selSize s ≤ b :=
  serP_size (by decide) (fun b s c h => serP_size (by decide) (fun b s c h => atomP_size hw f b s c h) b s c h) _ _ _ h
end Go.Proofs.YtdnnahdafhddlaaGreatDoor

namespace Go.Proofs.YtdnnahdafhddlaaGreatDoor
set_option maxRecDepth 100000

theorem look_none {t : ByteArray} {e a : Nat} : lookT t e a = .tok xNone e ↔ ¬ startT t a < t.size := by
  unfold lookT
  by_cases h : startT t a < t.size
  · rw [dif_pos h]
    refine ⟨fun he => ?_, fun hn => absurd h hn⟩
    have hw := passT_in wordC t (Nat.le_of_lt h)
    split at he
    · rename_i h2
      injection he with he _
      have := congrArg ByteArray.size he
      rw [ByteArray.size_extract] at this
      have h0 : xNone.size = 0 := rfl
      omega
    · split at he
      · injection he with he _
        have := congrArg ByteArray.size he
        rw [ByteArray.size_extract] at this
        have h0 : xNone.size = 0 := rfl
        omega
      · cases he
  · rw [dif_neg h]
    exact ⟨fun _ => h, fun _ => rfl⟩
theorem look_word {t : ByteArray} {e a p : Nat} (h : lookT t e a = .tok xNone p) : ¬ startT t a < t.size := by
  unfold lookT at h
  by_cases hs : startT t a < t.size
  · rw [dif_pos hs] at h
    have hw := passT_in wordC t (Nat.le_of_lt hs)
    have h0 : xNone.size = 0 := rfl
    split at h
    · rename_i h2
      injection h with h _
      have := congrArg ByteArray.size h
      rw [ByteArray.size_extract] at this
      omega
    · split at h
      · injection h with h _
        have := congrArg ByteArray.size h
        rw [ByteArray.size_extract] at this
        omega
      · cases h
  · exact hs
/-- What stands on a line ahead of its remark. -/
def readT (s : ByteArray) : ByteArray := s.extract 0 (passT (fun c => c != 35) s 0)
def lineP (G : Gram) (s : ByteArray) : Option (Except (Nat × Int) RuleT) :=
  if startT (readT s) 0 < (readT s).size then
    some (match ruleP G (readT s) s.size ((readT s).size + 1) 0 with
      | .error y => .error y
      | .ok (u, _) => .ok u)
  else none
theorem then_ok {α β : Type} {p : Nat → Res α} {q : α → Nat → Res β} {a : Nat} {z : β × Nat} (h : thenP p q a = .ok z) : ∃ x b, p a = .ok (x, b) ∧ q x b = .ok z := by
  unfold thenP at h
  cases hp : p a with
  | error y => rw [hp] at h; cases h
  | ok w => obtain ⟨x, b⟩ := w; rw [hp] at h; exact ⟨x, b, rfl, h⟩
end Go.Proofs.YtdnnahdafhddlaaGreatDoor

namespace Go.Proofs.YtdnnahdafhddlaaGreatDoor
open Go.RowKit
set_option maxRecDepth 100000

theorem nextP_end {t : ByteArray} {e a b : Nat} {x : ByteArray × Nat} (ha : a ≤ t.size) (h : nextP t e a = .ok (x, b)) : b ≤ t.size := by
  unfold nextP at h
  cases hl : lookT t e a with
  | bad c => rw [hl] at h; cases h
  | tok y p =>
    have := look_in ha hl
    rw [hl] at h; injection h with h; injection h with _ h; omega
theorem needP_end {t k : ByteArray} {e a b : Nat} {u : Unit} (ha : a ≤ t.size) (h : needP t e k a = .ok (u, b)) : b ≤ t.size := by
  unfold needP at h
  cases hn : nextP t e a with
  | error y => rw [hn] at h; cases h
  | ok z =>
    obtain ⟨⟨x, p⟩, c⟩ := z
    rw [hn] at h
    have := nextP_end ha hn
    simp only at h
    (repeat' split at h) <;> first | (cases h; done) | (injection h with h; injection h with _ h; omega)
theorem identP_end {ok : ByteArray → Bool} {t : ByteArray} {e a b : Nat} {u : ByteArray} (ha : a ≤ t.size) (h : identP ok t e a = .ok (u, b)) : b ≤ t.size := by
  unfold identP at h
  cases hn : nextP t e a with
  | error y => rw [hn] at h; cases h
  | ok z =>
    obtain ⟨⟨x, p⟩, c⟩ := z
    rw [hn] at h
    have := nextP_end ha hn
    simp only at h
    (repeat' split at h) <;> first | (cases h; done) | (injection h with h; injection h with _ h; omega)
theorem weightP_end {G : Gram} {t : ByteArray} {e a b : Nat} {u : Nat} (ha : a ≤ t.size) (h : weightP G t e a = .ok (u, b)) : b ≤ t.size := by
  unfold weightP at h
  cases hn : nextP t e a with
  | error y => rw [hn] at h; cases h
  | ok z =>
    obtain ⟨⟨x, p⟩, c⟩ := z
    rw [hn] at h
    have := nextP_end ha hn
    simp only at h
    (repeat' split at h) <;> first | (cases h; done) | (injection h with h; injection h with _ h; omega)
theorem digP_end {G : Gram} {t : ByteArray} {e a b : Nat} {u : Nat} (ha : a ≤ t.size) (h : digP G t e a = .ok (u, b)) : b ≤ t.size := by
  unfold digP at h
  cases hn : nextP t e a with
  | error y => rw [hn] at h; cases h
  | ok z =>
    obtain ⟨⟨x, p⟩, c⟩ := z
    rw [hn] at h
    have := nextP_end ha hn
    simp only at h
    (repeat' split at h) <;> first | (cases h; done) | (injection h with h; injection h with _ h; omega)
theorem kindP_end {G : Gram} {t : ByteArray} {e a b : Nat} {u : Nat} (ha : a ≤ t.size) (h : kindP G t e a = .ok (u, b)) : b ≤ t.size := by
  unfold kindP at h
  cases hn : nextP t e a with
  | error y => rw [hn] at h; cases h
  | ok z =>
    obtain ⟨⟨x, p⟩, c⟩ := z
    rw [hn] at h
    have := nextP_end ha hn
    simp only at h
    (repeat' split at h) <;> first | (cases h; done) | (injection h with h; injection h with _ h; omega)
theorem numbP_end {G : Gram} {t : ByteArray} {e a b k : Nat} {u : Nat} (ha : a ≤ t.size) (h : numbP G t e k a = .ok (u, b)) : b ≤ t.size := by
  unfold numbP at h
  split at h
  · exact digP_end ha h
  · unfold pureP at h; injection h with h; injection h with _ h; omega
theorem moreP_end {t k : ByteArray} {e : Nat} {pp : Nat → Res Sel} {kind : Int} (hm : ∀ b s c, b ≤ t.size → pp b = .ok (s, c) → c ≤ t.size) : ∀ (n : Nat) (l : List Sel) (a b : Nat) (s : Sel), a ≤ t.size → moreP t e pp k kind n l a = .ok (s, b) → b ≤ t.size
  | 0, l, a, b, s, _, h => by
    unfold moreP at h
    split at h <;> cases h
  | n + 1, l, a, b, s, ha, h => by
    cases hl : lookT t e a with
    | bad c => rw [moreP_bad hl] at h; cases h
    | tok x p =>
      have h0 := look_in ha hl
      by_cases hx : x = k
      · rw [hx] at hl h0
        rw [moreP_yes hl] at h
        cases hp : pp (startT t a + k.size) with
        | error y => rw [hp] at h; cases h
        | ok z =>
          obtain ⟨s1, c⟩ := z
          rw [hp] at h
          exact moreP_end hm n _ _ _ _ (hm _ _ _ h0 hp) h
      · rw [moreP_no hl hx] at h
        injection h with h; injection h with _ h; omega
theorem serP_end {t k : ByteArray} {e : Nat} {pp : Nat → Res Sel} {kind : Int} (hm : ∀ b s c, b ≤ t.size → pp b = .ok (s, c) → c ≤ t.size) (a : Nat) (s : Sel) (b : Nat) (ha : a ≤ t.size) (h : serP t e pp k kind a = .ok (s, b)) : b ≤ t.size := by
  unfold serP at h
  cases hp : pp a with
  | error y => rw [hp] at h; cases h
  | ok z =>
    obtain ⟨s1, c⟩ := z
    rw [hp] at h
    exact moreP_end hm _ _ _ _ _ (hm _ _ _ ha hp) h
theorem atomP_end {ok : ByteArray → Bool} {ws : List ByteArray} {t : ByteArray} {e : Nat} : ∀ (f a : Nat) (s : Sel) (b : Nat), a ≤ t.size → atomP ok ws t e f a = .ok (s, b) → b ≤ t.size
  | 0, a, s, b, _, h => by
    unfold atomP at h
    split at h <;> cases h
  | f + 1, a, s, b, ha, h => by
    unfold atomP at h
    cases hn : nextP t e a with
    | error y => rw [hn] at h; cases h
    | ok z =>
      obtain ⟨⟨x, p⟩, c⟩ := z
      rw [hn] at h
      have h0 := nextP_end ha hn
      simp only at h
      split at h
      · cases hp : atomP ok ws t e f c with
        | error y => rw [hp] at h; cases h
        | ok z =>
          obtain ⟨s1, d⟩ := z
          rw [hp] at h
          have h1 := atomP_end f _ _ _ h0 hp
          injection h with h; injection h with _ h; omega
      · split at h
        · cases hp : serP t e (serP t e (atomP ok ws t e f) xAnd 8) xOr 9 c with
          | error y => rw [hp] at h; cases h
          | ok z =>
            obtain ⟨s1, d⟩ := z
            rw [hp] at h
            have h1 := serP_end (fun b s c hb h => serP_end (fun b s c hb h => atomP_end f b s c hb h) b s c hb h) _ _ _ h0 hp
            simp only at h
            cases hq : needP t e xShut d with
            | error y => rw [hq] at h; cases h
            | ok z =>
              obtain ⟨u, d2⟩ := z
              rw [hq] at h
              have h2 := needP_end h1 hq
              injection h with h; injection h with _ h; omega
        · split at h
          · injection h with h; injection h with _ h; omega
          · split at h
            · cases hq : identP ok t e c with
              | error y => rw [hq] at h; cases h
              | ok z =>
                obtain ⟨u, d2⟩ := z
                rw [hq] at h
                have h2 := identP_end h0 hq
                injection h with h; injection h with _ h; omega
            · cases h
theorem selP_end {G : Gram} {t : ByteArray} {e f a b : Nat} {s : Sel} (ha : a ≤ t.size) (h : selP G t e f a = .ok (s, b)) : b ≤ t.size :=
  serP_end (fun b s c hb h => serP_end (fun b s c hb h => atomP_end f b s c hb h) b s c hb h) _ _ _ ha h
/-- What a rule's parts hold. -/
theorem lastP_parts {G : Gram} {t : ByteArray} {e f k a b : Nat} {z : Sel × List ByteArray} (ha : a ≤ t.size) (hw : ∀ x ∈ G.ws, 1 ≤ x.size) (h : lastP G t e f k a = .ok (z, b)) : selSize z.1 ≤ t.size + 1 ∧ (z.2 = [] ∨ ∃ i j, z.2 = G.split (t.extract i j)) := by
  have hz : selSize zSel ≤ t.size + 1 := by unfold zSel; rw [selSize_mk]; simp [sumS]
  unfold lastP at h
  split at h
  · cases hn : needP t e xComma a with
    | error y => rw [hn] at h; cases h
    | ok w =>
      obtain ⟨u, b1⟩ := w
      rw [hn] at h
      simp only at h
      have h0 := needP_end ha hn
      cases hp : selP G t e f b1 with
      | error y => rw [hp] at h; cases h
      | ok w =>
        obtain ⟨s, c⟩ := w
        rw [hp] at h
        have h1 := selP_end h0 hp
        have h2 := selP_size hw _ _ _ _ hp
        injection h with h; injection h with h _; subst h
        exact ⟨by show selSize s ≤ _; omega, .inl rfl⟩
  · split at h
    · cases hn : needP t e xComma a with
      | error y => rw [hn] at h; cases h
      | ok w =>
        obtain ⟨u, b1⟩ := w
        rw [hn] at h
        simp only at h
        cases hp : brackP G t e b1 with
        | error y => rw [hp] at h; cases h
        | ok w =>
          obtain ⟨l, c⟩ := w
          rw [hp] at h
          injection h with h; injection h with h _; subst h
          refine ⟨hz, .inr ?_⟩
          unfold brackP at hp
          cases hq : nextP t e b1 with
          | error y => rw [hq] at hp; cases hp
          | ok w =>
            obtain ⟨⟨x, p⟩, d⟩ := w
            rw [hq] at hp
            simp only at hp
            (repeat' split at hp) <;> first | (cases hp; done) | (injection hp with hp; injection hp with hp _; exact ⟨_, _, hp.symm⟩)
    · injection h with h; injection h with h _; subst h
      exact ⟨hz, .inl rfl⟩
/-- What a rule that was read holds. -/
theorem ruleP_fits {G : Gram} {t : ByteArray} {e f a b : Nat} {u : RuleT} (ha : a ≤ t.size) (hw : ∀ x ∈ G.ws, 1 ≤ x.size) (h : ruleP G t e f a = .ok (u, b)) : selSize u.first ≤ t.size + 1 ∧ selSize u.second ≤ t.size + 1 ∧ (u.parts = [] ∨ ∃ i j, u.parts = G.split (t.extract i j)) := by
  unfold ruleP at h
  obtain ⟨nm, b1, h1, h⟩ := then_ok h
  obtain ⟨_, b2, h2, h⟩ := then_ok h
  obtain ⟨w, b3, h3, h⟩ := then_ok h
  obtain ⟨k, b4, h4, h⟩ := then_ok h
  obtain ⟨n, b5, h5, h⟩ := then_ok h
  obtain ⟨s, b6, h6, h⟩ := then_ok h
  unfold tailP at h
  obtain ⟨z, b7, h7, h⟩ := then_ok h
  obtain ⟨_, b8, h8, h⟩ := then_ok h
  have e5 := numbP_end (kindP_end (weightP_end (needP_end (identP_end ha h1) h2) h3) h4) h5
  have e6 := selP_end e5 h6
  have e7 := selP_size hw _ _ _ _ h6
  obtain ⟨l1, l2⟩ := lastP_parts e6 hw h7
  unfold pureP at h
  injection h with h
  injection h with h _
  subst h
  exact ⟨by show selSize s ≤ _; omega, l1, l2⟩
end Go.Proofs.YtdnnahdafhddlaaGreatDoor

namespace Go.Proofs.YtdnnahdafhddlaaGreatDoor
open Go.RowKit
set_option maxRecDepth 100000

theorem split_sum (c : UInt8) : ∀ l : List UInt8, Lib.lens (splitOn1 c l) + (splitOn1 c l).length = l.length + 1
  | [] => by simp [splitOn1, Lib.lens]
  | b :: r => by
    have ih := split_sum c r
    unfold splitOn1
    split
    · simp only [Lib.lens, List.map_cons, List.sum_cons, List.length_cons, List.length_nil] at ih ⊢
      omega
    · cases h : splitOn1 c r with
      | nil => exact absurd h (splitOn1_ne c r)
      | cons x t =>
        rw [h] at ih
        simp only [Lib.lens, List.map_cons, List.sum_cons, List.length_cons] at ih ⊢
        omega
theorem trim_len (l cut : List UInt8) : (Lib.trimS l cut).length ≤ l.length := by
  have hd : ∀ (p : UInt8 → Bool) (x : List UInt8), (x.dropWhile p).length ≤ x.length := fun p x => (List.dropWhile_sublist p).length_le
  unfold Lib.trimS Lib.trimLeftS Lib.trimRightS
  refine Nat.le_trans (hd _ _) ?_
  rw [List.length_reverse]
  refine Nat.le_trans (hd _ _) ?_
  rw [List.length_reverse]
  exact Nat.le_refl _
theorem lens_map {f : List UInt8 → List UInt8} (hf : ∀ x, (f x).length ≤ x.length) : ∀ l : List (List UInt8), Lib.lens (l.map f) ≤ Lib.lens l
  | [] => Nat.le_refl _
  | x :: r => by
    have := lens_map hf r
    have := hf x
    simp only [Lib.lens, List.map_cons, List.sum_cons] at *
    omega
theorem bracket_fits (s : ByteArray) : (∀ z ∈ bracketL s, z.size ≤ s.size) ∧ (bracketL s).length ≤ s.size + 1 ∧ (joinP (bracketL s)).size ≤ s.size + 1 := by
  have h1 := splitB_one 59 s
  obtain ⟨zs, hz⟩ : ∃ zs, Lib.splitB ⟨#[59]⟩ 0 (Lib.countB s ⟨#[59]⟩) s = zs := ⟨_, rfl⟩
  have hm : ∀ z ∈ zs, z.size ≤ s.size := fun z h => splitB_mem hz h
  have hb : bracketL s = zs.map trimB := by unfold bracketL; rw [hz]
  rw [hz] at h1
  have hsum := split_sum 59 s.data.toList
  rw [← h1, List.length_map, ba_len] at hsum
  have ht : ∀ z : ByteArray, (trimB z).data.toList = Lib.trimS z.data.toList [32] := fun z => rfl
  rw [hb]
  refine ⟨fun z h => ?_, by rw [List.length_map]; omega, ?_⟩
  · obtain ⟨y, hy, rfl⟩ := List.mem_map.1 h
    have := trim_len y.data.toList [32]
    rw [← ht, ba_len, ba_len] at this
    exact Nat.le_trans this (hm y hy)
  · have e : (zs.map trimB).map (·.data.toList) = (zs.map (·.data.toList)).map (fun x => Lib.trimS x [32]) := by simp [List.map_map, Function.comp_def, ht]
    have hl := lens_map (fun x => trim_len x [32]) (zs.map (·.data.toList))
    have : (joinP (zs.map trimB)).size = (Lib.join ((zs.map trimB).map (·.data.toList)) [59]).length := by simp [joinP, ByteArray.size]
    rw [this, e]
    cases hq : (zs.map (·.data.toList)).map (fun x => Lib.trimS x [32]) with
    | nil => simp [Lib.join_nil]
    | cons x r =>
      have hlen : r.length + 1 = zs.length := by
        have := congrArg List.length hq
        simpa using this.symm
      rw [Lib.join_length]
      rw [hq] at hl
      simp only [List.length_singleton, Nat.one_mul]
      omega
end Go.Proofs.YtdnnahdafhddlaaGreatDoor

namespace Go.Proofs.YtdnnahdafhddlaaGreatDoor
set_option maxRecDepth 100000

/-- A problem: its line, its column (0: none), its error. -/
abbrev PrbT := Nat × Nat × Int
/-- What one more line adds: `fin` gives a rule's first error, or the rule as it is kept; rules are told apart by their names; no more than `most`. -/
def lineStep {ρ : Type} (G : Gram) (fin : RuleT → Except Int ρ) (name : ρ → ByteArray) (put : ρ → Nat → ρ) (most : Nat) (st : List ρ × List PrbT × Nat) (s : ByteArray) : List ρ × List PrbT × Nat :=
  match lineP G s with
  | none => (st.1, st.2.1, st.2.2 + 1)
  | some (.error y) => (st.1, st.2.1 ++ [(st.2.2 + 1, y.1 + 1, y.2)], st.2.2 + 1)
  | some (.ok u) =>
    match fin u with
    | .error c => (st.1, st.2.1 ++ [(st.2.2 + 1, 0, c)], st.2.2 + 1)
    | .ok r =>
      if st.1.any (fun x => decide (name x = name r)) then (st.1, st.2.1 ++ [(st.2.2 + 1, 0, 11)], st.2.2 + 1)
      else if most ≤ st.1.length then (st.1, st.2.1 ++ [(st.2.2 + 1, 0, 2)], st.2.2 + 1)
      else (st.1 ++ [put r (st.2.2 + 1)], st.2.1, st.2.2 + 1)
def rulesOf {ρ : Type} (G : Gram) (fin : RuleT → Except Int ρ) (name : ρ → ByteArray) (put : ρ → Nat → ρ) (most : Nat) (lines : List ByteArray) : List ρ × List PrbT × Nat :=
  lines.foldl (lineStep G fin name put most) ([], [], 0)
/-- An empty line adds nothing. -/
theorem line_empty (G : Gram) : lineP G ⟨#[]⟩ = none := by
  unfold lineP
  have h : (readT (⟨#[]⟩ : ByteArray)).size = 0 := by
    unfold readT
    rw [ByteArray.size_extract]
    have : (⟨#[]⟩ : ByteArray).size = 0 := rfl
    omega
  rw [if_neg (by omega)]
theorem parse_last {ρ : Type} (G : Gram) (fin : RuleT → Except Int ρ) (name : ρ → ByteArray) (put : ρ → Nat → ρ) (most : Nat) (lines : List ByteArray) :
    (rulesOf G fin name put most (lines ++ [⟨#[]⟩])).1 = (rulesOf G fin name put most lines).1 ∧ (rulesOf G fin name put most (lines ++ [⟨#[]⟩])).2.1 = (rulesOf G fin name put most lines).2.1 := by
  unfold rulesOf
  rw [List.foldl_append]
  simp [lineStep, line_empty]
end Go.Proofs.YtdnnahdafhddlaaGreatDoor

namespace Go.Proofs.YtdnnahdafhddlaaGreatDoor
open Go.RowKit
set_option maxRecDepth 100000

section
variable {ρ : Type} (G : Gram) (fin : RuleT → Except Int ρ) (name : ρ → ByteArray) (put : ρ → Nat → ρ) (most : Nat)
theorem rules_step {lines : List ByteArray} {j : Nat} {s : ByteArray} (h : lines[j]? = some s) : rulesOf G fin name put most (lines.take (j + 1)) = lineStep G fin name put most (rulesOf G fin name put most (lines.take j)) s := by
  unfold rulesOf
  rw [List.take_add_one, h, List.foldl_append]
  rfl
theorem step_count (st : List ρ × List PrbT × Nat) (s : ByteArray) : (lineStep G fin name put most st s).2.2 = st.2.2 + 1 := by
  unfold lineStep
  repeat' split
  all_goals rfl
theorem step_len (st : List ρ × List PrbT × Nat) (s : ByteArray) : st.1.length ≤ most → (lineStep G fin name put most st s).1.length ≤ most := by
  intro h
  unfold lineStep
  repeat' split
  all_goals first | exact h | (simp only [List.length_append, List.length_singleton]; omega)
theorem step_probs (st : List ρ × List PrbT × Nat) (s : ByteArray) : (lineStep G fin name put most st s).2.1.length ≤ st.2.1.length + 1 := by
  unfold lineStep
  repeat' split
  all_goals first | (show st.2.1.length ≤ _; omega) | (simp only [List.length_append, List.length_singleton]; omega)
theorem rules_told : ∀ (lines : List ByteArray) (st : List ρ × List PrbT × Nat), st.1.length ≤ most →
    (lines.foldl (lineStep G fin name put most) st).2.2 = st.2.2 + lines.length ∧ (lines.foldl (lineStep G fin name put most) st).1.length ≤ most ∧ (lines.foldl (lineStep G fin name put most) st).2.1.length ≤ st.2.1.length + lines.length
  | [], st, h => ⟨rfl, h, Nat.le_refl _⟩
  | s :: r, st, h => by
    obtain ⟨h1, h2, h3⟩ := rules_told r (lineStep G fin name put most st s) (step_len G fin name put most st s h)
    have h4 := step_count G fin name put most st s
    have h5 := step_probs G fin name put most st s
    rw [List.foldl_cons, List.length_cons]
    exact ⟨by omega, h2, by omega⟩
theorem rules_count (lines : List ByteArray) (j : Nat) (hj : j ≤ lines.length) : (rulesOf G fin name put most (lines.take j)).2.2 = j ∧ (rulesOf G fin name put most (lines.take j)).1.length ≤ most ∧ (rulesOf G fin name put most (lines.take j)).2.1.length ≤ j := by
  obtain ⟨h1, h2, h3⟩ := rules_told G fin name put most (lines.take j) ([], [], 0) (Nat.zero_le _)
  have hl : (lines.take j).length = j := by rw [List.length_take]; omega
  rw [hl] at h1 h3
  exact ⟨h1.trans (Nat.zero_add _), h2, Nat.le_trans h3 (Nat.le_of_eq (Nat.zero_add _))⟩
end
/-- What a line gives that was read by the program. -/
theorem line_none {G : Gram} {s : ByteArray} (h : ¬ startT (readT s) 0 < (readT s).size) : lineP G s = none := by unfold lineP; rw [if_neg h]
theorem line_some {G : Gram} {s : ByteArray} (h : startT (readT s) 0 < (readT s).size) : lineP G s = some (match ruleP G (readT s) s.size ((readT s).size + 1) 0 with | .error y => .error y | .ok (u, _) => .ok u) := if_pos h
theorem sel_words : ∀ x ∈ gramT.ws, 1 ≤ x.size := by decide
/-- What a rule that was read holds fits. -/
theorem rule_fits {t : ByteArray} {e f b : Nat} {u : RuleT} (ht : t.size ≤ 65536) (h : ruleP gramT t e f 0 = .ok (u, b)) :
    (selSize u.first ≤ 9223372036854775807 ∧ selSize u.second ≤ 9223372036854775807) ∧ u.parts.length ≤ 1000000 ∧ (∀ z ∈ u.parts, z.size < 1073741824) ∧ (joinP u.parts).size < 1073741824 := by
  obtain ⟨h1, h2, h3⟩ := ruleP_fits (Nat.zero_le _) sel_words h
  refine ⟨⟨by omega, by omega⟩, ?_⟩
  rcases h3 with h3 | ⟨i, j, h3⟩
  · rw [h3]; exact ⟨Nat.zero_le _, fun z h => (by cases h), by decide⟩
  · have hx : (t.extract i j).size ≤ t.size := by rw [ByteArray.size_extract]; omega
    obtain ⟨q1, q2, q3⟩ := bracket_fits (t.extract i j)
    have h3 : u.parts = bracketL (t.extract i j) := h3
    rw [h3]
    exact ⟨by omega, fun z hz => by have := q1 z hz; omega, by omega⟩
end Go.Proofs.YtdnnahdafhddlaaGreatDoor

namespace Go.Proofs.YtdnnahdafhddlaaGreatDoor
open Go.RowKit
set_option maxRecDepth 100000

/-- A line up to its remark. -/
theorem cut_read (s : ByteArray) : (Lib.cut s.data.toList [35]).1.toArray = (readT s).data := by
  have h := pass_cut 35 s _ 0 rfl (Nat.zero_le _)
  rw [List.drop_zero] at h
  rw [cut_eq, h]
  show ((s.extract 0 (passT (fun x => x != 35) s 0)).data.toList).toArray = _
  rw [Array.toArray_toList]
  rfl
theorem drop_nil {α : Type} (p : α → Bool) : ∀ l : List α, l.dropWhile p = [] ↔ ∀ x ∈ l, p x = true
  | [] => by simp
  | x :: r => by
    rw [List.dropWhile_cons]
    by_cases h : p x = true
    · rw [if_pos h, drop_nil p r]
      simp [h]
    · rw [if_neg h]
      simp [h]
theorem pass_all (p : UInt8 → Bool) (t : ByteArray) : ∀ (k a : Nat), t.size - a = k → a ≤ t.size → decide (passT p t a < t.size) = !((t.data.toList.drop a).all p)
  | 0, a, hk, ha => by
    have hl : t.data.toList.length = t.size := ba_len t
    rw [passT_end (by omega), List.drop_eq_nil_of_le (by omega)]
    simp
    omega
  | k + 1, a, hk, ha => by
    have hl : t.data.toList.length = t.size := ba_len t
    have hlt : a < t.size := by omega
    have hd : t.data.toList.drop a = t[a] :: t.data.toList.drop (a + 1) := by
      rw [List.drop_eq_getElem_cons (by omega)]
      congr 1
    rw [hd, List.all_cons]
    cases hc : p t[a] with
    | false =>
      rw [passT_stop hlt hc]
      simp [hlt]
    | true =>
      rw [passT_go hlt hc, pass_all p t k (a + 1) (by omega) (by omega)]
      simp
theorem trim_nil (l cs : List UInt8) : (Lib.trimS l cs).isEmpty = l.all (cs.contains ·) := by
  unfold Lib.trimS Lib.trimLeftS Lib.trimRightS
  rw [Bool.eq_iff_iff, List.isEmpty_iff, drop_nil]
  constructor
  · intro h
    have h0 : l.reverse.dropWhile (cs.contains ·) = [] := by
      cases hq : l.reverse.dropWhile (cs.contains ·) with
      | nil => rfl
      | cons x r =>
        have h1 := List.head_dropWhile_not (fun x => cs.contains x) (l := l.reverse) (by rw [hq]; simp)
        simp only [hq, List.head_cons] at h1
        have h2 := h x (by rw [hq]; simp)
        rw [h2] at h1
        cases h1
    rw [drop_nil] at h0
    rw [List.all_eq_true]
    exact fun x hx => h0 x (List.mem_reverse.2 hx)
  · intro h x hx
    rw [List.all_eq_true] at h
    have := (List.dropWhile_sublist _).subset (List.mem_reverse.1 hx)
    exact h x (List.mem_reverse.1 this)
/-- Something stands on a line. -/
theorem trim_start (t : ByteArray) : (Lib.trimS t.data.toList [32, 9]).isEmpty = !decide (startT t 0 < t.size) := by
  have h := pass_all blankC t _ 0 rfl (Nat.zero_le _)
  rw [List.drop_zero] at h
  unfold startT
  rw [h, trim_nil, Bool.not_not]
  congr 1
  funext x
  show (x == 32 || (x == 9 || false)) = (x == 32 || x == 9)
  rw [Bool.or_false]
def putL (r : RuleD) (n : Nat) : RuleD := { r with line := n }
theorem rule_line {d sl b m wk : Int} {u : RuleT} {ts : List T4} {rs : List ByteArray} {n : Nat} : ruleE d sl b m wk (ruleOf u n ts rs) = ruleE d sl b m wk (ruleOf u 0 ts rs) := by
  have h1 : selectedB (ruleOf u n ts rs) = selectedB (ruleOf u 0 ts rs) := rfl
  have h2 : listedE d sl b m wk (ruleOf u n ts rs) = listedE d sl b m wk (ruleOf u 0 ts rs) := rfl
  unfold ruleE
  rw [h1, h2]
  have h3 : ¬ (ruleOf u n ts rs).line < 0 := by show ¬ ((n : Int) < 0); omega
  have h4 : ¬ (ruleOf u 0 ts rs).line < 0 := by show ¬ ((0 : Int) < 0); omega
  rw [if_neg h3, if_neg h4]
  rfl
/-- finish with the line is finish without it, and the line put. -/
theorem fin_line (d sl b m wk : Int) (u : RuleT) (n : Nat) : finR d sl b m wk n u = (match finR d sl b m wk 0 u with | .error c => .error c | .ok r => .ok (putL r n)) := by
  have hc : ∀ ts rs, checkR d sl b m wk (ruleOf u n ts rs) = (match checkR d sl b m wk (ruleOf u 0 ts rs) with | .error c => .error c | .ok r => .ok (putL r n)) := by
    intro ts rs
    unfold checkR
    rw [rule_line]
    split <;> rfl
  unfold finR
  by_cases h10 : u.kind = 10
  · rw [if_pos h10, if_pos h10]
    by_cases h : firstE (pieceE d sl b m wk) u.parts = 0
    · rw [if_pos h, if_pos h]; exact hc _ _
    · rw [if_neg h, if_neg h]
  · rw [if_neg h10, if_neg h10]
    by_cases h11 : u.kind = 11
    · rw [if_pos h11, if_pos h11]
      by_cases h : (listV (joinP u.parts)).1 = 0
      · rw [if_pos h, if_pos h]; exact hc _ _
      · rw [if_neg h, if_neg h]
    · rw [if_neg h11, if_neg h11]; exact hc _ _
end Go.Proofs.YtdnnahdafhddlaaGreatDoor
