/- Walk of rulesyntax.Parse: the ways that read no line. Conditions: what the program's variables hold. The two rows that a reader of rules gathers, its rules and its problems: what keeps them, what is appended. No condition. Where an error is found: within the line (plain). No walk. Walk of rulesyntax.Parse: line by line. Conditions: what the program's variables hold. The reference's reading of a line: its ends (plain and stores). No condition. -/
import Derived.Test.YtdnnahdafhddlaaGreatDoorYOwnX
import Derived.Test.YtdnnahdafhddlaaGreatDoorYSynI
namespace Go.Proofs.YtdnnahdafhddlaaGreatDoor
open Go.RowKit
set_option maxRecDepth 100000

def probT (p : PrbT) : Prob := ((p.1 : Int), (p.2.1 : Int), p.2.2)
/-- A text of rules as data: its rules, its problems. -/
def rulesT (d sl b m wk : Int) (s : ByteArray) : List RuleD × List Prob :=
  if weekB d sl b m wk = false then ([], [(0, 0, 1)]) else if 65536 < s.size then ([], [(0, 0, 2)])
  else ((rulesOf gramT (finR d sl b m wk 0) RuleD.name putL 48 (Lib.splitB ⟨#[10]⟩ 0 (Lib.countB s ⟨#[10]⟩) s)).1, (rulesOf gramT (finR d sl b m wk 0) RuleD.name putL 48 (Lib.splitB ⟨#[10]⟩ 0 (Lib.countB s ⟨#[10]⟩) s)).2.1.map probT)
def ParsG (r : List RuleD × List Prob) (w : World) (en : Ending) (w' : World) : Prop :=
  ∃ v8 v9, en = .returned (.tuple #[v8, v9]) ∧ OwnX kRule 43 (fun x => v9.ownBlock = some x) w.heap.size w' v8 r.1 ∧ ProbsOwn w.heap.size w' v9 r.2 ∧ Below w.heap.size w w'
theorem probs_laid {B : Nat} {w : World} (p : Prob) (hB : B ≤ w.heap.size) : ProbsOwn B (w.alloc (.cells #[.int .i64 0, .int .i64 p.1, .int .i64 p.2.1, .int .i64 p.2.2] 55)) (.slice (some ⟨w.heap.size, 0, none⟩) 1 1) [p] :=
  ⟨rfl, .inr ⟨w.heap.size, 1, _, rfl, hB, heap_alloc_new w _, Nat.le_refl _, by unfold maxLen; omega, rfl, rfl⟩⟩
set_option maxHeartbeats 2000000 in
theorem parse_noweek14 (d sl b m wk : Int) (s : ByteArray) (h : weekB d sl b m wk = false) (w : World) :
    Calls Tryz.prog 20 #[.string s, .agg #[.int .i64 d, .int .i64 sl, .int .i64 b, .int .i64 m], .int .i64 wk] w fun en w' => ParsG (rulesT d sl b m wk s) w en w' := by
  have hr : rulesT d sl b m wk s = ([], [(0, 0, 1)]) := by unfold rulesT; rw [if_pos h]
  rw [hr]
  have hwk := tgWeek_walk d sl b m wk (w.alloc (.cells #[.int .i64 d, .int .i64 sl, .int .i64 b, .int .i64 m] 23))
  rw [h] at hwk
  have hb0 : Below w.heap.size w (w.alloc (.cells #[.int .i64 d, .int .i64 sl, .int .i64 b, .int .i64 m] 23)) := (by repeat (first | exact Below.refl _ _ | refine ext_alloc ?_ _ | refine ext_drewN ?_ _ | refine ext_drew ?_ | refine ext_trans ?_ (by assumption)))
  go_enter Tryz.func20, Tryz.ntmps20
  go_wp2_with fail
  refine hwk.mono ?_
  rintro e w1 ⟨rfl, hb1⟩
  have hb := ext_trans hb0 hb1
  clear hwk hb0 hb1
  go_wp2
  go_ret2
  exact ⟨_, _, rfl, OwnX.nil, probs_laid (0, 0, 1) hb.size, ext_alloc hb _⟩
set_option maxHeartbeats 2000000 in
theorem parse_long14 (d sl b m wk : Int) (s : ByteArray) (h : weekB d sl b m wk = true) (hs : 65536 < s.size) (hs2 : s.size ≤ 9223372036854775807) (w : World) :
    Calls Tryz.prog 20 #[.string s, .agg #[.int .i64 d, .int .i64 sl, .int .i64 b, .int .i64 m], .int .i64 wk] w fun en w' => ParsG (rulesT d sl b m wk s) w en w' := by
  have hr : rulesT d sl b m wk s = ([], [(0, 0, 2)]) := by unfold rulesT; rw [if_neg (by rw [h]; decide), if_pos hs]
  rw [hr]
  have hwk := tgWeek_walk d sl b m wk (w.alloc (.cells #[.int .i64 d, .int .i64 sl, .int .i64 b, .int .i64 m] 23))
  rw [h] at hwk
  have hb0 : Below w.heap.size w (w.alloc (.cells #[.int .i64 d, .int .i64 sl, .int .i64 b, .int .i64 m] 23)) := (by repeat (first | exact Below.refl _ _ | refine ext_alloc ?_ _ | refine ext_drewN ?_ _ | refine ext_drew ?_ | refine ext_trans ?_ (by assumption)))
  have hsi : (65536 : Int) < (s.size : Int) := by omega
  go_enter Tryz.func20, Tryz.ntmps20
  go_wp2_with fail
  refine hwk.mono ?_
  rintro e w1 ⟨rfl, hb1⟩
  have hb := ext_trans hb0 hb1
  clear hwk hb0 hb1
  go_wp2
  go_ret2
  exact ⟨_, _, rfl, OwnX.nil, probs_laid (0, 0, 2) hb.size, ext_alloc hb _⟩
end Go.Proofs.YtdnnahdafhddlaaGreatDoor

namespace Go.Proofs.YtdnnahdafhddlaaGreatDoor
open Go.RowKit
set_option maxRecDepth 100000

abbrev rulesS (d sl b m wk : Int) (lines : List ByteArray) : List RuleD × List PrbT × Nat := rulesOf gramT (finR d sl b m wk 0) RuleD.name putL 48 lines
abbrev stepS (d sl b m wk : Int) (st : List RuleD × List PrbT × Nat) (s : ByteArray) : List RuleD × List PrbT × Nat := lineStep gramT (finR d sl b m wk 0) RuleD.name putL 48 st s
theorem OwnX.lower {α : Type} {K : Kind α} {t : TypeId} {X : Nat → Prop} {B C : Nat} {w : World} {v : Value} {l : List α} (h : OwnX K t X B w v l) (hC : C ≤ B) : OwnX K t X C w v l := by
  obtain ⟨vss, e1, e2, e3⟩ := h
  exact ⟨vss, e1, owns_lower e2 hC, fun j x vs hj hv => K.more (e3 j x vs hj hv) fun b hb => ⟨Nat.le_trans hC hb.1, hb.2⟩⟩
/-- What was gathered. -/
structure GathR (B : Nat) (w : World) (v8 v9 : Value) (rs : List RuleD) (ps : List Prob) : Prop where
  rs : OwnX kRule 43 (fun x => v9.ownBlock = some x) B w v8 rs
  ps : ProbsOwn B w v9 ps
section
variable {B : Nat} {w w' : World} {v8 v9 : Value} {rs : List RuleD} {ps : List Prob}
theorem GathR.ne (h : GathR B w v8 v9 rs ps) : v8.ownBlock = none ∨ v8.ownBlock ≠ v9.ownBlock := by obtain ⟨vss, -, h2, -⟩ := h.rs; exact own_ne h2 h.ps (by decide)
theorem GathR.ne' (h : GathR B w v8 v9 rs ps) : v9.ownBlock = none ∨ v9.ownBlock ≠ v8.ownBlock := by obtain ⟨vss, -, h2, -⟩ := h.rs; exact own_ne h.ps h2 (by decide)
theorem GathR.later (h : GathR B w v8 v9 rs ps) (hb : Below w.heap.size w w') : GathR B w' v8 v9 rs ps := ⟨h.rs.later hb, owns_later h.ps hb⟩
theorem GathR.prob {v : Value} {qs : List Prob} (h : GathR B w v8 v9 rs ps) (hg : w.grownBy w' v9.ownBlock) (ho : ProbsOwn B w' v qs) (hv : ∃ g cap n, v = .slice (some ⟨g, 0, none⟩) n cap ∧ (v9.ownBlock = some g ∨ g = w.heap.size)) : GathR B w' v8 v rs qs := by
  obtain ⟨g, cap, n, rfl, hw⟩ := hv
  refine ⟨h.rs.kept hg (fun b e => .inr e.symm) h.ne fun b hb hn e => ?_, ho⟩
  have e : g = b := by simpa [Value.ownBlock] using e
  subst e
  rcases hw with h1 | h1
  · exact hn h1
  · omega
theorem GathR.rule {v : Value} {qs : List RuleD} (h : GathR B w v8 v9 rs ps) (hg : w.grownBy w' v8.ownBlock) (ho : OwnX kRule 43 (fun x => v9.ownBlock = some x) B w' v qs) : GathR B w' v v9 qs ps :=
  ⟨ho, World.ownsRow.kept h.ps hg h.ne'⟩
theorem GathR.low8 (h : GathR B w v8 v9 rs ps) : ∀ x, v8.ownBlock = some x → B ≤ x ∧ x < w.heap.size := h.rs.lt
theorem GathR.low9 (h : GathR B w v8 v9 rs ps) : ∀ x, v9.ownBlock = some x → B ≤ x ∧ x < w.heap.size := fun x e => World.ownsRow.lt h.ps x e
theorem GathR.nil : GathR B w (.slice none 0 0) (.slice none 0 0) [] [] := ⟨OwnX.nil, World.ownsRow_nil _ _ _ _⟩
end
theorem GathR.prob1 {B g n cap : Nat} {w w' : World} {v8 v9 : Value} {rs : List RuleD} {ps qs : List Prob} {o : Obj} (h : GathR B w v8 v9 rs ps) (ho : ProbsOwn B w' (.slice (some ⟨g, 0, none⟩) n cap) qs) (hg : (w.alloc o).grownBy w' v9.ownBlock) (hw : v9.ownBlock = some g ∨ g = w.heap.size + 1) : GathR B w' v8 (.slice (some ⟨g, 0, none⟩) n cap) rs qs :=
  (h.later (ext_alloc (Below.refl _ _) o)).prob hg ho ⟨g, cap, n, rfl, by rw [World.size_alloc]; exact hw⟩
theorem prob1_below {w0 w w' : World} {v8 v9 : Value} {rs : List RuleD} {ps : List Prob} {o : Obj} (hb : Below w0.heap.size w0 w) (h : GathR w0.heap.size w v8 v9 rs ps) (hg : (w.alloc o).grownBy w' v9.ownBlock) : Below w0.heap.size w0 w' :=
  Below.grown (ext_alloc hb o) hg (by rw [World.size_alloc]; exact Nat.le_succ_of_le hb.size) (fun y hy => (h.low9 y hy).1)
theorem rule1_below {w0 w w' : World} {v8 v9 : Value} {rs : List RuleD} {ps : List Prob} {o : Obj} (hb : Below w0.heap.size w0 w) (h : GathR w0.heap.size w v8 v9 rs ps) (hg : (w.alloc o).grownBy w' v8.ownBlock) : Below w0.heap.size w0 w' :=
  Below.grown (ext_alloc hb o) hg (by rw [World.size_alloc]; exact Nat.le_succ_of_le hb.size) (fun y hy => (h.low8 y hy).1)
theorem GathR.rule1 {B : Nat} {w w' : World} {v8 v9 v : Value} {rs qs : List RuleD} {ps : List Prob} {o : Obj} (h : GathR B w v8 v9 rs ps) (ho : OwnX kRule 43 (fun x => v9.ownBlock = some x) B w' v qs) (hg : (w.alloc o).grownBy w' v8.ownBlock) : GathR B w' v v9 qs ps :=
  (h.later (ext_alloc (Below.refl _ _) o)).rule hg ho
/-- A rule's cells with its line put. -/
theorem rep_put {S S' : Nat → Prop} {w w' : World} {r : RuleD} {n : Nat} {x0 x1 x2 x3 x4 x5 x6 x7 x8 x9 x10 x11 x12 : Value} (h : kRule.rep S w r [x0, x1, x2, x3, x4, x5, x6, x7, x8, x9, x10, x11, x12]) (hk : ∀ b, S b → b < w.heap.size → S' b ∧ b < w'.heap.size ∧ w'.heap[b]? = w.heap[b]?) : kRule.rep S' w' (putL r n) [x0, x1, x2, x3, x4, x5, x6, x7, x8, x9, x10, x11, .int .i64 n] := by
  obtain ⟨f0, f1, fA, fl, fc, s0, s1, sA, sl, sc, tA, tc, rA, rc, e, h1, h2, h3, h4, h5, h6⟩ := kRule.kept h hk
  simp only [List.cons.injEq, and_true] at e
  obtain ⟨rfl, rfl, rfl, rfl, rfl, rfl, rfl, rfl, rfl, rfl, rfl, rfl, rfl⟩ := e
  exact ⟨f0, f1, fA, fl, fc, s0, s1, sA, sl, sc, tA, tc, rA, rc, rfl, h1, h2, h3, h4, h5, h6⟩
/-- A problem is appended. -/
theorem wpList_prob {ops : Array Oper} {rest : List Oper} {o : Oper} {a : Act} {Q : Exit → Act → World → Prop} {B : Nat} {w : World} {v : Value} {ps : List Prob} (hgd : o.guard = none) (s x : Operand)
    (ho : o.op = .call { callee := .builtin .append, args := #[s, x], argTypes := #[50, 50] }) (hs : a.eval s = v) (h : ProbsOwn B w v ps) (hl : ps.length ≤ 2000000000) (ad : Addr) (c : Nat) (hx : a.eval x = .slice (some ad) 1 c) (p : Prob)
    (hnews : ∀ j u, (encP p)[j]? = some u → w.cell? (ad.add j) = some u) (hB : B ≤ w.heap.size)
    (hk : ∀ g cap w', ProbsOwn B w' (.slice (some ⟨g, 0, none⟩) (ps.length + 1) cap) (ps ++ [p]) → w.grownBy w' v.ownBlock → (v.ownBlock = some g ∨ g = w.heap.size) → wpList Tryz.prog ops Q rest (a.put o.dst (.slice (some ⟨g, 0, none⟩) (ps.length + 1) cap)) w') : wpList Tryz.prog ops Q (o :: rest) a w := by
  obtain ⟨i0, hi, hz0, hz1, hz2⟩ := info_parts infoProb
  refine wpList_append_lies w hgd s x 50 ho B 55 i0 (.agg #[.int .i64 0, .int .i64 0, .int .i64 0, .int .i64 0]) 4 32 Tryz.underlying50 hi hz0 hz1 hz2 rfl (by decide) v ps.length _ hs h ad 1 c (encP p) hx rfl hnews (by intro u hu; simp [encP] at hu; rcases hu with rfl | rfl | rfl | rfl <;> rfl) (by decide) (by unfold maxLen; omega) (by omega) hB w.heap.size rfl fun g cap w' hn hg hwh _ => hk g cap w' ?_ hg hwh
  unfold ProbsOwn
  rw [List.length_append, List.flatMap_append, List.flatMap_cons, List.flatMap_nil, List.append_nil]
  exact hn
/-- A problem is appended, in a region that draws. -/
theorem step_pr {ops : Array Oper} {o : Oper} {a : Act} {K' : Act → World → Prop} {Q : Exit → Act → World → Prop} {E : Prop} {B H : Nat} {w : World} {v : Value} {ps : List Prob} (hgd : o.guard = none) (s x : Operand)
    (ho : o.op = .call { callee := .builtin .append, args := #[s, x], argTypes := #[50, 50] }) (hs : a.eval s = v) (h : ProbsOwn B w v ps) (hl : ps.length ≤ 2000000000) (ad : Addr) (c : Nat) (hx : a.eval x = .slice (some ad) 1 c) (p : Prob)
    (hnews : ∀ j u, (encP p)[j]? = some u → w.cell? (ad.add j) = some u) (hB : B ≤ w.heap.size) (hH : w.heap.size = H)
    (hk : ∀ g cap w', ProbsOwn B w' (.slice (some ⟨g, 0, none⟩) (ps.length + 1) cap) (ps ++ [p]) → w.grownBy w' v.ownBlock → (v.ownBlock = some g ∨ g = H) → g < w'.heap.size → K' (a.put o.dst (.slice (some ⟨g, 0, none⟩) (ps.length + 1) cap)) w') :
    if Region.wanted o (yielded ops a.tmps) = true then Oper.wp Tryz.prog o a w K' Q else E := by
  obtain ⟨i0, hi, hz0, hz1, hz2⟩ := info_parts infoProb
  refine step_append_lies w hgd s x 50 ho B 55 i0 (.agg #[.int .i64 0, .int .i64 0, .int .i64 0, .int .i64 0]) 4 32 Tryz.underlying50 hi hz0 hz1 hz2 rfl (by decide) v ps.length _ hs h ad 1 c (encP p) hx rfl hnews (by intro u hu; simp [encP] at hu; rcases hu with rfl | rfl | rfl | rfl <;> rfl) (by decide) (by unfold maxLen; omega) (by omega) hB H hH fun g cap w' hn hg hwh hlt => hk g cap w' ?_ hg hwh hlt
  unfold ProbsOwn
  rw [List.length_append, List.flatMap_append, List.flatMap_cons, List.flatMap_nil, List.append_nil]
  exact hn
theorem apd_rules : Apd Tryz.prog 36 43 13 192 := apd Tryz.underlying36 (z := .agg #[.string ⟨#[]⟩, .int .i64 0, .int .i64 0, .int .i64 0, .string ⟨#[]⟩, .slice none 0 0, .int .i64 0, .string ⟨#[]⟩, .slice none 0 0, .int .i64 0, .slice none 0 0, .slice none 0 0, .int .i64 0]) (by kernel_rfl) rfl
/-- What one line adds. -/
theorem step_none {d sl b m wk : Int} {z : ByteArray} (h : lineP gramT z = none) (st : List RuleD × List PrbT × Nat) : stepS d sl b m wk st z = (st.1, st.2.1, st.2.2 + 1) := by unfold stepS lineStep; rw [h]
theorem step_bad {d sl b m wk : Int} {z : ByteArray} {y : Nat × Int} (h : lineP gramT z = some (.error y)) (st : List RuleD × List PrbT × Nat) : stepS d sl b m wk st z = (st.1, st.2.1 ++ [(st.2.2 + 1, y.1 + 1, y.2)], st.2.2 + 1) := by unfold stepS lineStep; rw [h]
theorem step_fin {d sl b m wk : Int} {z : ByteArray} {u : RuleT} {c : Int} (h : lineP gramT z = some (.ok u)) (hf : finR d sl b m wk 0 u = .error c) (st : List RuleD × List PrbT × Nat) : stepS d sl b m wk st z = (st.1, st.2.1 ++ [(st.2.2 + 1, 0, c)], st.2.2 + 1) := by unfold stepS lineStep; rw [h]; dsimp only; rw [hf]
theorem step_rule {d sl b m wk : Int} {z : ByteArray} {u : RuleT} {r : RuleD} (h : lineP gramT z = some (.ok u)) (hf : finR d sl b m wk 0 u = .ok r) (st : List RuleD × List PrbT × Nat) :
    stepS d sl b m wk st z = if hasN r.name st.1 = true then (st.1, st.2.1 ++ [(st.2.2 + 1, 0, 11)], st.2.2 + 1) else if 48 ≤ st.1.length then (st.1, st.2.1 ++ [(st.2.2 + 1, 0, 2)], st.2.2 + 1) else (st.1 ++ [putL r (st.2.2 + 1)], st.2.1, st.2.2 + 1) := by unfold stepS lineStep hasN; rw [h]; dsimp only; rw [hf]
theorem check_ok {d sl b m wk : Int} {r q : RuleD} (h : checkR d sl b m wk r = .ok q) : q = r ∧ ruleE d sl b m wk r = 0 := by
  unfold checkR at h
  split at h
  · injection h with h; exact ⟨h.symm, by assumption⟩
  · cases h
/-- A rule that is kept is sound. -/
theorem fin_ok {d sl b m wk : Int} {u : RuleT} {r : RuleD} (h : finR d sl b m wk 0 u = .ok r) : ruleE d sl b m wk r = 0 ∧ r.first = u.first ∧ r.second = u.second := by
  unfold finR at h
  by_cases h10 : u.kind = 10
  · rw [if_pos h10] at h
    by_cases h0 : firstE (pieceE d sl b m wk) u.parts = 0
    · rw [if_pos h0] at h; obtain ⟨rfl, h1⟩ := check_ok h; exact ⟨h1, rfl, rfl⟩
    · rw [if_neg h0] at h; cases h
  · rw [if_neg h10] at h
    by_cases h11 : u.kind = 11
    · rw [if_pos h11] at h
      by_cases h0 : (listV (joinP u.parts)).1 = 0
      · rw [if_pos h0] at h; obtain ⟨rfl, h1⟩ := check_ok h; exact ⟨h1, rfl, rfl⟩
      · rw [if_neg h0] at h; cases h
    · rw [if_neg h11] at h; obtain ⟨rfl, h1⟩ := check_ok h; exact ⟨h1, rfl, rfl⟩
theorem rule_sound {d sl b m wk : Int} {r : RuleD} (h : ruleE d sl b m wk r = 0) : r.name.size ≠ 0 ∧ r.times.length ≤ 24 ∧ r.rooms.length ≤ 16 := by
  unfold ruleE at h
  by_cases h1 : weekB d sl b m wk = false
  · rw [if_pos h1] at h; cases h
  rw [if_neg h1] at h
  by_cases h2 : codeB r.name = false
  · rw [if_pos h2] at h; cases h
  rw [if_neg h2] at h
  by_cases h3 : r.weight < 0 ∨ 1000 < r.weight
  · rw [if_pos h3] at h; cases h
  rw [if_neg h3] at h
  by_cases h4 : r.kind < 1 ∨ 12 < r.kind
  · rw [if_pos h4] at h; cases h
  rw [if_neg h4] at h
  by_cases h5 : selectedB r = false
  · rw [if_pos h5] at h; cases h
  rw [if_neg h5] at h
  by_cases h6 : r.n < 0 ∨ (if numbI r.kind then 24 else 0) < r.n
  · rw [if_pos h6] at h; cases h
  rw [if_neg h6] at h
  have h7 : listedE d sl b m wk r = 0 := by
    by_cases h7 : listedE d sl b m wk r = 0
    · exact h7
    · rw [if_pos h7] at h; exact absurd h h7
  refine ⟨fun e => h2 ?_, ?_⟩
  · have e0 : r.name = ⟨#[]⟩ := ByteArray.ext (Array.eq_empty_of_size_eq_zero e)
    rw [e0]
    decide
  · unfold listedE at h7
    repeat' (split at h7; (try (cases h7; done)))
    all_goals constructor <;> omega
end Go.Proofs.YtdnnahdafhddlaaGreatDoor

namespace Go.Proofs.YtdnnahdafhddlaaGreatDoor
open Go.RowKit
set_option maxRecDepth 100000

/-- An error's place is no greater than a number. -/
def SmallE {α : Type} (M : Nat) (r : Res α) : Prop := ∀ y, r = .error y → y.1 ≤ M
section
variable {t : ByteArray} {e M : Nat}
theorem small_ok {α : Type} {z : α × Nat} : SmallE M (.ok z : Res α) := fun y h => by cases h
theorem small_bad {α : Type} {b : Nat} {c : Int} (h : b ≤ M) : SmallE M (.error (b, c) : Res α) := fun y e => by injection e with e; rw [← e]; exact h
theorem small_as {α β : Type} {y : Nat × Int} (h : SmallE M (.error y : Res α)) : SmallE M (.error y : Res β) := fun z e => by injection e with e; rw [← e]; exact h y rfl
theorem look_small (ht : t.size ≤ M) (he : e ≤ M) (a : Nat) : (∀ b, lookT t e a = .bad b → b ≤ M) ∧ ∀ x p, lookT t e a = .tok x p → p ≤ M := by
  unfold lookT
  by_cases h1 : startT t a < t.size
  · rw [dif_pos h1]
    split
    · exact ⟨fun b h => (by cases h), fun x p h => by injection h with _ h; omega⟩
    · split
      · exact ⟨fun b h => (by cases h), fun x p h => by injection h with _ h; omega⟩
      · exact ⟨fun b h => (by injection h with h; omega), fun x p h => by cases h⟩
  · rw [dif_neg h1]
    exact ⟨fun b h => (by cases h), fun x p h => by injection h with _ h; omega⟩
theorem next_small (ht : t.size ≤ M) (he : e ≤ M) (a : Nat) : SmallE M (nextP t e a) ∧ ∀ x p b, nextP t e a = .ok ((x, p), b) → p ≤ M := by
  obtain ⟨h1, h2⟩ := look_small ht he a
  unfold nextP
  cases hl : lookT t e a with
  | bad b => exact ⟨small_bad (h1 b hl), fun x p b h => (by cases h)⟩
  | tok x p => exact ⟨small_ok, fun x' p' b h => by injection h with h; injection h with h _; injection h with _ h; rw [← h]; exact h2 x p hl⟩
theorem via_next {α : Type} (ht : t.size ≤ M) (he : e ≤ M) (a : Nat) (q : ByteArray → Nat → Nat → Res α) (hq : ∀ x p b, p ≤ M → SmallE M (q x p b)) :
    SmallE M (match nextP t e a with | .error y => .error y | .ok ((x, p), b) => q x p b) := by
  obtain ⟨h1, h2⟩ := next_small ht he a
  cases hn : nextP t e a with
  | error y => rw [hn] at h1; exact small_as h1
  | ok z => obtain ⟨⟨x, p⟩, b⟩ := z; exact hq x p b (h2 x p b hn)
theorem need_small (ht : t.size ≤ M) (he : e ≤ M) (w : ByteArray) (a : Nat) : SmallE M (needP t e w a) :=
  via_next ht he a _ fun x p b hp => by split; exact small_ok; exact small_bad hp
theorem ident_small (ht : t.size ≤ M) (he : e ≤ M) (ok : ByteArray → Bool) (a : Nat) : SmallE M (identP ok t e a) :=
  via_next ht he a _ fun x p b hp => by split; exact small_ok; exact small_bad hp
theorem more_small (ht : t.size ≤ M) (he : e ≤ M) {pp : Nat → Res Sel} (hm : ∀ b, SmallE M (pp b)) (w : ByteArray) (kind : Int) : ∀ (n : Nat) (l : List Sel) (a : Nat), SmallE M (moreP t e pp w kind n l a)
  | 0, l, a => by
    obtain ⟨h1, h2⟩ := look_small ht he a
    unfold moreP
    cases hl : lookT t e a with
    | bad b => exact small_bad (h1 b hl)
    | tok x p => exact small_bad (Nat.zero_le _)
  | n + 1, l, a => by
    obtain ⟨h1, h2⟩ := look_small ht he a
    cases hl : lookT t e a with
    | bad b => rw [moreP_bad hl]; exact small_bad (h1 b hl)
    | tok x p =>
      by_cases hx : x = w
      · subst hx
        rw [moreP_yes hl]
        have h3 := hm (startT t a + x.size)
        cases hp : pp (startT t a + x.size) with
        | error y => rw [hp] at h3; exact small_as h3
        | ok z => obtain ⟨s, b⟩ := z; exact more_small ht he hm x kind n _ b
      · rw [moreP_no hl hx]; exact small_ok
theorem ser_small (ht : t.size ≤ M) (he : e ≤ M) {pp : Nat → Res Sel} (hm : ∀ b, SmallE M (pp b)) (w : ByteArray) (kind : Int) (a : Nat) : SmallE M (serP t e pp w kind a) := by
  unfold serP
  have h3 := hm a
  cases hp : pp a with
  | error y => rw [hp] at h3; exact h3
  | ok z => obtain ⟨s, b⟩ := z; exact more_small ht he hm w kind _ _ b
theorem atom_small (ht : t.size ≤ M) (he : e ≤ M) (ok : ByteArray → Bool) (ws : List ByteArray) : ∀ (f a : Nat), SmallE M (atomP ok ws t e f a)
  | 0, a => by
    obtain ⟨h1, h2⟩ := look_small ht he a
    unfold atomP
    cases hl : lookT t e a with
    | bad b => exact small_bad (h1 b hl)
    | tok x p => exact small_bad (Nat.zero_le _)
  | f + 1, a => by
    unfold atomP
    refine via_next ht he a _ fun x p b hp => ?_
    split
    · have h3 := atom_small ht he ok ws f b
      cases hq : atomP ok ws t e f b with
      | error y => rw [hq] at h3; exact small_as h3
      | ok z => exact small_ok
    · split
      · have h3 := ser_small ht he (ser_small ht he (atom_small ht he ok ws f) xAnd 8) xOr 9 b
        cases hq : serP t e (serP t e (atomP ok ws t e f) xAnd 8) xOr 9 b with
        | error y => rw [hq] at h3; exact small_as h3
        | ok z =>
          obtain ⟨s, c⟩ := z
          have h4 := need_small ht he xShut c
          show SmallE M (match needP t e xShut c with | .error y => .error y | .ok (_, d) => .ok (s, d))
          cases hr : needP t e xShut c with
          | error y => rw [hr] at h4; exact small_as h4
          | ok z => exact small_ok
      · split
        · exact small_ok
        · split
          · have h3 := ident_small ht he ok b
            cases hq : identP ok t e b with
            | error y => rw [hq] at h3; exact small_as h3
            | ok z => exact small_ok
          · exact small_bad hp
variable {G : Gram}
theorem sel_small (ht : t.size ≤ M) (he : e ≤ M) (f a : Nat) : SmallE M (selP G t e f a) := ser_small ht he (ser_small ht he (atom_small ht he G.ok G.ws f) xAnd 8) xOr 9 a
theorem brack_small (ht : t.size ≤ M) (he : e ≤ M) (a : Nat) : SmallE M (brackP G t e a) :=
  via_next ht he a _ fun x p b hp => by
    split
    · split
      · exact small_ok
      · exact small_bad hp
    · exact small_bad hp
theorem weight_small (ht : t.size ≤ M) (he : e ≤ M) (a : Nat) : SmallE M (weightP G t e a) :=
  via_next ht he a _ fun x p b hp => by
    split
    · exact small_ok
    · split
      · exact small_ok
      · exact small_bad hp
theorem dig_small (ht : t.size ≤ M) (he : e ≤ M) (a : Nat) : SmallE M (digP G t e a) :=
  via_next ht he a _ fun x p b hp => by
    split
    · exact small_ok
    · exact small_bad hp
theorem kind_small (ht : t.size ≤ M) (he : e ≤ M) (a : Nat) : SmallE M (kindP G t e a) :=
  via_next ht he a _ fun x p b hp => by
    split
    · exact small_ok
    · exact small_bad hp
theorem then_small {α β : Type} {p : Nat → Res α} {q : α → Nat → Res β} (h1 : ∀ a, SmallE M (p a)) (h2 : ∀ x a, SmallE M (q x a)) (a : Nat) : SmallE M (thenP p q a) := by
  unfold thenP
  have h := h1 a
  cases hp : p a with
  | error y => rw [hp] at h; exact small_as h
  | ok z => obtain ⟨x, b⟩ := z; exact h2 x b
theorem last_small (ht : t.size ≤ M) (he : e ≤ M) (f k a : Nat) : SmallE M (lastP G t e f k a) := by
  unfold lastP
  have h1 := need_small ht he xComma a
  split
  · cases hn : needP t e xComma a with
    | error y => rw [hn] at h1; exact small_as h1
    | ok z =>
      obtain ⟨u, b⟩ := z
      have h2 := sel_small (G := G) ht he f b
      show SmallE M (match selP G t e f b with | .error y => .error y | .ok (s, c) => .ok ((s, []), c))
      cases hs : selP G t e f b with
      | error y => rw [hs] at h2; exact small_as h2
      | ok z => exact small_ok
  · split
    · cases hn : needP t e xComma a with
      | error y => rw [hn] at h1; exact small_as h1
      | ok z =>
        obtain ⟨u, b⟩ := z
        have h2 := brack_small (G := G) ht he b
        show SmallE M (match brackP G t e b with | .error y => .error y | .ok (l, c) => .ok ((zSel, l), c))
        cases hs : brackP G t e b with
        | error y => rw [hs] at h2; exact small_as h2
        | ok z => exact small_ok
    · exact small_ok
theorem numb_small (ht : t.size ≤ M) (he : e ≤ M) (k a : Nat) : SmallE M (numbP G t e k a) := by
  unfold numbP
  split
  · exact dig_small ht he a
  · exact small_ok
theorem rule_small (ht : t.size ≤ M) (he : e ≤ M) (f a : Nat) : SmallE M (ruleP G t e f a) := by
  unfold ruleP
  exact then_small (ident_small ht he _) (fun _ => then_small (need_small ht he _) fun _ => then_small (weight_small ht he) fun _ => then_small (kind_small ht he) fun _ => then_small (numb_small ht he _) fun _ => then_small (sel_small ht he f) fun _ => by unfold tailP; exact then_small (last_small ht he f _) fun _ => then_small (need_small ht he _) fun _ _ => small_ok) a
end
end Go.Proofs.YtdnnahdafhddlaaGreatDoor

namespace Go.Proofs.YtdnnahdafhddlaaGreatDoor
open Go.RowKit
set_option maxRecDepth 100000

def ParSt (d sl b m wk : Int) (lines : List ByteArray) (w : World) (v8 v9 i : Value) (wr : World) : Prop :=
  ∃ j : Nat, j ≤ lines.length ∧ i = .int .i64 j ∧ GathR w.heap.size wr v8 v9 (rulesS d sl b m wk (lines.take j)).1 ((rulesS d sl b m wk (lines.take j)).2.1.map probT) ∧ Below w.heap.size w wr
def trimT (z : ByteArray) : ByteArray := ⟨(Lib.trimS z.data.toList [32, 9]).toArray⟩
theorem trimT_walk (s : ByteArray) (w : World) (hs : s.size ≤ 9223372036854775807) :
    Calls Tryz.prog 52 #[.string s, .string ⟨#[32, 9]⟩] w fun e w' => e = .returned (.string (trimT s)) ∧ Below w.heap.size w w' :=
  Any.strings_Trim_laid Tryz.lays160 (by kernel_rfl) s ⟨#[32, 9]⟩ w hs (by decide) (ascii_of_all (by decide))
set_option maxHeartbeats 4000000 in
theorem parse_lines14 (d sl b m wk : Int) (s : ByteArray) (h : weekB d sl b m wk = true) (hs : s.size ≤ 65536) (w : World) (hStd : Std w) :
    Calls Tryz.prog 20 #[.string s, .agg #[.int .i64 d, .int .i64 sl, .int .i64 b, .int .i64 m], .int .i64 wk] w fun en w' => ParsG (rulesT d sl b m wk s) w en w' := by
  obtain ⟨lines, hl⟩ : ∃ lines, Lib.splitB ⟨#[10]⟩ 0 (Lib.countB s ⟨#[10]⟩) s = lines := ⟨_, rfl⟩
  have hr : rulesT d sl b m wk s = ((rulesS d sl b m wk lines).1, (rulesS d sl b m wk lines).2.1.map probT) := by unfold rulesT; rw [if_neg (by rw [h]; decide), if_neg (by omega), hl]
  rw [hr]
  have hwk := tgWeek_walk d sl b m wk (w.alloc (.cells #[.int .i64 d, .int .i64 sl, .int .i64 b, .int .i64 m] 23))
  rw [h] at hwk
  have hb0 : Below w.heap.size w (w.alloc (.cells #[.int .i64 d, .int .i64 sl, .int .i64 b, .int .i64 m] 23)) := (by repeat (first | exact Below.refl _ _ | refine ext_alloc ?_ _ | refine ext_drewN ?_ _ | refine ext_drew ?_ | refine ext_trans ?_ (by assumption)))
  have bG0 := Box4.new w 23 (.int .i64 d) (.int .i64 sl) (.int .i64 b) (.int .i64 m)
  have hsi : ¬ (65536 : Int) < (s.size : Int) := by omega
  have hlm : ∀ z ∈ lines, z.size ≤ 65536 := fun z hz => Nat.le_trans (splitB_mem hl hz) hs
  have hlen := splitB_len 10 s
  rw [hl] at hlen
  obtain ⟨N, hN⟩ : ∃ N, Lib.countB s ⟨#[10]⟩ + 1 = N := ⟨_, rfl⟩
  have hNz : N ≤ s.size + 1 := by
    have h1 : N = (splitOn1 10 s.data.toList).length := by rw [← hN, ← hlen, ← hl, ← splitB_one, List.length_map]
    have h2 := splitOn1_len 10 s.data.toList
    rw [ba_len] at h2
    omega
  rw [hN] at hlen
  have hsp := fun (V : World) (hV : Std V) => Tryz.strings_Split s ⟨#[10]⟩ hV.maxLen.choose V (by omega) hV.maxLen.choose_spec (by decide)
  rw [hl, hN] at hsp
  have hsp := hide hsp
  replace hl := hide hl
  replace hlm := hide hlm
  replace hlen := hide hlen
  clear hr hN
  go_enter Tryz.func20, Tryz.ntmps20
  go_wp2_with fail
  refine hwk.mono ?_
  rintro e w1 ⟨rfl, hb1⟩
  have hb := ext_trans hb0 hb1
  have bG1 := bG0.later hb1
  have hS1 := hStd.after hb
  have hsp1 := hsp.out w1 hS1
  clear hwk hb0 hb1 hsp
  go_wp2_with fail
  refine hsp1.mono ?_
  rintro e w2 ⟨rfl, rfl⟩
  clear hsp1
  obtain ⟨L, hL⟩ : ∃ L, w1.heap.size = L := ⟨_, rfl⟩
  obtain ⟨W2, hW2⟩ : ∃ W2, w1.alloc (.cells (lines.map Value.string).toArray 9) = W2 := ⟨_, rfl⟩
  have hb2 : Below w1.heap.size w1 W2 := by rw [← hW2]; exact ext_alloc (Below.refl _ _) _
  have hrow : RowS W2 L lines := ⟨_, by rw [← hW2, ← hL]; exact heap_alloc_new _ _, by simp⟩
  have hbW := ext_trans hb hb2
  have bG2 := bG1.later hb2
  have hS2 := hS1.after hb2
  have hLw : w.heap.size ≤ L := by rw [← hL]; exact hb.size
  have hst0 : ParSt d sl b m wk lines W2 (.slice none 0 0) (.slice none 0 0) (.int .i64 (0 : Nat)) W2 := ⟨0, Nat.zero_le _, rfl, GathR.nil, Below.refl _ _⟩
  have hLW : L < W2.heap.size := by obtain ⟨cs, h1, -⟩ := hrow; exact blk_lt h1
  rw [hL]
  clear bG1 hb hb2 hS1 bG0
  replace hst0 := hide hst0
  go_wp2_with fail
  go_loopw [8, 9, 36] (fun v8 v9 i wr => ParSt d sl b m wk lines W2 v8 v9 i wr) (fun _ _ i _ => N - (intOf i).toNat)
  case atStart => exact hst0.out
  case round =>
    obtain ⟨j, hj, rfl, hG, hbr⟩ := hrel
    obtain ⟨hct, hc48, hcp⟩ := rules_count gramT (finR d sl b m wk 0) RuleD.name putL 48 lines j hj
    rw [hlen.out] at hj
    obtain ⟨st, hst⟩ : ∃ st, rulesS d sl b m wk (lines.take j) = st := ⟨_, rfl⟩
    have hct : st.2.2 = j := by rw [← hst]; exact hct
    have hc48 : st.1.length ≤ 48 := by rw [← hst]; exact hc48
    have hcp : st.2.1.length ≤ j := by rw [← hst]; exact hcp
    by_cases hlt : j < N
    · obtain ⟨z, hz⟩ : ∃ z, lines[j]? = some z := ⟨_, List.getElem?_eq_getElem (by rw [hlen.out]; exact hlt)⟩
      have hzs := hlm.out z (List.mem_of_getElem? hz)
      have hstep : rulesS d sl b m wk (lines.take (j + 1)) = stepS d sl b m wk st z := by rw [← hst]; exact rules_step gramT (finR d sl b m wk 0) RuleD.name putL 48 hz
      rw [hst] at hG
      obtain ⟨q0, -, -⟩ := (hrow.later hbr).get hz
      have hSr := hS2.after hbr
      have bGr := bG2.later hbr
      have hj0 : (0 : Int) ≤ (j : Int) := by omega
      have hj1 : (j : Int) < (N : Int) := by omega
      obtain ⟨ml, hml⟩ := hSr.maxLen
      have hcut := Tryz.strings_Cut z ⟨#[35]⟩ ml wr (by omega) hml
      rw [show (⟨#[35]⟩ : ByteArray).data.toList = [35] from rfl, cut_read] at hcut
      obtain ⟨y1, hy1⟩ : ∃ y1, (Lib.cut z.data.toList [35]).2.1.toArray = y1 := ⟨_, rfl⟩
      obtain ⟨y2, hy2⟩ : ∃ y2, (Lib.cut z.data.toList [35]).2.2 = y2 := ⟨_, rfl⟩
      rw [hy1, hy2] at hcut
      obtain ⟨T, hT⟩ : ∃ T, readT z = T := ⟨_, rfl⟩
      have hTs : T.size ≤ 65536 := by rw [← hT]; unfold readT; rw [ByteArray.size_extract]; omega
      have hcut : Calls Tryz.prog 51 #[.string z, .string ⟨#[35]⟩] wr fun e w' => e = .returned (.tuple #[.string T, .string ⟨y1⟩, .bool y2]) ∧ ∃ n, w' = wr.drewN n := by rw [← hT]; exact hcut
      have hst := trim_start T
      obtain ⟨Y, hY⟩ : ∃ Y, trimT T = Y := ⟨_, rfl⟩
      have htr := hide (fun V : World => trimT_walk T V (by omega))
      rw [hY] at htr
      have hE0 := str_empty Y
      have hE2 : decide (Y.size = 0) = !decide (startT T 0 < T.size) := by
        rw [← hst, ← hY, ← ba_len]
        show decide ((Lib.trimS T.data.toList [32, 9]).toArray.toList.length = 0) = _
        rw [List.toList_toArray]
        cases Lib.trimS T.data.toList [32, 9] <;> simp
      have hE : Y.toList.isEmpty = decide (Y.size = 0) := by rw [← hE0]; cases Y.toList <;> rfl
      obtain ⟨EM, hEM⟩ : ∃ EM, decide (Y.size = 0) = EM := ⟨_, rfl⟩
      rw [hEM] at hE hE0 hE2
      replace hE2 := hide hE2
      clear hy1 hy2 hEM hY hst
      go_wp2_with fail
      refine hcut.mono ?_
      rintro e w3 ⟨rfl, n3, rfl⟩
      clear hcut
      have htr3 := htr.out (wr.drewN n3)
      clear htr
      go_wp2_with fail
      refine htr3.mono ?_
      rintro e w4 ⟨rfl, hb4⟩
      have hb3 : Below wr.heap.size wr (wr.drewN n3) := ext_drewN (Below.refl _ _) n3
      have hb34 := ext_trans hb3 hb4
      have hG4 := hG.later hb34
      have hbr4 := ext_trans hbr hb34
      clear htr3 hb3 hb4 q0 hml hst
      cases EM
      · have hsome := hE2.out
        have hlt2 : startT T 0 < T.size := by
          by_cases q : startT T 0 < T.size
          · exact q
          · rw [decide_eq_false q] at hsome; cases hsome
        have hline := line_some (G := gramT) (s := z) (by rw [hT]; exact hlt2)
        rw [hT] at hline
        obtain ⟨V5, hV5⟩ : ∃ V5, w4.alloc (.cells #[.string T, .int .i64 (z.size : Int), .int .i64 0] 91) = V5 := ⟨_, rfl⟩
        have hb5 : Below w4.heap.size w4 V5 := by rw [← hV5]; exact ext_alloc (Below.refl _ _) _
        have hps : PsAt V5 w4.heap.size T z.size 0 := by rw [← hV5]; exact heap_alloc_new _ _
        have hrd := read_walk w4.heap.size T z.size 0 V5 w4 (hSr.after hb34) hb5 (Nat.le_refl _) hps (Nat.zero_le _) (by omega)
        obtain ⟨RR, hRR⟩ : ∃ RR, ruleP gramT T z.size (T.size + 1) 0 = RR := ⟨_, rfl⟩
        rw [hRR] at hrd hline
        have hw45 : w4.heap.size < V5.heap.size := by rw [← hV5, World.size_alloc]; omega
        clear hcut hE2 hsome hps
        go_wp2_with fail
        refine hrd.mono ?_
        rintro e w6 ⟨ho6, hm⟩
        clear hrd
        have hbw6 : Below wr.heap.size wr w6 := (ext_trans hb34 hb5).trans (Only.below ho6 (by have := hb34.size; omega) (by have := hb34.size; have := hb5.size; omega))
        have hbr6 := ext_trans hbr hbw6
        have hw6 := hbw6.size
        obtain ⟨ub, hub⟩ : ∃ ub, w6.heap.size = ub := ⟨_, rfl⟩
        cases RR with
        | error y =>
          obtain ⟨pb, he, hpb, hwr⟩ := hm
          unfold ruleV at he
          subst he
          obtain ⟨y1, y2⟩ := y
          have hy1 : y1 ≤ 65536 := rule_small (M := 65536) hTs hzs _ _ _ hRR
          dsimp only at hwr
          have hsb := step_bad (d := d) (sl := sl) (b := b) (m := m) (wk := wk) hline st
          rw [← hstep, hct] at hsb
          dsimp only at hsb
          obtain ⟨U, hU⟩ : ∃ U, w6.alloc (.cells #[.string ⟨#[]⟩, .int .i64 0, .int .i64 0, .int .i64 0, .string ⟨#[]⟩, .slice none 0 0, .int .i64 0, .string ⟨#[]⟩, .slice none 0 0, .int .i64 0, .slice none 0 0, .slice none 0 0, .int .i64 0] 43) = U := ⟨_, rfl⟩
          have hbV : Below w6.heap.size w6 U := by rw [← hU]; exact ext_alloc (Below.refl _ _) _
          have hbU := ext_trans hbw6 hbV
          have hwU : U.heap[pb]? = some (.cells #[.int .i64 y1, .int .i64 y2] 96 (0, 0)) := (hbV.block pb (blk_lt hwr)).trans hwr
          have hp0 : U.cell? ⟨pb, 0, none⟩ = some (.int .i64 y1) := by rw [cell_of_row U pb _ _ _ _ hwU]; rfl
          have hp1 : U.cell? ⟨pb, 1, none⟩ = some (.int .i64 y2) := by rw [cell_of_row U pb _ _ _ _ hwU]; rfl
          have hpl := blk_lt hwU
          have hGU := hG.later hbU
          have hbB : Below U.heap.size U ((U.alloc (.cells (#[.int .i64 0, .int .i64 ((j : Int) + 1), .int .i64 ((y1 : Int) + 1), .int .i64 y2]) 55)).drew) := ext_drew (ext_alloc (Below.refl _ _) _)
          have hGB := hGU.later hbB
          have hnews : ∀ i u, (encP ((j : Int) + 1, (y1 : Int) + 1, y2))[i]? = some u → ((U.alloc (.cells (#[.int .i64 0, .int .i64 ((j : Int) + 1), .int .i64 ((y1 : Int) + 1), .int .i64 y2]) 55)).drew).cell? ((⟨U.heap.size, 0, none⟩ : Addr).add i) = some u := new_prob U ((j : Int) + 1) ((y1 : Int) + 1) y2 55
          have hB : W2.heap.size ≤ ((U.alloc (.cells (#[.int .i64 0, .int .i64 ((j : Int) + 1), .int .i64 ((y1 : Int) + 1), .int .i64 y2]) 55)).drew).heap.size := Nat.le_trans hbr.size (Nat.le_trans hbU.size hbB.size)
          have hpl2 : (st.2.1.map probT).length ≤ 2000000000 := by rw [List.length_map]; omega
          have hGh := hide hGB
          have hP := hGB.ps
          replace hU := hide hU
          replace hub := hide hub
          clear hG4 hGU hGB hwU hwr
          go_upto_region 15 with fail
          rw [hub.out, hU.out]
          have hpt : probT (j + 1, y1 + 1, y2) = ((j : Int) + 1, (y1 : Int) + 1, y2) := by unfold probT; simp
          replace hpt := hide hpt
          have hbX := hide (ext_trans (ext_trans hbr hbU) hbB)
          have e1 : IntKind.i64.wrap ((j : Int) + 1) = (j : Int) + 1 := IntWalk.i64_in _ (by omega)
          have e2 : IntKind.i64.wrap ((y1 : Int) + 1) = (y1 : Int) + 1 := IntWalk.i64_in _ (by omega)
          have hBh := hide hB
          clear hbU hbB hbr6 hbV hbw6
          go_region_law (refine step_pr (B := W2.heap.size) (H := ((U.alloc (.cells (#[.int .i64 0, .int .i64 ((j : Int) + 1), .int .i64 ((y1 : Int) + 1), .int .i64 y2]) 55)).drew).heap.size) (v := u9) (ps := st.2.1.map probT) rfl (.tmp 63) (.tmp 76) rfl (by simp [Act.eval]; done) hP hpl2 ⟨U.heap.size, 0, none⟩ 1 (by simp [Act.eval]; done) ((j : Int) + 1, (y1 : Int) + 1, y2) hnews hB rfl ?_; intro g5 c5 w5 hown5 hgr5 hwh5 hgl5; have hG5 := hide (GathR.prob hGh.out hgr5 hown5 ⟨g5, c5, _, rfl, hwh5⟩); have hb5 := hide (Below.grown hbX.out hgr5 hBh.out (fun y hy => (hGh.out.low9 y hy).1)))
          all_goals
            clear hP hnews hown5 hgr5 hwh5 hp0 hp1
            go_wp2
            go_roundw
            case rel => exact ⟨j + 1, by rw [hlen.out]; omega, by go_num, by rw [hsb]; show GathR W2.heap.size _ _ _ st.1 (List.map probT (st.2.1 ++ [_])); rw [List.map_append, List.map_singleton, hpt.out]; have hq := hG5.out; rw [List.length_map] at hq; exact hq, hb5.out⟩
            case measure => simp [intOf]; omega
        | ok q =>
          obtain ⟨u, bq⟩ := q
          obtain ⟨v1, v2, ⟨f0, f1, fA, fl, fc, s0, s1, sA, sl', sc, A, c, hve, hrep1, hrep2, hpc, hparts⟩, he⟩ := hm
          cases hve
          subst he
          have hline : lineP gramT z = some (.ok u) := hline
          obtain ⟨hz12, hpl, hpz, hpj⟩ := rule_fits hTs hRR
          obtain ⟨U1, hU1⟩ : ∃ U1, w6.alloc (.cells #[.string u.name, .int .i64 u.weight, .int .i64 u.kind, .int .i64 f0, .string f1, .slice fA fl fc, .int .i64 s0, .string s1, .slice sA sl' sc, .int .i64 u.n, .slice none 0 0, .slice none 0 0, .int .i64 ((j : Int) + 1)] 43) = U1 := ⟨_, rfl⟩
          have hrow1 : RowV 43 U1 ub [.string u.name, .int .i64 u.weight, .int .i64 u.kind, .int .i64 f0, .string f1, .slice fA fl fc, .int .i64 s0, .string s1, .slice sA sl' sc, .int .i64 u.n, .slice none 0 0, .slice none 0 0, .int .i64 ((j : Int) + 1)] := ⟨_, by rw [← hU1, ← hub]; exact heap_alloc_new _ _, rfl⟩
          have hbU1 : Below w6.heap.size w6 U1 := by rw [← hU1]; exact ext_alloc (Below.refl _ _) _
          have hbX1 := ext_trans hbw6 hbU1
          have hsU1 : U1.heap.size = ub + 1 := by rw [← hU1, ← hub, World.size_alloc]
          have hkp : ∀ x, V5.heap.size ≤ x → x < w6.heap.size → (V5.heap.size ≤ x ∧ x < ub) ∧ x < U1.heap.size ∧ U1.heap[x]? = w6.heap[x]? := fun x h1 h2 => ⟨⟨h1, by omega⟩, by omega, hbU1.block x h2⟩
          have hSU := (hSr.after hbX1)
          have hub0 : 12 ≤ ub := by have := hSr.big; omega
          have hfin := finish_walk d sl b m wk ((j : Int) + 1) u hz12 hpl hpz hpj ub (fun x => V5.heap.size ≤ x ∧ x < ub) f0 s0 f1 s1 fA sA A fl fc sl' sc c U1 hSU hub0 hrow1 (fun x h => by omega) (kSel.kept hrep1 hkp) (kSel.kept hrep2 hkp) (hparts.kept hkp) hpc
          obtain ⟨F, hF⟩ : ∃ F, finR d sl b m wk 0 u = F := ⟨_, rfl⟩
          rw [show ((j : Int) + 1) = ((j + 1 : Nat) : Int) from by omega, fin_line, hF] at hfin
          obtain ⟨g0, g1, g2, g3⟩ := bGr.later hbX1
          have hgl := (bGr.later hbX1).lt
          have e1 : IntKind.i64.wrap ((j : Int) + 1) = (j : Int) + 1 := IntWalk.i64_in _ (by omega)
          have hpl2 : (st.2.1.map probT).length ≤ 2000000000 := by rw [List.length_map]; omega
          have hfh := hide hfin
          have hlow8 := hide hG.low8
          have hlow9 := hide hG.low9
          have hwrV : wr.heap.size ≤ V5.heap.size := (ext_trans hb34 hb5).size
          replace hub := hide hub
          replace hU1 := hide hU1
          replace hF := hide hF
          clear hrep1 hrep2 hparts hrow1 hG4 hbw6 hbr6 hfin hkp hpc
          unfold ruleV
          go_upto_region 17 with fail
          rw [hub.out, hU1.out]
          have hfin := hfh.out
          clear hfh
          have hBx := Nat.le_trans hbr.size hbX1.size
          go_wp2_with fail
          refine hfin.mono ?_
          rintro e w8 ⟨ho8, hm8⟩
          have hub1 := hub.out
          have hbX8 : Below wr.heap.size wr w8 := hbX1.trans (Only.below ho8 (by omega) hbX1.size)
          have hG8 := hG.later hbX8
          have hbr8 := hide (ext_trans hbr hbX8)
          have hB8 : W2.heap.size ≤ w8.heap.size := hbr8.out.size
          clear hfin g0 g1 g2 g3 hgl hbX1
          cases F with
          | error cc =>
            obtain ⟨hcc, rfl⟩ := hm8
            have hsb := step_fin (d := d) (sl := sl) (b := b) (m := m) (wk := wk) hline hF.out st
            rw [← hstep, hct] at hsb
            have hpt : probT (j + 1, 0, cc) = ((j : Int) + 1, 0, cc) := by unfold probT; simp
            have hc1 : (cc != 0) = true := by rw [bne_iff_ne]; exact hcc
            have hc2 : (cc == 0) = false := by rw [beq_eq_false_iff_ne]; exact hcc
            replace hpt := hide hpt
            replace hcc := hide hcc
            replace hG := hide hG
            replace hG8 := hide hG8
            go_wp2_with (at_builtin; refine wpList_prob (B := W2.heap.size) rfl _ _ rfl rfl (hG8.out.later (ext_alloc (Below.refl _ _) _)).ps hpl2 ⟨w8.heap.size, 0, none⟩ 1 rfl ((j : Int) + 1, 0, cc) (new_prob _ _ _ _ _) ?c1 ?_)
            case c1 => rw [World.size_alloc]; exact Nat.le_succ_of_le hbr8.out.size
            intro g5 c5 w5 hown5 hgr5 hwh5
            have hG5 := hide (hG8.out.prob1 hown5 hgr5 (by simpa using hwh5))
            have hb5 := hide (prob1_below hbr8.out hG8.out hgr5)
            clear hown5 hgr5 hwh5
            go_wp2
            go_roundw
            case rel => exact ⟨j + 1, by rw [hlen.out]; omega, by go_num, by rw [hsb]; show GathR W2.heap.size _ _ _ st.1 (List.map probT (st.2.1 ++ [_])); rw [List.map_append, List.map_singleton, hpt.out]; exact hG5.out, hb5.out⟩
            case measure => simp [intOf]; omega
          | ok r =>
            obtain ⟨rfl, vs, hvs, hrp⟩ := hm8
            have hsb := step_rule (d := d) (sl := sl) (b := b) (m := m) (wk := wk) hline hF.out st
            rw [← hstep, hct] at hsb
            obtain ⟨f0, f1, fA, fl, fc, s0, s1, sA, sl', sc, tA, tc, rA, rc, rfl, -⟩ := id hrp
            obtain ⟨nm, hnm⟩ : ∃ nm, r.name = nm := ⟨_, rfl⟩
            obtain ⟨wt, hwt⟩ : ∃ wt, r.weight = wt := ⟨_, rfl⟩
            obtain ⟨kd, hkd⟩ : ∃ kd, r.kind = kd := ⟨_, rfl⟩
            obtain ⟨nn, hnn⟩ : ∃ nn, r.n = nn := ⟨_, rfl⟩
            obtain ⟨tl, htl⟩ : ∃ tl, r.times.length = tl := ⟨_, rfl⟩
            obtain ⟨rl, hrl⟩ : ∃ rl, r.rooms.length = rl := ⟨_, rfl⟩
            have hput : [Value.string (putL r (j + 1)).name, .int .i64 (putL r (j + 1)).weight, .int .i64 (putL r (j + 1)).kind, .int .i64 f0, .string f1, .slice fA fl fc, .int .i64 s0, .string s1, .slice sA sl' sc, .int .i64 (putL r (j + 1)).n, .slice tA (putL r (j + 1)).times.length tc, .slice rA (putL r (j + 1)).rooms.length rc, .int .i64 (putL r (j + 1)).line] = [.string nm, .int .i64 wt, .int .i64 kd, .int .i64 f0, .string f1, .slice fA fl fc, .int .i64 s0, .string s1, .slice sA sl' sc, .int .i64 nn, .slice tA tl tc, .slice rA rl rc, .int .i64 ((j : Int) + 1)] := by
              show [Value.string r.name, .int .i64 r.weight, .int .i64 r.kind, .int .i64 f0, .string f1, .slice fA fl fc, .int .i64 s0, .string s1, .slice sA sl' sc, .int .i64 r.n, .slice tA r.times.length tc, .slice rA r.rooms.length rc, .int .i64 ((j + 1 : Nat) : Int)] = _
              rw [hnm, hwt, hkd, hnn, htl, hrl]
              rfl
            rw [hput] at hvs hrp
            rw [hnm] at hsb
            obtain ⟨A8, c8, hv8, hcap8, hat8⟩ := hG8.rs.at
            have hn0 := hvs.get (j := 0) rfl
            have hcall := ruleHas_walk A8 st.1 c8 nm ub w8 (by omega) (hat8.more fun _ _ => trivial) hn0
            subst hv8
            obtain ⟨H, hH⟩ : ∃ H, hasN nm st.1 = H := ⟨_, rfl⟩
            rw [hH] at hcall hsb
            have hmf : ∀ (fn : Fn) (first cap : Array Value) (w : World), (Instr.makeFunc fn first cap).run Tryz.prog w = .ok (.func fn first cap) w := fun _ _ _ _ => rfl
            have hvsh := hide hvs
            have hrph := hide hrp
            replace hG := hide hG
            replace hG8 := hide hG8
            clear hvs hrp hput hnm hwt hkd hnn htl hrl hat8 hn0 hH
            go_wp2_with fail
            refine hcall.mono ?_
            rintro e w9 ⟨rfl, hb9⟩
            have hG9 := hide (hG8.out.later hb9)
            have hbr9 := hide (ext_trans hbr8.out hb9)
            have hpt11 : Hid (probT (j + 1, 0, 11) = ((j : Int) + 1, 0, 11)) := hide (by unfold probT; simp)
            have hpt2 : Hid (probT (j + 1, 0, 2) = ((j : Int) + 1, 0, 2)) := hide (by unfold probT; simp)
            clear hcall
            cases H with
            | true =>
              rw [if_pos rfl] at hsb
              go_wp2_with (at_builtin; refine wpList_prob (B := W2.heap.size) rfl _ _ rfl rfl (hG9.out.later (ext_alloc (Below.refl _ _) _)).ps hpl2 ⟨w9.heap.size, 0, none⟩ 1 rfl ((j : Int) + 1, 0, 11) (new_prob _ _ _ _ _) ?c1 ?_)
              case c1 => rw [World.size_alloc]; exact Nat.le_succ_of_le hbr9.out.size
              intro g5 c5 w5 hown5 hgr5 hwh5
              have hG5 := hide (hG9.out.prob1 hown5 hgr5 (by simpa using hwh5))
              have hb5 := hide (prob1_below hbr9.out hG9.out hgr5)
              clear hown5 hgr5 hwh5
              go_wp2
              go_roundw
              case rel => exact ⟨j + 1, by rw [hlen.out]; omega, by go_num, by rw [hsb]; show GathR W2.heap.size _ _ _ st.1 (List.map probT (st.2.1 ++ [_])); rw [List.map_append, List.map_singleton, hpt11.out]; exact hG5.out, hb5.out⟩
              case measure => simp [intOf]; omega
            | false =>
              rw [if_neg (by decide)] at hsb
              by_cases h48 : 48 ≤ st.1.length
              · have h48i : (48 : Int) ≤ (st.1.length : Int) := by omega
                rw [if_pos h48] at hsb
                go_wp2_with (at_builtin; refine wpList_prob (B := W2.heap.size) rfl _ _ rfl rfl (hG9.out.later (ext_alloc (Below.refl _ _) _)).ps hpl2 ⟨w9.heap.size, 0, none⟩ 1 rfl ((j : Int) + 1, 0, 2) (new_prob _ _ _ _ _) ?c1 ?_)
                case c1 => rw [World.size_alloc]; exact Nat.le_succ_of_le hbr9.out.size
                intro g5 c5 w5 hown5 hgr5 hwh5
                have hG5 := hide (hG9.out.prob1 hown5 hgr5 (by simpa using hwh5))
                have hb5 := hide (prob1_below hbr9.out hG9.out hgr5)
                clear hown5 hgr5 hwh5
                go_wp2
                go_roundw
                case rel => exact ⟨j + 1, by rw [hlen.out]; omega, by go_num, by rw [hsb]; show GathR W2.heap.size _ _ _ st.1 (List.map probT (st.2.1 ++ [_])); rw [List.map_append, List.map_singleton, hpt2.out]; exact hG5.out, hb5.out⟩
                case measure => simp [intOf]; omega
              · have h48i : ¬ (48 : Int) ≤ (st.1.length : Int) := by omega
                rw [if_neg h48] at hsb
                have hvs9 := hvsh.out.later hb9
                have a0 := hvs9.get (j := 0) rfl
                have a1 := hvs9.get (j := 1) rfl
                have a2 := hvs9.get (j := 2) rfl
                have a3 := hvs9.get (j := 3) rfl
                have a4 := hvs9.get (j := 4) rfl
                have a5 := hvs9.get (j := 5) rfl
                have a6 := hvs9.get (j := 6) rfl
                have a7 := hvs9.get (j := 7) rfl
                have a8 := hvs9.get (j := 8) rfl
                have a9 := hvs9.get (j := 9) rfl
                have a10 := hvs9.get (j := 10) rfl
                have a11 := hvs9.get (j := 11) rfl
                have a12 := hvs9.get (j := 12) rfl
                have hul := hvs9.lt
                have hs9 := hb9.size
                have hs8 := ho8.size
                have hrp9 : kRule.rep (fun x => W2.heap.size ≤ x ∧ ¬ u9.ownBlock = some x ∧ some x ≠ (Value.slice A8 st.1.length c8).ownBlock) (w9.alloc (.cells #[.string nm, .int .i64 wt, .int .i64 kd, .int .i64 f0, .string f1, .slice fA fl fc, .int .i64 s0, .string s1, .slice sA sl' sc, .int .i64 nn, .slice tA tl tc, .slice rA rl rc, .int .i64 ((j : Int) + 1)] 43)) (putL r (j + 1)) [.string nm, .int .i64 wt, .int .i64 kd, .int .i64 f0, .string f1, .slice fA fl fc, .int .i64 s0, .string s1, .slice sA sl' sc, .int .i64 nn, .slice tA tl tc, .slice rA rl rc, .int .i64 ((j : Int) + 1)] := by
                  refine kRule.kept hrph.out fun x hx hlt => ?_
                  have hxV : V5.heap.size ≤ x := by
                    rcases hx.1 with h | h
                    · exact h.1
                    · have := ho6.size; have := hbU1.size; omega
                  refine ⟨⟨Nat.le_trans hbr.size (Nat.le_trans hwrV hxV), fun e => ?_, fun e => ?_⟩, by rw [World.size_alloc]; omega, (Below.heap_alloc _ _ _ (by omega)).trans (hb9.block x hlt)⟩
                  · have := (hlow9.out x e).2; omega
                  · have := (hlow8.out x e.symm).2; omega
                replace h48 := hide h48
                go_wp2_with (at_builtin; refine wpList_ownX (K := kRule) (t := 43) (X := fun x => u9.ownBlock = some x) (B := W2.heap.size) rfl _ _ rfl apd_rules (by decide) rfl (hG9.out.later (ext_alloc (Below.refl _ _) _)).rs ?c1 (by decide) ⟨w9.heap.size, 0, none⟩ 1 rfl (putL r (j + 1)) [.string nm, .int .i64 wt, .int .i64 kd, .int .i64 f0, .string f1, .slice fA fl fc, .int .i64 s0, .string s1, .slice sA sl' sc, .int .i64 nn, .slice tA tl tc, .slice rA rl rc, .int .i64 ((j : Int) + 1)] hrp9 (World.news_of_block (cs := #[.string nm, .int .i64 wt, .int .i64 kd, .int .i64 f0, .string f1, .slice fA fl fc, .int .i64 s0, .string s1, .slice sA sl' sc, .int .i64 nn, .slice tA tl tc, .slice rA rl rc, .int .i64 ((j : Int) + 1)]) (t := 43) (fr := (0, 0)) (heap_alloc_new _ _)) ?c2 ?_)
                case c1 => omega
                case c2 => rw [World.size_alloc]; exact Nat.le_succ_of_le hbr9.out.size
                intro v5 w5 hX5 hgr5 g9 c9 hv9 hform5
                have hG5 := hide (hG9.out.rule1 hX5 hgr5)
                have hb5 := hide (rule1_below hbr9.out hG9.out hgr5)
                clear hform5
                subst hv9
                clear hX5 hgr5 hrp9
                go_wp2
                go_roundw
                case rel => exact ⟨j + 1, by rw [hlen.out]; omega, by go_num, by rw [hsb]; exact hG5.out, hb5.out⟩
                case measure => simp [intOf]; omega
      · have hnone : lineP gramT z = none := line_none (by
          rw [hT]
          intro h
          have h2 := hE2.out
          rw [decide_eq_true h] at h2
          cases h2)
        have hsb := step_none (d := d) (sl := sl) (b := b) (m := m) (wk := wk) hnone st
        rw [← hstep, hct] at hsb
        replace hsb := hide hsb
        clear hnone hcut hE2
        go_wp2
        go_roundw
        case rel => exact ⟨j + 1, by rw [hlen.out]; omega, by go_num, by rw [hsb.out]; exact hG4, hbr4⟩
        case measure => simp [intOf]; omega
    · obtain rfl : j = N := by omega
      have hall : lines.take j = lines := by rw [← hlen.out]; exact List.take_length
      rw [hall] at hG
      have hfin : Hid (ParsG ((rulesS d sl b m wk lines).1, (rulesS d sl b m wk lines).2.1.map probT) w (.returned (.tuple #[u8, u9])) wr) := hide ⟨u8, u9, rfl, hG.rs.lower hbW.size, owns_lower hG.ps hbW.size, ext_trans hbW hbr⟩
      clear hG hbr hbW hst0 bG2 hS2 hrow hst
      go_wp2
      go_ret2
      exact hfin.out
end Go.Proofs.YtdnnahdafhddlaaGreatDoor

namespace Go.Proofs.YtdnnahdafhddlaaGreatDoor
open Go.RowKit
set_option maxRecDepth 100000

def Ag13 (v : Value) : Prop := ∃ (n f1 s1 : ByteArray) (wt k f0 s0 m ln : Int) (fA sA tA rA : Option Addr) (fl fc sl sc tl tc rl rc : Nat), v = .agg #[.string n, .int .i64 wt, .int .i64 k, .int .i64 f0, .string f1, .slice fA fl fc, .int .i64 s0, .string s1, .slice sA sl sc, .int .i64 m, .slice tA tl tc, .slice rA rl rc, .int .i64 ln]
abbrev prV (c k : Int) : Value := .agg #[.int .i64 0, .int .i64 0, .int .i64 c, .int .i64 k]
abbrev ruZ : Value := ruleV ⟨#[]⟩ 0 0 0 ⟨#[]⟩ (.slice none 0 0) 0 ⟨#[]⟩ (.slice none 0 0) 0
/-- What the reference says of a line. -/
def LineG (d sl b m wk : Int) (s : ByteArray) (w : World) (en : Ending) (w' : World) : Prop :=
  Below w.heap.size w w' ∧ match lineP gramT s with
    | none => en = .returned (.tuple #[ruZ, prV 0 0])
    | some (.error y) => y.2 ≠ 0 ∧ ∃ v, Ag13 v ∧ en = .returned (.tuple #[v, prV ((y.1 : Int) + 1) y.2])
    | some (.ok u) => match finR d sl b m wk 0 u with
      | .error c => c ≠ 0 ∧ ∃ v, Ag13 v ∧ en = .returned (.tuple #[v, prV 0 c])
      | .ok r => ∃ x0 x1 x2 x3 x4 x5 x6 x7 x8 x9 x10 x11 x12, en = .returned (.tuple #[.agg #[x0, x1, x2, x3, x4, x5, x6, x7, x8, x9, x10, x11, x12], prV 0 0]) ∧ kRule.rep (fun b => w.heap.size ≤ b) w' r [x0, x1, x2, x3, x4, x5, x6, x7, x8, x9, x10, x11, x12]
theorem end_line {fn : Func} {p u : Tmp} (hr : fn.results = #[.cell p 43, .cell u 55]) {Q : Ending → World → Prop} {act : Act} {w : World} (g q : Nat) {v1 v2 : Value} (hd : act.defers = [])
    (hp : act.tmps.getD p undef = .pointer (some ⟨g, 0, none⟩)) (hu : act.tmps.getD u undef = .pointer (some ⟨q, 0, none⟩))
    (h1 : (loadVar 43 ⟨g, 0, none⟩).run Tryz.prog w = .ok v1 w) (h2 : (loadVar 55 ⟨q, 0, none⟩).run Tryz.prog w = .ok v2 w)
    (hQ : Q (.returned (.tuple #[v1, v2])) w) : bodyPost Tryz.prog fn Q .ret act w := by
  refine bodyPost_ret (v := .tuple #[v1, v2]) ?_ hd hQ
  simp only [results, hr]
  simp [Sem.run_bind, Result.andThen, -Array.getD_eq_getD_getElem?]
  rw [hp]
  simp only [asAddr, Sem.run_pure]
  rw [h1]
  simp only [hu, Sem.run_pure]
  rw [h2]
theorem load4p {w : World} {g : Nat} {a b c d : Value} (h : RowV 55 w g [a, b, c, d]) : (loadVar 55 ⟨g, 0, none⟩).run Tryz.prog w = .ok (.agg #[a, b, c, d]) w := by
  have h0 := h.get (j := 0) rfl
  have h1 := h.get (j := 1) rfl
  have h2 := h.get (j := 2) rfl
  have h3 := h.get (j := 3) rfl
  simp [go_sem, h0, h1, h2, h3]
theorem joinP_step {ps : List ByteArray} {j : Nat} {z : ByteArray} (h : ps[j]? = some z) : joinP (ps.take (j + 1)) = if j = 0 then z else (joinP (ps.take j) ++ ⟨#[59]⟩) ++ z := by
  have hj := (List.getElem?_eq_some_iff.1 h).1
  rw [List.take_add_one, h]
  apply ByteArray.ext
  apply Array.toList_inj.1
  by_cases h0 : j = 0
  · subst h0
    rw [if_pos rfl]
    show (Lib.join ((ps.take 0 ++ [z]).map fun q : ByteArray => q.data.toList) [59]).toArray.toList = _
    rw [List.toList_toArray, List.take_zero, List.nil_append, List.map_singleton, Lib.join_one]
  · rw [if_neg h0]
    obtain ⟨x, r, hx⟩ : ∃ x r, ps.take j = x :: r := by
      cases hq : ps.take j with
      | nil => have h2 := congrArg List.length hq; rw [List.length_take, List.length_nil] at h2; omega
      | cons x r => exact ⟨x, r, rfl⟩
    rw [hx]
    rw [ByteArray.data_append, ByteArray.data_append, Array.toList_append, Array.toList_append]
    show (Lib.join (((x :: r) ++ [z]).map fun q : ByteArray => q.data.toList) [59]).toArray.toList = (Lib.join ((x :: r).map fun q : ByteArray => q.data.toList) [59]).toArray.toList ++ [59] ++ z.data.toList
    rw [List.toList_toArray, List.toList_toArray, List.cons_append, List.map_cons, List.map_cons, Lib.join_cons, Lib.join_cons]
    simp [Lib.joinTail]
theorem joinP_up (ps : List ByteArray) (j : Nat) : ∀ k, (joinP (ps.take j)).size ≤ (joinP (ps.take (j + k))).size
  | 0 => Nat.le_refl _
  | k + 1 => by
    refine Nat.le_trans (joinP_up ps j k) ?_
    cases hz : ps[j + k]? with
    | none => rw [← Nat.add_assoc, List.take_add_one, hz]; simp
    | some z =>
      rw [← Nat.add_assoc, joinP_step hz]
      by_cases h0 : j + k = 0
      · rw [h0]; exact Nat.zero_le _
      · rw [if_neg h0, ByteArray.size_append, ByteArray.size_append]; omega
theorem joinP_le (ps : List ByteArray) {j : Nat} (hj : j ≤ ps.length) : (joinP (ps.take j)).size ≤ (joinP ps).size := by
  have h := joinP_up ps j (ps.length - j)
  rwa [show j + (ps.length - j) = ps.length from by omega, List.take_length] at h
/-- Thirteen cells are written, then four of another block. -/
def set17 (V : World) (r q : Nat) (x0 x1 x2 x3 x4 x5 x6 x7 x8 x9 x10 x11 x12 y0 y1 y2 y3 : Value) : World :=
  ((((((((((((((((V.setCell ⟨r, 0, none⟩ x0).setCell ⟨r, 1, none⟩ x1).setCell ⟨r, 2, none⟩ x2).setCell ⟨r, 3, none⟩ x3).setCell ⟨r, 4, none⟩ x4).setCell ⟨r, 5, none⟩ x5).setCell ⟨r, 6, none⟩ x6).setCell ⟨r, 7, none⟩ x7).setCell ⟨r, 8, none⟩ x8).setCell ⟨r, 9, none⟩ x9).setCell ⟨r, 10, none⟩ x10).setCell ⟨r, 11, none⟩ x11).setCell ⟨r, 12, none⟩ x12).setCell ⟨q, 0, none⟩ y0).setCell ⟨q, 1, none⟩ y1).setCell ⟨q, 2, none⟩ y2).setCell ⟨q, 3, none⟩ y3
theorem set17_done {w V : World} {r q : Nat} {u0 u1 u2 u3 u4 u5 u6 u7 u8 u9 u10 u11 u12 z0 z1 z2 z3 : Value} (h1 : RowV 43 V r [u0, u1, u2, u3, u4, u5, u6, u7, u8, u9, u10, u11, u12]) (h2 : RowV 55 V q [z0, z1, z2, z3]) (hne : r ≠ q) (hb : Below w.heap.size w V) (hr : w.heap.size ≤ r) (hq : w.heap.size ≤ q) (x0 x1 x2 x3 x4 x5 x6 x7 x8 x9 x10 x11 x12 y0 y1 y2 y3 : Value) :
    RowV 43 (set17 V r q x0 x1 x2 x3 x4 x5 x6 x7 x8 x9 x10 x11 x12 y0 y1 y2 y3) r [x0, x1, x2, x3, x4, x5, x6, x7, x8, x9, x10, x11, x12] ∧ RowV 55 (set17 V r q x0 x1 x2 x3 x4 x5 x6 x7 x8 x9 x10 x11 x12 y0 y1 y2 y3) q [y0, y1, y2, y3] ∧
      Below w.heap.size w (set17 V r q x0 x1 x2 x3 x4 x5 x6 x7 x8 x9 x10 x11 x12 y0 y1 y2 y3) ∧ (set17 V r q x0 x1 x2 x3 x4 x5 x6 x7 x8 x9 x10 x11 x12 y0 y1 y2 y3).heap.size = V.heap.size ∧ ∀ c, c ≠ r → c ≠ q → (set17 V r q x0 x1 x2 x3 x4 x5 x6 x7 x8 x9 x10 x11 x12 y0 y1 y2 y3).heap[c]? = V.heap[c]? := by
  have stepR : ∀ {U : World} {vs ws : List Value} (j : Nat) (u : Value), RowV 43 U r vs ∧ RowV 55 U q ws ∧ Below w.heap.size w U ∧ U.heap.size = V.heap.size ∧ (∀ c, c ≠ r → c ≠ q → U.heap[c]? = V.heap[c]?) →
      RowV 43 (U.setCell ⟨r, j, none⟩ u) r (vs.set j u) ∧ RowV 55 (U.setCell ⟨r, j, none⟩ u) q ws ∧ Below w.heap.size w (U.setCell ⟨r, j, none⟩ u) ∧ (U.setCell ⟨r, j, none⟩ u).heap.size = V.heap.size ∧ (∀ c, c ≠ r → c ≠ q → (U.setCell ⟨r, j, none⟩ u).heap[c]? = V.heap[c]?) :=
    fun j u ⟨a1, a2, a3, a4, a5⟩ => ⟨a1.set j u, a2.other (Ne.symm hne), ext_set a3 hr u, by rw [← a4]; simp [World.setCell], fun c hc hc2 => (Below.heap_setCell _ _ _ c hc).trans (a5 c hc hc2)⟩
  have stepQ : ∀ {U : World} {vs ws : List Value} (j : Nat) (u : Value), RowV 43 U r vs ∧ RowV 55 U q ws ∧ Below w.heap.size w U ∧ U.heap.size = V.heap.size ∧ (∀ c, c ≠ r → c ≠ q → U.heap[c]? = V.heap[c]?) →
      RowV 43 (U.setCell ⟨q, j, none⟩ u) r vs ∧ RowV 55 (U.setCell ⟨q, j, none⟩ u) q (ws.set j u) ∧ Below w.heap.size w (U.setCell ⟨q, j, none⟩ u) ∧ (U.setCell ⟨q, j, none⟩ u).heap.size = V.heap.size ∧ (∀ c, c ≠ r → c ≠ q → (U.setCell ⟨q, j, none⟩ u).heap[c]? = V.heap[c]?) :=
    fun j u ⟨a1, a2, a3, a4, a5⟩ => ⟨a1.other hne, a2.set j u, ext_set a3 hq u, by rw [← a4]; simp [World.setCell], fun c hc hc2 => (Below.heap_setCell _ _ _ c hc2).trans (a5 c hc hc2)⟩
  exact stepQ 3 _ (stepQ 2 _ (stepQ 1 _ (stepQ 0 _ (stepR 12 _ (stepR 11 _ (stepR 10 _ (stepR 9 _ (stepR 8 _ (stepR 7 _ (stepR 6 _ (stepR 5 _ (stepR 4 _ (stepR 3 _ (stepR 2 _ (stepR 1 _ (stepR 0 _ ⟨h1, h2, hb, rfl, fun _ _ _ => rfl⟩))))))))))))))))
/-- What stays as it is while the reference reads a line: the grid, the results. -/
structure LnR (d sl b m : Int) (gb ub qb : Nat) (V : World) : Prop where
  grid : Box4 V gb (.int .i64 d) (.int .i64 sl) (.int .i64 b) (.int .i64 m)
  rule : RowV 43 V ub (ru0 ⟨#[]⟩ 0 0)
  prob : RowV 55 V qb [.int .i64 0, .int .i64 0, .int .i64 0, .int .i64 0]
section
variable {d sl b m : Int} {gb ub qb g : Nat} {V V' : World}
theorem LnR.later (h : LnR d sl b m gb ub qb V) (hb : Below V.heap.size V V') : LnR d sl b m gb ub qb V' := ⟨h.grid.later hb, h.rule.later hb, h.prob.later hb⟩
theorem LnR.only (h : LnR d sl b m gb ub qb V) (ho : Only g V V') (h1 : gb < g) (h2 : ub < g) (h3 : qb < g) : LnR d sl b m gb ub qb V' := ⟨h.grid.only ho (by omega), h.rule.only ho (by omega), h.prob.only ho (by omega)⟩
end
end Go.Proofs.YtdnnahdafhddlaaGreatDoor
