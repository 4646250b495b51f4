/- What is read ends in the text; how great a rule's parts can be (plain). No walk. The parts of a text in brackets are no greater than the text (plain). No walk. The grammar of rules: a text of lines (plain). No walk. A text of rules, line by line (plain). No walk. A line is cut at its remark and trimmed: in the words of the readers (plain); the kept rule's line. No walk. Walk of rulesyntax.Parse: the ways that read no line. Conditions: what the program's variables hold. The two rows that a reader of rules gathers, its rules and its problems: what keeps them, what is appended. No condition. Where an error is found: within the line (plain). No walk. -/
import Derived.Test.YtdnnahdafhddlaaGreatDoorUSynL
import Derived.Test.YtdnnahdafhddlaaGreatDoorUOwnX
namespace Go.Proofs.YtdnnahdafhddlaaGreatDoor
open Go.RowKit
set_option maxRecDepth 100000

theorem nextP_end {t : ByteArray} {e a b : Nat} {x : ByteArray × Nat} (ha : a ≤ t.size) (h : nextP t e a = .ok (x, b)) : b ≤ t.size := by
  unfold nextP at h
  cases hl : lookT t e a with
  | bad c => rw [hl] at h; cases h
  | tok y p =>
    have := look_in ha hl
    rw [hl] at h; injection h with h; injection h with _ h; omega
theorem needP_end {t k : ByteArray} {e a b : Nat} {u : Unit} (ha : a ≤ t.size) (h : needP t e k a = .ok (u, b)) : b ≤ t.size := by
  unfold needP at h
  cases hn : nextP t e a with
  | error y => rw [hn] at h; cases h
  | ok z =>
    obtain ⟨⟨x, p⟩, c⟩ := z
    rw [hn] at h
    have := nextP_end ha hn
    simp only at h
    (repeat' split at h) <;> first | (cases h; done) | (injection h with h; injection h with _ h; omega)
theorem identP_end {ok : ByteArray → Bool} {t : ByteArray} {e a b : Nat} {u : ByteArray} (ha : a ≤ t.size) (h : identP ok t e a = .ok (u, b)) : b ≤ t.size := by
  unfold identP at h
  cases hn : nextP t e a with
  | error y => rw [hn] at h; cases h
  | ok z =>
    obtain ⟨⟨x, p⟩, c⟩ := z
    rw [hn] at h
    have := nextP_end ha hn
    simp only at h
    (repeat' split at h) <;> first | (cases h; done) | (injection h with h; injection h with _ h; omega)
theorem weightP_end {G : Gram} {t : ByteArray} {e a b : Nat} {u : Nat} (ha : a ≤ t.size) (h : weightP G t e a = .ok (u, b)) : b ≤ t.size := by
  unfold weightP at h
  cases hn : nextP t e a with
  | error y => rw [hn] at h; cases h
  | ok z =>
    obtain ⟨⟨x, p⟩, c⟩ := z
    rw [hn] at h
    have := nextP_end ha hn
    simp only at h
    (repeat' split at h) <;> first | (cases h; done) | (injection h with h; injection h with _ h; omega)
theorem digP_end {G : Gram} {t : ByteArray} {e a b : Nat} {u : Nat} (ha : a ≤ t.size) (h : digP G t e a = .ok (u, b)) : b ≤ t.size := by
  unfold digP at h
  cases hn : nextP t e a with
  | error y => rw [hn] at h; cases h
  | ok z =>
    obtain ⟨⟨x, p⟩, c⟩ := z
    rw [hn] at h
    have := nextP_end ha hn
    simp only at h
    (repeat' split at h) <;> first | (cases h; done) | (injection h with h; injection h with _ h; omega)
theorem kindP_end {G : Gram} {t : ByteArray} {e a b : Nat} {u : Nat} (ha : a ≤ t.size) (h : kindP G t e a = .ok (u, b)) : b ≤ t.size := by
  unfold kindP at h
  cases hn : nextP t e a with
  | error y => rw [hn] at h; cases h
  | ok z =>
    obtain ⟨⟨x, p⟩, c⟩ := z
    rw [hn] at h
    have := nextP_end ha hn
    simp only at h
    (repeat' split at h) <;> first | (cases h; done) | (injection h with h; injection h with _ h; omega)
theorem numbP_end {G : Gram} {t : ByteArray} {e a b k : Nat} {u : Nat} (ha : a ≤ t.size) (h : numbP G t e k a = .ok (u, b)) : b ≤ t.size := by
  unfold numbP at h
  split at h
  · exact digP_end ha h
  · unfold pureP at h; injection h with h; injection h with _ h; omega
theorem moreP_end {t k : ByteArray} {e : Nat} {pp : Nat → Res Sel} {kind : Int} (hm : ∀ b s c, b ≤ t.size → pp b = .ok (s, c) → c ≤ t.size) : ∀ (n : Nat) (l : List Sel) (a b : Nat) (s : Sel), a ≤ t.size → moreP t e pp k kind n l a = .ok (s, b) → b ≤ t.size
  | 0, l, a, b, s, _, h => by
    unfold moreP at h
    split at h <;> cases h
  | n + 1, l, a, b, s, ha, h => by
    cases hl : lookT t e a with
    | bad c => rw [moreP_bad hl] at h; cases h
    | tok x p =>
      have h0 := look_in ha hl
      by_cases hx : x = k
      · rw [hx] at hl h0
        rw [moreP_yes hl] at h
        cases hp : pp (startT t a + k.size) with
        | error y => rw [hp] at h; cases h
        | ok z =>
          obtain ⟨s1, c⟩ := z
          rw [hp] at h
          exact moreP_end hm n _ _ _ _ (hm _ _ _ h0 hp) h
      · rw [moreP_no hl hx] at h
        injection h with h; injection h with _ h; omega
theorem serP_end {t k : ByteArray} {e : Nat} {pp : Nat → Res Sel} {kind : Int} (hm : ∀ b s c, b ≤ t.size → pp b = .ok (s, c) → c ≤ t.size) (a : Nat) (s : Sel) (b : Nat) (ha : a ≤ t.size) (h : serP t e pp k kind a = .ok (s, b)) : b ≤ t.size := by
  unfold serP at h
  cases hp : pp a with
  | error y => rw [hp] at h; cases h
  | ok z =>
    obtain ⟨s1, c⟩ := z
    rw [hp] at h
    exact moreP_end hm _ _ _ _ _ (hm _ _ _ ha hp) h
theorem atomP_end {ok : ByteArray → Bool} {ws : List ByteArray} {t : ByteArray} {e : Nat} : ∀ (f a : Nat) (s : Sel) (b : Nat), a ≤ t.size → atomP ok ws t e f a = .ok (s, b) → b ≤ t.size
  | 0, a, s, b, _, h => by
    unfold atomP at h
    split at h <;> cases h
  | f + 1, a, s, b, ha, h => by
    unfold atomP at h
    cases hn : nextP t e a with
    | error y => rw [hn] at h; cases h
    | ok z =>
      obtain ⟨⟨x, p⟩, c⟩ := z
      rw [hn] at h
      have h0 := nextP_end ha hn
      simp only at h
      split at h
      · cases hp : atomP ok ws t e f c with
        | error y => rw [hp] at h; cases h
        | ok z =>
          obtain ⟨s1, d⟩ := z
          rw [hp] at h
          have h1 := atomP_end f _ _ _ h0 hp
          injection h with h; injection h with _ h; omega
      · split at h
        · cases hp : serP t e (serP t e (atomP ok ws t e f) xAnd 8) xOr 9 c with
          | error y => rw [hp] at h; cases h
          | ok z =>
            obtain ⟨s1, d⟩ := z
            rw [hp] at h
            have h1 := serP_end (fun b s c hb h => serP_end (fun b s c hb h => atomP_end f b s c hb h) b s c hb h) _ _ _ h0 hp
            simp only at h
            cases hq : needP t e xShut d with
            | error y => rw [hq] at h; cases h
            | ok z =>
              obtain ⟨u, d2⟩ := z
              rw [hq] at h
              have h2 := needP_end h1 hq
              injection h with h; injection h with _ h; omega
        · split at h
          · injection h with h; injection h with _ h; omega
          · split at h
            · cases hq : identP ok t e c with
              | error y => rw [hq] at h; cases h
              | ok z =>
                obtain ⟨u, d2⟩ := z
                rw [hq] at h
                have h2 := identP_end h0 hq
                injection h with h; injection h with _ h; omega
            · cases h
theorem selP_end {G : Gram} {t : ByteArray} {e f a b : Nat} {s : Sel} (ha : a ≤ t.size) (h : selP G t e f a = .ok (s, b)) : b ≤ t.size :=
  serP_end (fun b s c hb h => serP_end (fun b s c hb h => atomP_end f b s c hb h) b s c hb h) _ _ _ ha h
/-- What a rule's parts hold. -/
theorem lastP_parts {G : Gram} {t : ByteArray} {e f k a b : Nat} {z : Sel × List ByteArray} (ha : a ≤ t.size) (hw : ∀ x ∈ G.ws, 1 ≤ x.size) (h : lastP G t e f k a = .ok (z, b)) : selSize z.1 ≤ t.size + 1 ∧ (z.2 = [] ∨ ∃ i j, z.2 = G.split (t.extract i j)) := by
  have hz : selSize zSel ≤ t.size + 1 := by unfold zSel; rw [selSize_mk]; simp [sumS]
  unfold lastP at h
  split at h
  · cases hn : needP t e xComma a with
    | error y => rw [hn] at h; cases h
    | ok w =>
      obtain ⟨u, b1⟩ := w
      rw [hn] at h
      simp only at h
      have h0 := needP_end ha hn
      cases hp : selP G t e f b1 with
      | error y => rw [hp] at h; cases h
      | ok w =>
        obtain ⟨s, c⟩ := w
        rw [hp] at h
        have h1 := selP_end h0 hp
        have h2 := selP_size hw _ _ _ _ hp
        injection h with h; injection h with h _; subst h
        exact ⟨by show selSize s ≤ _; omega, .inl rfl⟩
  · split at h
    · cases hn : needP t e xComma a with
      | error y => rw [hn] at h; cases h
      | ok w =>
        obtain ⟨u, b1⟩ := w
        rw [hn] at h
        simp only at h
        cases hp : brackP G t e b1 with
        | error y => rw [hp] at h; cases h
        | ok w =>
          obtain ⟨l, c⟩ := w
          rw [hp] at h
          injection h with h; injection h with h _; subst h
          refine ⟨hz, .inr ?_⟩
          unfold brackP at hp
          cases hq : nextP t e b1 with
          | error y => rw [hq] at hp; cases hp
          | ok w =>
            obtain ⟨⟨x, p⟩, d⟩ := w
            rw [hq] at hp
            simp only at hp
            (repeat' split at hp) <;> first | (cases hp; done) | (injection hp with hp; injection hp with hp _; exact ⟨_, _, hp.symm⟩)
    · injection h with h; injection h with h _; subst h
      exact ⟨hz, .inl rfl⟩
/-- What a rule that was read holds. -/
theorem ruleP_fits {G : Gram} {t : ByteArray} {e f a b : Nat} {u : RuleT} (ha : a ≤ t.size) (hw : ∀ x ∈ G.ws, 1 ≤ x.size) (h : ruleP G t e f a = .ok (u, b)) : selSize u.first ≤ t.size + 1 ∧ selSize u.second ≤ t.size + 1 ∧ (u.parts = [] ∨ ∃ i j, u.parts = G.split (t.extract i j)) := by
  unfold ruleP at h
  obtain ⟨nm, b1, h1, h⟩ := then_ok h
  obtain ⟨_, b2, h2, h⟩ := then_ok h
  obtain ⟨w, b3, h3, h⟩ := then_ok h
  obtain ⟨k, b4, h4, h⟩ := then_ok h
  obtain ⟨n, b5, h5, h⟩ := then_ok h
  obtain ⟨s, b6, h6, h⟩ := then_ok h
  unfold tailP at h
  obtain ⟨z, b7, h7, h⟩ := then_ok h
  obtain ⟨_, b8, h8, h⟩ := then_ok h
  have e5 := numbP_end (kindP_end (weightP_end (needP_end (identP_end ha h1) h2) h3) h4) h5
  have e6 := selP_end e5 h6
  have e7 := selP_size hw _ _ _ _ h6
  obtain ⟨l1, l2⟩ := lastP_parts e6 hw h7
  unfold pureP at h
  injection h with h
  injection h with h _
  subst h
  exact ⟨by show selSize s ≤ _; omega, l1, l2⟩
end Go.Proofs.YtdnnahdafhddlaaGreatDoor

namespace Go.Proofs.YtdnnahdafhddlaaGreatDoor
open Go.RowKit
set_option maxRecDepth 100000

theorem split_sum (c : UInt8) : ∀ l : List UInt8, Lib.lens (splitOn1 c l) + (splitOn1 c l).length = l.length + 1
  | [] => by simp [splitOn1, Lib.lens]
  | b :: r => by
    have ih := split_sum c r
    unfold splitOn1
    split
    · simp only [Lib.lens, List.map_cons, List.sum_cons, List.length_cons, List.length_nil] at ih ⊢
      omega
    · cases h : splitOn1 c r with
      | nil => exact absurd h (splitOn1_ne c r)
      | cons x t =>
        rw [h] at ih
        simp only [Lib.lens, List.map_cons, List.sum_cons, List.length_cons] at ih ⊢
        omega
theorem trim_len (l cut : List UInt8) : (Lib.trimS l cut).length ≤ l.length := by
  have hd : ∀ (p : UInt8 → Bool) (x : List UInt8), (x.dropWhile p).length ≤ x.length := fun p x => (List.dropWhile_sublist p).length_le
  unfold Lib.trimS Lib.trimLeftS Lib.trimRightS
  refine Nat.le_trans (hd _ _) ?_
  rw [List.length_reverse]
  refine Nat.le_trans (hd _ _) ?_
  rw [List.length_reverse]
  exact Nat.le_refl _
theorem lens_map {f : List UInt8 → List UInt8} (hf : ∀ x, (f x).length ≤ x.length) : ∀ l : List (List UInt8), Lib.lens (l.map f) ≤ Lib.lens l
  | [] => Nat.le_refl _
  | x :: r => by
    have := lens_map hf r
    have := hf x
    simp only [Lib.lens, List.map_cons, List.sum_cons] at *
    omega
theorem bracket_fits (s : ByteArray) : (∀ z ∈ bracketL s, z.size ≤ s.size) ∧ (bracketL s).length ≤ s.size + 1 ∧ (joinP (bracketL s)).size ≤ s.size + 1 := by
  have h1 := splitB_one 59 s
  obtain ⟨zs, hz⟩ : ∃ zs, Lib.splitB ⟨#[59]⟩ 0 (Lib.countB s ⟨#[59]⟩) s = zs := ⟨_, rfl⟩
  have hm : ∀ z ∈ zs, z.size ≤ s.size := fun z h => splitB_mem hz h
  have hb : bracketL s = zs.map trimB := by unfold bracketL; rw [hz]
  rw [hz] at h1
  have hsum := split_sum 59 s.data.toList
  rw [← h1, List.length_map, ba_len] at hsum
  have ht : ∀ z : ByteArray, (trimB z).data.toList = Lib.trimS z.data.toList [32] := fun z => rfl
  rw [hb]
  refine ⟨fun z h => ?_, by rw [List.length_map]; omega, ?_⟩
  · obtain ⟨y, hy, rfl⟩ := List.mem_map.1 h
    have := trim_len y.data.toList [32]
    rw [← ht, ba_len, ba_len] at this
    exact Nat.le_trans this (hm y hy)
  · have e : (zs.map trimB).map (·.data.toList) = (zs.map (·.data.toList)).map (fun x => Lib.trimS x [32]) := by simp [List.map_map, Function.comp_def, ht]
    have hl := lens_map (fun x => trim_len x [32]) (zs.map (·.data.toList))
    have : (joinP (zs.map trimB)).size = (Lib.join ((zs.map trimB).map (·.data.toList)) [59]).length := by simp [joinP, ByteArray.size]
    rw [this, e]
    cases hq : (zs.map (·.data.toList)).map (fun x => Lib.trimS x [32]) with
    | nil => simp [Lib.join_nil]
    | cons x r =>
      have hlen : r.length + 1 = zs.length := by
        have := congrArg List.length hq
        simpa using this.symm
      rw [Lib.join_length]
      rw [hq] at hl
      simp only [List.length_singleton, Nat.one_mul]
      omega
end Go.Proofs.YtdnnahdafhddlaaGreatDoor

namespace Go.Proofs.YtdnnahdafhddlaaGreatDoor
set_option maxRecDepth 100000

/-- A problem: its line, its column (0: none), its error. -/
abbrev PrbT := Nat × Nat × Int
/-- What one more line adds: `fin` gives a rule's first error, or the rule as it is kept; rules are told apart by their names; no more than `most`. -/
def lineStep {ρ : Type} (G : Gram) (fin : RuleT → Except Int ρ) (name : ρ → ByteArray) (put : ρ → Nat → ρ) (most : Nat) (st : List ρ × List PrbT × Nat) (s : ByteArray) : List ρ × List PrbT × Nat :=
  match lineP G s with
  | none => (st.1, st.2.1, st.2.2 + 1)
  | some (.error y) => (st.1, st.2.1 ++ [(st.2.2 + 1, y.1 + 1, y.2)], st.2.2 + 1)
  | some (.ok u) =>
    match fin u with
    | .error c => (st.1, st.2.1 ++ [(st.2.2 + 1, 0, c)], st.2.2 + 1)
    | .ok r =>
      if st.1.any (fun x => decide (name x = name r)) then (st.1, st.2.1 ++ [(st.2.2 + 1, 0, 11)], st.2.2 + 1)
      else if most ≤ st.1.length then (st.1, st.2.1 ++ [(st.2.2 + 1, 0, 2)], st.2.2 + 1)
      else (st.1 ++ [put r (st.2.2 + 1)], st.2.1, st.2.2 + 1)
def rulesOf {ρ : Type} (G : Gram) (fin : RuleT → Except Int ρ) (name : ρ → ByteArray) (put : ρ → Nat → ρ) (most : Nat) (lines : List ByteArray) : List ρ × List PrbT × Nat :=
  lines.foldl (lineStep G fin name put most) ([], [], 0)
/-- An empty line adds nothing. -/
theorem line_empty (G : Gram) : lineP G ⟨#[]⟩ = none := by
  unfold lineP
  have h : (readT (⟨#[]⟩ : ByteArray)).size = 0 := by
    unfold readT
    rw [ByteArray.size_extract]
    have : (⟨#[]⟩ : ByteArray).size = 0 := rfl
    omega
  rw [if_neg (by omega)]
theorem parse_last {ρ : Type} (G : Gram) (fin : RuleT → Except Int ρ) (name : ρ → ByteArray) (put : ρ → Nat → ρ) (most : Nat) (lines : List ByteArray) :
    (rulesOf G fin name put most (lines ++ [⟨#[]⟩])).1 = (rulesOf G fin name put most lines).1 ∧ (rulesOf G fin name put most (lines ++ [⟨#[]⟩])).2.1 = (rulesOf G fin name put most lines).2.1 := by
  unfold rulesOf
  rw [List.foldl_append]
  simp [lineStep, line_empty]
end Go.Proofs.YtdnnahdafhddlaaGreatDoor

namespace Go.Proofs.YtdnnahdafhddlaaGreatDoor
open Go.RowKit
set_option maxRecDepth 100000

section
variable {ρ : Type} (G : Gram) (fin : RuleT → Except Int ρ) (name : ρ → ByteArray) (put : ρ → Nat → ρ) (most : Nat)
theorem rules_step {lines : List ByteArray} {j : Nat} {s : ByteArray} (h : lines[j]? = some s) : rulesOf G fin name put most (lines.take (j + 1)) = lineStep G fin name put most (rulesOf G fin name put most (lines.take j)) s := by
  unfold rulesOf
  rw [List.take_add_one, h, List.foldl_append]
  rfl
theorem step_count (st : List ρ × List PrbT × Nat) (s : ByteArray) : (lineStep G fin name put most st s).2.2 = st.2.2 + 1 := by
  unfold lineStep
  repeat' split
  all_goals rfl
theorem step_len (st : List ρ × List PrbT × Nat) (s : ByteArray) : st.1.length ≤ most → (lineStep G fin name put most st s).1.length ≤ most := by
  intro h
  unfold lineStep
  repeat' split
  all_goals first | exact h | (simp only [List.length_append, List.length_singleton]; omega)
theorem step_probs (st : List ρ × List PrbT × Nat) (s : ByteArray) : (lineStep G fin name put most st s).2.1.length ≤ st.2.1.length + 1 := by
  unfold lineStep
  repeat' split
  all_goals first | (show st.2.1.length ≤ _; omega) | (simp only [List.length_append, List.length_singleton]; omega)
theorem rules_told : ∀ (lines : List ByteArray) (st : List ρ × List PrbT × Nat), st.1.length ≤ most →
    (lines.foldl (lineStep G fin name put most) st).2.2 = st.2.2 + lines.length ∧ (lines.foldl (lineStep G fin name put most) st).1.length ≤ most ∧ (lines.foldl (lineStep G fin name put most) st).2.1.length ≤ st.2.1.length + lines.length
  | [], st, h => ⟨rfl, h, Nat.le_refl _⟩
  | s :: r, st, h => by
    obtain ⟨h1, h2, h3⟩ := rules_told r (lineStep G fin name put most st s) (step_len G fin name put most st s h)
    have h4 := step_count G fin name put most st s
    have h5 := step_probs G fin name put most st s
    rw [List.foldl_cons, List.length_cons]
    exact ⟨by omega, h2, by omega⟩
theorem rules_count (lines : List ByteArray) (j : Nat) (hj : j ≤ lines.length) : (rulesOf G fin name put most (lines.take j)).2.2 = j ∧ (rulesOf G fin name put most (lines.take j)).1.length ≤ most ∧ (rulesOf G fin name put most (lines.take j)).2.1.length ≤ j := by
  obtain ⟨h1, h2, h3⟩ := rules_told G fin name put most (lines.take j) ([], [], 0) (Nat.zero_le _)
  have hl : (lines.take j).length = j := by rw [List.length_take]; omega
  rw [hl] at h1 h3
  exact ⟨h1.trans (Nat.zero_add _), h2, Nat.le_trans h3 (Nat.le_of_eq (Nat.zero_add _))⟩
end
/-- What a line gives that was read by the program. -/
theorem line_none {G : Gram} {s : ByteArray} (h : ¬ startT (readT s) 0 < (readT s).size) : lineP G s = none := by unfold lineP; rw [if_neg h]
theorem line_some {G : Gram} {s : ByteArray} (h : startT (readT s) 0 < (readT s).size) : lineP G s = some (match ruleP G (readT s) s.size ((readT s).size + 1) 0 with | .error y => .error y | .ok (u, _) => .ok u) := if_pos h
theorem sel_words : ∀ x ∈ gramT.ws, 1 ≤ x.size := by decide
/-- What a rule that was read holds fits. -/
theorem rule_fits {t : ByteArray} {e f b : Nat} {u : RuleT} (ht : t.size ≤ 65536) (h : ruleP gramT t e f 0 = .ok (u, b)) :
    (selSize u.first ≤ 9223372036854775807 ∧ selSize u.second ≤ 9223372036854775807) ∧ u.parts.length ≤ 1000000 ∧ (∀ z ∈ u.parts, z.size < 1073741824) ∧ (joinP u.parts).size < 1073741824 := by
  obtain ⟨h1, h2, h3⟩ := ruleP_fits (Nat.zero_le _) sel_words h
  refine ⟨⟨by omega, by omega⟩, ?_⟩
  rcases h3 with h3 | ⟨i, j, h3⟩
  · rw [h3]; exact ⟨Nat.zero_le _, fun z h => (by cases h), by decide⟩
  · have hx : (t.extract i j).size ≤ t.size := by rw [ByteArray.size_extract]; omega
    obtain ⟨q1, q2, q3⟩ := bracket_fits (t.extract i j)
    have h3 : u.parts = bracketL (t.extract i j) := h3
    rw [h3]
    exact ⟨by omega, fun z hz => by have := q1 z hz; omega, by omega⟩
end Go.Proofs.YtdnnahdafhddlaaGreatDoor

namespace Go.Proofs.YtdnnahdafhddlaaGreatDoor
open Go.RowKit
set_option maxRecDepth 100000

/-- A line up to its remark. -/
theorem cut_read (s : ByteArray) : (Lib.cut s.data.toList [35]).1.toArray = (readT s).data := by
  have h := pass_cut 35 s _ 0 rfl (Nat.zero_le _)
  rw [List.drop_zero] at h
  rw [cut_eq, h]
  show ((s.extract 0 (passT (fun x => x != 35) s 0)).data.toList).toArray = _
  rw [Array.toArray_toList]
  rfl
theorem drop_nil {α : Type} (p : α → Bool) : ∀ l : List α, l.dropWhile p = [] ↔ ∀ x ∈ l, p x = true
  | [] => by simp
  | x :: r => by
    rw [List.dropWhile_cons]
    by_cases h : p x = true
    · rw [if_pos h, drop_nil p r]
      simp [h]
    · rw [if_neg h]
      simp [h]
theorem pass_all (p : UInt8 → Bool) (t : ByteArray) : ∀ (k a : Nat), t.size - a = k → a ≤ t.size → decide (passT p t a < t.size) = !((t.data.toList.drop a).all p)
  | 0, a, hk, ha => by
    have hl : t.data.toList.length = t.size := ba_len t
    rw [passT_end (by omega), List.drop_eq_nil_of_le (by omega)]
    simp
    omega
  | k + 1, a, hk, ha => by
    have hl : t.data.toList.length = t.size := ba_len t
    have hlt : a < t.size := by omega
    have hd : t.data.toList.drop a = t[a] :: t.data.toList.drop (a + 1) := by
      rw [List.drop_eq_getElem_cons (by omega)]
      congr 1
    rw [hd, List.all_cons]
    cases hc : p t[a] with
    | false =>
      rw [passT_stop hlt hc]
      simp [hlt]
    | true =>
      rw [passT_go hlt hc, pass_all p t k (a + 1) (by omega) (by omega)]
      simp
theorem trim_nil (l cs : List UInt8) : (Lib.trimS l cs).isEmpty = l.all (cs.contains ·) := by
  unfold Lib.trimS Lib.trimLeftS Lib.trimRightS
  rw [Bool.eq_iff_iff, List.isEmpty_iff, drop_nil]
  constructor
  · intro h
    have h0 : l.reverse.dropWhile (cs.contains ·) = [] := by
      cases hq : l.reverse.dropWhile (cs.contains ·) with
      | nil => rfl
      | cons x r =>
        have h1 := List.head_dropWhile_not (fun x => cs.contains x) (l := l.reverse) (by rw [hq]; simp)
        simp only [hq, List.head_cons] at h1
        have h2 := h x (by rw [hq]; simp)
        rw [h2] at h1
        cases h1
    rw [drop_nil] at h0
    rw [List.all_eq_true]
    exact fun x hx => h0 x (List.mem_reverse.2 hx)
  · intro h x hx
    rw [List.all_eq_true] at h
    have := (List.dropWhile_sublist _).subset (List.mem_reverse.1 hx)
    exact h x (List.mem_reverse.1 this)
/-- Something stands on a line. -/
theorem trim_start (t : ByteArray) : (Lib.trimS t.data.toList [32, 9]).isEmpty = !decide (startT t 0 < t.size) := by
  have h := pass_all blankC t _ 0 rfl (Nat.zero_le _)
  rw [List.drop_zero] at h
  unfold startT
  rw [h, trim_nil, Bool.not_not]
  congr 1
  funext x
  show (x == 32 || (x == 9 || false)) = (x == 32 || x == 9)
  rw [Bool.or_false]
def putL (r : RuleD) (n : Nat) : RuleD := { r with line := n }
theorem rule_line {d sl b m wk : Int} {u : RuleT} {ts : List T4} {rs : List ByteArray} {n : Nat} : ruleE d sl b m wk (ruleOf u n ts rs) = ruleE d sl b m wk (ruleOf u 0 ts rs) := by
  have h1 : selectedB (ruleOf u n ts rs) = selectedB (ruleOf u 0 ts rs) := rfl
  have h2 : listedE d sl b m wk (ruleOf u n ts rs) = listedE d sl b m wk (ruleOf u 0 ts rs) := rfl
  unfold ruleE
  rw [h1, h2]
  have h3 : ¬ (ruleOf u n ts rs).line < 0 := by show ¬ ((n : Int) < 0); omega
  have h4 : ¬ (ruleOf u 0 ts rs).line < 0 := by show ¬ ((0 : Int) < 0); omega
  rw [if_neg h3, if_neg h4]
  rfl
/-- finish with the line is finish without it, and the line put. -/
theorem fin_line (d sl b m wk : Int) (u : RuleT) (n : Nat) : finR d sl b m wk n u = (match finR d sl b m wk 0 u with | .error c => .error c | .ok r => .ok (putL r n)) := by
  have hc : ∀ ts rs, checkR d sl b m wk (ruleOf u n ts rs) = (match checkR d sl b m wk (ruleOf u 0 ts rs) with | .error c => .error c | .ok r => .ok (putL r n)) := by
    intro ts rs
    unfold checkR
    rw [rule_line]
    split <;> rfl
  unfold finR
  by_cases h10 : u.kind = 10
  · rw [if_pos h10, if_pos h10]
    by_cases h : firstE (pieceE d sl b m wk) u.parts = 0
    · rw [if_pos h, if_pos h]; exact hc _ _
    · rw [if_neg h, if_neg h]
  · rw [if_neg h10, if_neg h10]
    by_cases h11 : u.kind = 11
    · rw [if_pos h11, if_pos h11]
      by_cases h : (listV (joinP u.parts)).1 = 0
      · rw [if_pos h, if_pos h]; exact hc _ _
      · rw [if_neg h, if_neg h]
    · rw [if_neg h11, if_neg h11]; exact hc _ _
end Go.Proofs.YtdnnahdafhddlaaGreatDoor

namespace Go.Proofs.YtdnnahdafhddlaaGreatDoor
open Go.RowKit
set_option maxRecDepth 100000

def probT (p : PrbT) : Prob := ((p.1 : Int), (p.2.1 : Int), p.2.2)
/-- A text of rules as data: its rules, its problems. -/
def rulesT (d sl b m wk : Int) (s : ByteArray) : List RuleD × List Prob :=
  if weekB d sl b m wk = false then ([], [(0, 0, 1)]) else if 65536 < s.size then ([], [(0, 0, 2)])
  else ((rulesOf gramT (finR d sl b m wk 0) RuleD.name putL 48 (Lib.splitB ⟨#[10]⟩ 0 (Lib.countB s ⟨#[10]⟩) s)).1, (rulesOf gramT (finR d sl b m wk 0) RuleD.name putL 48 (Lib.splitB ⟨#[10]⟩ 0 (Lib.countB s ⟨#[10]⟩) s)).2.1.map probT)
def ParsG (r : List RuleD × List Prob) (w : World) (en : Ending) (w' : World) : Prop :=
  ∃ v8 v9, en = .returned (.tuple #[v8, v9]) ∧ OwnX kRule 43 (fun x => v9.ownBlock = some x) w.heap.size w' v8 r.1 ∧ ProbsOwn w.heap.size w' v9 r.2 ∧ Below w.heap.size w w'
theorem probs_laid {B : Nat} {w : World} (p : Prob) (hB : B ≤ w.heap.size) : ProbsOwn B (w.alloc (.cells #[.int .i64 0, .int .i64 p.1, .int .i64 p.2.1, .int .i64 p.2.2] 55)) (.slice (some ⟨w.heap.size, 0, none⟩) 1 1) [p] :=
  ⟨rfl, .inr ⟨w.heap.size, 1, _, rfl, hB, heap_alloc_new w _, Nat.le_refl _, by unfold maxLen; omega, rfl, rfl⟩⟩
set_option maxHeartbeats 2000000 in
theorem parse_noweek14 (d sl b m wk : Int) (s : ByteArray) (h : weekB d sl b m wk = false) (w : World) :
    Calls Tryz.prog 20 #[.string s, .agg #[.int .i64 d, .int .i64 sl, .int .i64 b, .int .i64 m], .int .i64 wk] w fun en w' => ParsG (rulesT d sl b m wk s) w en w' := by
  have hr : rulesT d sl b m wk s = ([], [(0, 0, 1)]) := by unfold rulesT; rw [if_pos h]
  rw [hr]
  have hwk := tgWeek_walk d sl b m wk (w.alloc (.cells #[.int .i64 d, .int .i64 sl, .int .i64 b, .int .i64 m] 23))
  rw [h] at hwk
  have hb0 : Below w.heap.size w (w.alloc (.cells #[.int .i64 d, .int .i64 sl, .int .i64 b, .int .i64 m] 23)) := (by repeat (first | exact Below.refl _ _ | refine ext_alloc ?_ _ | refine ext_drewN ?_ _ | refine ext_drew ?_ | refine ext_trans ?_ (by assumption)))
  go_enter Tryz.func20, Tryz.ntmps20
  go_wp2_with fail
  refine hwk.mono ?_
  rintro e w1 ⟨rfl, hb1⟩
  have hb := ext_trans hb0 hb1
  clear hwk hb0 hb1
  go_wp2
  go_ret2
  exact ⟨_, _, rfl, OwnX.nil, probs_laid (0, 0, 1) hb.size, ext_alloc hb _⟩
set_option maxHeartbeats 2000000 in
theorem parse_long14 (d sl b m wk : Int) (s : ByteArray) (h : weekB d sl b m wk = true) (hs : 65536 < s.size) (hs2 : s.size ≤ 9223372036854775807) (w : World) :
    Calls Tryz.prog 20 #[.string s, .agg #[.int .i64 d, .int .i64 sl, .int .i64 b, .int .i64 m], .int .i64 wk] w fun en w' => ParsG (rulesT d sl b m wk s) w en w' := by
  have hr : rulesT d sl b m wk s = ([], [(0, 0, 2)]) := by unfold rulesT; rw [if_neg (by rw [h]; decide), if_pos hs]
  rw [hr]
  have hwk := tgWeek_walk d sl b m wk (w.alloc (.cells #[.int .i64 d, .int .i64 sl, .int .i64 b, .int .i64 m] 23))
  rw [h] at hwk
  have hb0 : Below w.heap.size w (w.alloc (.cells #[.int .i64 d, .int .i64 sl, .int .i64 b, .int .i64 m] 23)) := (by repeat (first | exact Below.refl _ _ | refine ext_alloc ?_ _ | refine ext_drewN ?_ _ | refine ext_drew ?_ | refine ext_trans ?_ (by assumption)))
  have hsi : (65536 : Int) < (s.size : Int) := by omega
  go_enter Tryz.func20, Tryz.ntmps20
  go_wp2_with fail
  refine hwk.mono ?_
  rintro e w1 ⟨rfl, hb1⟩
  have hb := ext_trans hb0 hb1
  clear hwk hb0 hb1
  go_wp2
  go_ret2
  exact ⟨_, _, rfl, OwnX.nil, probs_laid (0, 0, 2) hb.size, ext_alloc hb _⟩
end Go.Proofs.YtdnnahdafhddlaaGreatDoor

namespace Go.Proofs.YtdnnahdafhddlaaGreatDoor
open Go.RowKit
set_option maxRecDepth 100000

abbrev rulesS (d sl b m wk : Int) (lines : List ByteArray) : List RuleD × List PrbT × Nat := rulesOf gramT (finR d sl b m wk 0) RuleD.name putL 48 lines
abbrev stepS (d sl b m wk : Int) (st : List RuleD × List PrbT × Nat) (s : ByteArray) : List RuleD × List PrbT × Nat := lineStep gramT (finR d sl b m wk 0) RuleD.name putL 48 st s
theorem OwnX.lower {α : Type} {K : Kind α} {t : TypeId} {X : Nat → Prop} {B C : Nat} {w : World} {v : Value} {l : List α} (h : OwnX K t X B w v l) (hC : C ≤ B) : OwnX K t X C w v l := by
  obtain ⟨vss, e1, e2, e3⟩ := h
  exact ⟨vss, e1, owns_lower e2 hC, fun j x vs hj hv => K.more (e3 j x vs hj hv) fun b hb => ⟨Nat.le_trans hC hb.1, hb.2⟩⟩
/-- What was gathered. -/
structure GathR (B : Nat) (w : World) (v8 v9 : Value) (rs : List RuleD) (ps : List Prob) : Prop where
  rs : OwnX kRule 43 (fun x => v9.ownBlock = some x) B w v8 rs
  ps : ProbsOwn B w v9 ps
section
variable {B : Nat} {w w' : World} {v8 v9 : Value} {rs : List RuleD} {ps : List Prob}
theorem GathR.ne (h : GathR B w v8 v9 rs ps) : v8.ownBlock = none ∨ v8.ownBlock ≠ v9.ownBlock := by obtain ⟨vss, -, h2, -⟩ := h.rs; exact own_ne h2 h.ps (by decide)
theorem GathR.ne' (h : GathR B w v8 v9 rs ps) : v9.ownBlock = none ∨ v9.ownBlock ≠ v8.ownBlock := by obtain ⟨vss, -, h2, -⟩ := h.rs; exact own_ne h.ps h2 (by decide)
theorem GathR.later (h : GathR B w v8 v9 rs ps) (hb : Below w.heap.size w w') : GathR B w' v8 v9 rs ps := ⟨h.rs.later hb, owns_later h.ps hb⟩
theorem GathR.prob {v : Value} {qs : List Prob} (h : GathR B w v8 v9 rs ps) (hg : w.grownBy w' v9.ownBlock) (ho : ProbsOwn B w' v qs) (hv : ∃ g cap n, v = .slice (some ⟨g, 0, none⟩) n cap ∧ (v9.ownBlock = some g ∨ g = w.heap.size)) : GathR B w' v8 v rs qs := by
  obtain ⟨g, cap, n, rfl, hw⟩ := hv
  refine ⟨h.rs.kept hg (fun b e => .inr e.symm) h.ne fun b hb hn e => ?_, ho⟩
  have e : g = b := by simpa [Value.ownBlock] using e
  subst e
  rcases hw with h1 | h1
  · exact hn h1
  · omega
theorem GathR.rule {v : Value} {qs : List RuleD} (h : GathR B w v8 v9 rs ps) (hg : w.grownBy w' v8.ownBlock) (ho : OwnX kRule 43 (fun x => v9.ownBlock = some x) B w' v qs) : GathR B w' v v9 qs ps :=
  ⟨ho, World.ownsRow.kept h.ps hg h.ne'⟩
theorem GathR.low8 (h : GathR B w v8 v9 rs ps) : ∀ x, v8.ownBlock = some x → B ≤ x ∧ x < w.heap.size := h.rs.lt
theorem GathR.low9 (h : GathR B w v8 v9 rs ps) : ∀ x, v9.ownBlock = some x → B ≤ x ∧ x < w.heap.size := fun x e => World.ownsRow.lt h.ps x e
theorem GathR.nil : GathR B w (.slice none 0 0) (.slice none 0 0) [] [] := ⟨OwnX.nil, World.ownsRow_nil _ _ _ _⟩
end
theorem GathR.prob1 {B g n cap : Nat} {w w' : World} {v8 v9 : Value} {rs : List RuleD} {ps qs : List Prob} {o : Obj} (h : GathR B w v8 v9 rs ps) (ho : ProbsOwn B w' (.slice (some ⟨g, 0, none⟩) n cap) qs) (hg : (w.alloc o).grownBy w' v9.ownBlock) (hw : v9.ownBlock = some g ∨ g = w.heap.size + 1) : GathR B w' v8 (.slice (some ⟨g, 0, none⟩) n cap) rs qs :=
  (h.later (ext_alloc (Below.refl _ _) o)).prob hg ho ⟨g, cap, n, rfl, by rw [World.size_alloc]; exact hw⟩
theorem prob1_below {w0 w w' : World} {v8 v9 : Value} {rs : List RuleD} {ps : List Prob} {o : Obj} (hb : Below w0.heap.size w0 w) (h : GathR w0.heap.size w v8 v9 rs ps) (hg : (w.alloc o).grownBy w' v9.ownBlock) : Below w0.heap.size w0 w' :=
  Below.grown (ext_alloc hb o) hg (by rw [World.size_alloc]; exact Nat.le_succ_of_le hb.size) (fun y hy => (h.low9 y hy).1)
theorem rule1_below {w0 w w' : World} {v8 v9 : Value} {rs : List RuleD} {ps : List Prob} {o : Obj} (hb : Below w0.heap.size w0 w) (h : GathR w0.heap.size w v8 v9 rs ps) (hg : (w.alloc o).grownBy w' v8.ownBlock) : Below w0.heap.size w0 w' :=
  Below.grown (ext_alloc hb o) hg (by rw [World.size_alloc]; exact Nat.le_succ_of_le hb.size) (fun y hy => (h.low8 y hy).1)
theorem GathR.rule1 {B : Nat} {w w' : World} {v8 v9 v : Value} {rs qs : List RuleD} {ps : List Prob} {o : Obj} (h : GathR B w v8 v9 rs ps) (ho : OwnX kRule 43 (fun x => v9.ownBlock = some x) B w' v qs) (hg : (w.alloc o).grownBy w' v8.ownBlock) : GathR B w' v v9 qs ps :=
  (h.later (ext_alloc (Below.refl _ _) o)).rule hg ho
/-- A rule's cells with its line put. -/
theorem rep_put {S S' : Nat → Prop} {w w' : World} {r : RuleD} {n : Nat} {x0 x1 x2 x3 x4 x5 x6 x7 x8 x9 x10 x11 x12 : Value} (h : kRule.rep S w r [x0, x1, x2, x3, x4, x5, x6, x7, x8, x9, x10, x11, x12]) (hk : ∀ b, S b → b < w.heap.size → S' b ∧ b < w'.heap.size ∧ w'.heap[b]? = w.heap[b]?) : kRule.rep S' w' (putL r n) [x0, x1, x2, x3, x4, x5, x6, x7, x8, x9, x10, x11, .int .i64 n] := by
  obtain ⟨f0, f1, fA, fl, fc, s0, s1, sA, sl, sc, tA, tc, rA, rc, e, h1, h2, h3, h4, h5, h6⟩ := kRule.kept h hk
  simp only [List.cons.injEq, and_true] at e
  obtain ⟨rfl, rfl, rfl, rfl, rfl, rfl, rfl, rfl, rfl, rfl, rfl, rfl, rfl⟩ := e
  exact ⟨f0, f1, fA, fl, fc, s0, s1, sA, sl, sc, tA, tc, rA, rc, rfl, h1, h2, h3, h4, h5, h6⟩
/-- A problem is appended. -/
theorem wpList_prob {ops : Array Oper} {rest : List Oper} {o : Oper} {a : Act} {Q : Exit → Act → World → Prop} {B : Nat} {w : World} {v : Value} {ps : List Prob} (hgd : o.guard = none) (s x : Operand)
    (ho : o.op = .call { callee := .builtin .append, args := #[s, x], argTypes := #[50, 50] }) (hs : a.eval s = v) (h : ProbsOwn B w v ps) (hl : ps.length ≤ 2000000000) (ad : Addr) (c : Nat) (hx : a.eval x = .slice (some ad) 1 c) (p : Prob)
    (hnews : ∀ j u, (encP p)[j]? = some u → w.cell? (ad.add j) = some u) (hB : B ≤ w.heap.size)
    (hk : ∀ g cap w', ProbsOwn B w' (.slice (some ⟨g, 0, none⟩) (ps.length + 1) cap) (ps ++ [p]) → w.grownBy w' v.ownBlock → (v.ownBlock = some g ∨ g = w.heap.size) → wpList Tryz.prog ops Q rest (a.put o.dst (.slice (some ⟨g, 0, none⟩) (ps.length + 1) cap)) w') : wpList Tryz.prog ops Q (o :: rest) a w := by
  obtain ⟨i0, hi, hz0, hz1, hz2⟩ := info_parts infoProb
  refine wpList_append_lies w hgd s x 50 ho B 55 i0 (.agg #[.int .i64 0, .int .i64 0, .int .i64 0, .int .i64 0]) 4 32 Tryz.underlying50 hi hz0 hz1 hz2 rfl (by decide) v ps.length _ hs h ad 1 c (encP p) hx rfl hnews (by intro u hu; simp [encP] at hu; rcases hu with rfl | rfl | rfl | rfl <;> rfl) (by decide) (by unfold maxLen; omega) (by omega) hB w.heap.size rfl fun g cap w' hn hg hwh _ => hk g cap w' ?_ hg hwh
  unfold ProbsOwn
  rw [List.length_append, List.flatMap_append, List.flatMap_cons, List.flatMap_nil, List.append_nil]
  exact hn
/-- A problem is appended, in a region that draws. -/
theorem step_pr {ops : Array Oper} {o : Oper} {a : Act} {K' : Act → World → Prop} {Q : Exit → Act → World → Prop} {E : Prop} {B H : Nat} {w : World} {v : Value} {ps : List Prob} (hgd : o.guard = none) (s x : Operand)
    (ho : o.op = .call { callee := .builtin .append, args := #[s, x], argTypes := #[50, 50] }) (hs : a.eval s = v) (h : ProbsOwn B w v ps) (hl : ps.length ≤ 2000000000) (ad : Addr) (c : Nat) (hx : a.eval x = .slice (some ad) 1 c) (p : Prob)
    (hnews : ∀ j u, (encP p)[j]? = some u → w.cell? (ad.add j) = some u) (hB : B ≤ w.heap.size) (hH : w.heap.size = H)
    (hk : ∀ g cap w', ProbsOwn B w' (.slice (some ⟨g, 0, none⟩) (ps.length + 1) cap) (ps ++ [p]) → w.grownBy w' v.ownBlock → (v.ownBlock = some g ∨ g = H) → g < w'.heap.size → K' (a.put o.dst (.slice (some ⟨g, 0, none⟩) (ps.length + 1) cap)) w') :
    if Region.wanted o (yielded ops a.tmps) = true then Oper.wp Tryz.prog o a w K' Q else E := by
  obtain ⟨i0, hi, hz0, hz1, hz2⟩ := info_parts infoProb
  refine step_append_lies w hgd s x 50 ho B 55 i0 (.agg #[.int .i64 0, .int .i64 0, .int .i64 0, .int .i64 0]) 4 32 Tryz.underlying50 hi hz0 hz1 hz2 rfl (by decide) v ps.length _ hs h ad 1 c (encP p) hx rfl hnews (by intro u hu; simp [encP] at hu; rcases hu with rfl | rfl | rfl | rfl <;> rfl) (by decide) (by unfold maxLen; omega) (by omega) hB H hH fun g cap w' hn hg hwh hlt => hk g cap w' ?_ hg hwh hlt
  unfold ProbsOwn
  rw [List.length_append, List.flatMap_append, List.flatMap_cons, List.flatMap_nil, List.append_nil]
  exact hn
theorem apd_rules : Apd Tryz.prog 36 43 13 192 := apd Tryz.underlying36 (z := .agg #[.string ⟨#[]⟩, .int .i64 0, .int .i64 0, .int .i64 0, .string ⟨#[]⟩, .slice none 0 0, .int .i64 0, .string ⟨#[]⟩, .slice none 0 0, .int .i64 0, .slice none 0 0, .slice none 0 0, .int .i64 0]) (by kernel_rfl) rfl
/-- What one line adds. -/
theorem step_none {d sl b m wk : Int} {z : ByteArray} (h : lineP gramT z = none) (st : List RuleD × List PrbT × Nat) : stepS d sl b m wk st z = (st.1, st.2.1, st.2.2 + 1) := by unfold stepS lineStep; rw [h]
theorem step_bad {d sl b m wk : Int} {z : ByteArray} {y : Nat × Int} (h : lineP gramT z = some (.error y)) (st : List RuleD × List PrbT × Nat) : stepS d sl b m wk st z = (st.1, st.2.1 ++ [(st.2.2 + 1, y.1 + 1, y.2)], st.2.2 + 1) := by unfold stepS lineStep; rw [h]
theorem step_fin {d sl b m wk : Int} {z : ByteArray} {u : RuleT} {c : Int} (h : lineP gramT z = some (.ok u)) (hf : finR d sl b m wk 0 u = .error c) (st : List RuleD × List PrbT × Nat) : stepS d sl b m wk st z = (st.1, st.2.1 ++ [(st.2.2 + 1, 0, c)], st.2.2 + 1) := by unfold stepS lineStep; rw [h]; dsimp only; rw [hf]
theorem step_rule {d sl b m wk : Int} {z : ByteArray} {u : RuleT} {r : RuleD} (h : lineP gramT z = some (.ok u)) (hf : finR d sl b m wk 0 u = .ok r) (st : List RuleD × List PrbT × Nat) :
    stepS d sl b m wk st z = if hasN r.name st.1 = true then (st.1, st.2.1 ++ [(st.2.2 + 1, 0, 11)], st.2.2 + 1) else if 48 ≤ st.1.length then (st.1, st.2.1 ++ [(st.2.2 + 1, 0, 2)], st.2.2 + 1) else (st.1 ++ [putL r (st.2.2 + 1)], st.2.1, st.2.2 + 1) := by unfold stepS lineStep hasN; rw [h]; dsimp only; rw [hf]
theorem check_ok {d sl b m wk : Int} {r q : RuleD} (h : checkR d sl b m wk r = .ok q) : q = r ∧ ruleE d sl b m wk r = 0 := by
  unfold checkR at h
  split at h
  · injection h with h; exact ⟨h.symm, by assumption⟩
  · cases h
/-- A rule that is kept is sound. -/
theorem fin_ok {d sl b m wk : Int} {u : RuleT} {r : RuleD} (h : finR d sl b m wk 0 u = .ok r) : ruleE d sl b m wk r = 0 ∧ r.first = u.first ∧ r.second = u.second := by
  unfold finR at h
  by_cases h10 : u.kind = 10
  · rw [if_pos h10] at h
    by_cases h0 : firstE (pieceE d sl b m wk) u.parts = 0
    · rw [if_pos h0] at h; obtain ⟨rfl, h1⟩ := check_ok h; exact ⟨h1, rfl, rfl⟩
    · rw [if_neg h0] at h; cases h
  · rw [if_neg h10] at h
    by_cases h11 : u.kind = 11
    · rw [if_pos h11] at h
      by_cases h0 : (listV (joinP u.parts)).1 = 0
      · rw [if_pos h0] at h; obtain ⟨rfl, h1⟩ := check_ok h; exact ⟨h1, rfl, rfl⟩
      · rw [if_neg h0] at h; cases h
    · rw [if_neg h11] at h; obtain ⟨rfl, h1⟩ := check_ok h; exact ⟨h1, rfl, rfl⟩
theorem rule_sound {d sl b m wk : Int} {r : RuleD} (h : ruleE d sl b m wk r = 0) : r.name.size ≠ 0 ∧ r.times.length ≤ 24 ∧ r.rooms.length ≤ 16 := by
  unfold ruleE at h
  by_cases h1 : weekB d sl b m wk = false
  · rw [if_pos h1] at h; cases h
  rw [if_neg h1] at h
  by_cases h2 : codeB r.name = false
  · rw [if_pos h2] at h; cases h
  rw [if_neg h2] at h
  by_cases h3 : r.weight < 0 ∨ 1000 < r.weight
  · rw [if_pos h3] at h; cases h
  rw [if_neg h3] at h
  by_cases h4 : r.kind < 1 ∨ 12 < r.kind
  · rw [if_pos h4] at h; cases h
  rw [if_neg h4] at h
  by_cases h5 : selectedB r = false
  · rw [if_pos h5] at h; cases h
  rw [if_neg h5] at h
  by_cases h6 : r.n < 0 ∨ (if numbI r.kind then 24 else 0) < r.n
  · rw [if_pos h6] at h; cases h
  rw [if_neg h6] at h
  have h7 : listedE d sl b m wk r = 0 := by
    by_cases h7 : listedE d sl b m wk r = 0
    · exact h7
    · rw [if_pos h7] at h; exact absurd h h7
  refine ⟨fun e => h2 ?_, ?_⟩
  · have e0 : r.name = ⟨#[]⟩ := ByteArray.ext (Array.eq_empty_of_size_eq_zero e)
    rw [e0]
    decide
  · unfold listedE at h7
    repeat' (split at h7; (try (cases h7; done)))
    all_goals constructor <;> omega
end Go.Proofs.YtdnnahdafhddlaaGreatDoor

namespace Go.Proofs.YtdnnahdafhddlaaGreatDoor
open Go.RowKit
set_option maxRecDepth 100000

/-- An error's place is no greater than a number. -/
def SmallE {α : Type} (M : Nat) (r : Res α) : Prop := ∀ y, r = .error y → y.1 ≤ M
section
variable {t : ByteArray} {e M : Nat}
theorem small_ok {α : Type} {z : α × Nat} : SmallE M (.ok z : Res α) := fun y h => by cases h
theorem small_bad {α : Type} {b : Nat} {c : Int} (h : b ≤ M) : SmallE M (.error (b, c) : Res α) := fun y e => by injection e with e; rw [← e]; exact h
theorem small_as {α β : Type} {y : Nat × Int} (h : SmallE M (.error y : Res α)) : SmallE M (.error y : Res β) := fun z e => by injection e with e; rw [← e]; exact h y rfl
theorem look_small (ht : t.size ≤ M) (he : e ≤ M) (a : Nat) : (∀ b, lookT t e a = .bad b → b ≤ M) ∧ ∀ x p, lookT t e a = .tok x p → p ≤ M := by
  unfold lookT
  by_cases h1 : startT t a < t.size
  · rw [dif_pos h1]
    split
    · exact ⟨fun b h => (by cases h), fun x p h => by injection h with _ h; omega⟩
    · split
      · exact ⟨fun b h => (by cases h), fun x p h => by injection h with _ h; omega⟩
      · exact ⟨fun b h => (by injection h with h; omega), fun x p h => by cases h⟩
  · rw [dif_neg h1]
    exact ⟨fun b h => (by cases h), fun x p h => by injection h with _ h; omega⟩
theorem next_small (ht : t.size ≤ M) (he : e ≤ M) (a : Nat) : SmallE M (nextP t e a) ∧ ∀ x p b, nextP t e a = .ok ((x, p), b) → p ≤ M := by
  obtain ⟨h1, h2⟩ := look_small ht he a
  unfold nextP
  cases hl : lookT t e a with
  | bad b => exact ⟨small_bad (h1 b hl), fun x p b h => (by cases h)⟩
  | tok x p => exact ⟨small_ok, fun x' p' b h => by injection h with h; injection h with h _; injection h with _ h; rw [← h]; exact h2 x p hl⟩
theorem via_next {α : Type} (ht : t.size ≤ M) (he : e ≤ M) (a : Nat) (q : ByteArray → Nat → Nat → Res α) (hq : ∀ x p b, p ≤ M → SmallE M (q x p b)) :
    SmallE M (match nextP t e a with | .error y => .error y | .ok ((x, p), b) => q x p b) := by
  obtain ⟨h1, h2⟩ := next_small ht he a
  cases hn : nextP t e a with
  | error y => rw [hn] at h1; exact small_as h1
  | ok z => obtain ⟨⟨x, p⟩, b⟩ := z; exact hq x p b (h2 x p b hn)
theorem need_small (ht : t.size ≤ M) (he : e ≤ M) (w : ByteArray) (a : Nat) : SmallE M (needP t e w a) :=
  via_next ht he a _ fun x p b hp => by split; exact small_ok; exact small_bad hp
theorem ident_small (ht : t.size ≤ M) (he : e ≤ M) (ok : ByteArray → Bool) (a : Nat) : SmallE M (identP ok t e a) :=
  via_next ht he a _ fun x p b hp => by split; exact small_ok; exact small_bad hp
theorem more_small (ht : t.size ≤ M) (he : e ≤ M) {pp : Nat → Res Sel} (hm : ∀ b, SmallE M (pp b)) (w : ByteArray) (kind : Int) : ∀ (n : Nat) (l : List Sel) (a : Nat), SmallE M (moreP t e pp w kind n l a)
  | 0, l, a => by
    obtain ⟨h1, h2⟩ := look_small ht he a
    unfold moreP
    cases hl : lookT t e a with
    | bad b => exact small_bad (h1 b hl)
    | tok x p => exact small_bad (Nat.zero_le _)
  | n + 1, l, a => by
    obtain ⟨h1, h2⟩ := look_small ht he a
    cases hl : lookT t e a with
    | bad b => rw [moreP_bad hl]; exact small_bad (h1 b hl)
    | tok x p =>
      by_cases hx : x = w
      · subst hx
        rw [moreP_yes hl]
        have h3 := hm (startT t a + x.size)
        cases hp : pp (startT t a + x.size) with
        | error y => rw [hp] at h3; exact small_as h3
        | ok z => obtain ⟨s, b⟩ := z; exact more_small ht he hm x kind n _ b
      · rw [moreP_no hl hx]; exact small_ok
theorem ser_small (ht : t.size ≤ M) (he : e ≤ M) {pp : Nat → Res Sel} (hm : ∀ b, SmallE M (pp b)) (w : ByteArray) (kind : Int) (a : Nat) : SmallE M (serP t e pp w kind a) := by
  unfold serP
  have h3 := hm a
  cases hp : pp a with
  | error y => rw [hp] at h3; exact h3
  | ok z => obtain ⟨s, b⟩ := z; exact more_small ht he hm w kind _ _ b
theorem atom_small (ht : t.size ≤ M) (he : e ≤ M) (ok : ByteArray → Bool) (ws : List ByteArray) : ∀ (f a : Nat), SmallE M (atomP ok ws t e f a)
  | 0, a => by
    obtain ⟨h1, h2⟩ := look_small ht he a
    unfold atomP
    cases hl : lookT t e a with
    | bad b => exact small_bad (h1 b hl)
    | tok x p => exact small_bad (Nat.zero_le _)
  | f + 1, a => by
    unfold atomP
    refine via_next ht he a _ fun x p b hp => ?_
    split
    · have h3 := atom_small ht he ok ws f b
      cases hq : atomP ok ws t e f b with
      | error y => rw [hq] at h3; exact small_as h3
      | ok z => exact small_ok
    · split
      · have h3 := ser_small ht he (ser_small ht he (atom_small ht he ok ws f) xAnd 8) xOr 9 b
        cases hq : serP t e (serP t e (atomP ok ws t e f) xAnd 8) xOr 9 b with
        | error y => rw [hq] at h3; exact small_as h3
        | ok z =>
          obtain ⟨s, c⟩ := z
          have h4 := need_small ht he xShut c
          show SmallE M (match needP t e xShut c with | .error y => .error y | .ok (_, d) => .ok (s, d))
          cases hr : needP t e xShut c with
          | error y => rw [hr] at h4; exact small_as h4
          | ok z => exact small_ok
      · split
        · exact small_ok
        · split
          · have h3 := ident_small ht he ok b
            cases hq : identP ok t e b with
            | error y => rw [hq] at h3; exact small_as h3
            | ok z => exact small_ok
          · exact small_bad hp
variable {G : Gram}
theorem sel_small (ht : t.size ≤ M) (he : e ≤ M) (f a : Nat) : SmallE M (selP G t e f a) := ser_small ht he (ser_small ht he (atom_small ht he G.ok G.ws f) xAnd 8) xOr 9 a
theorem brack_small (ht : t.size ≤ M) (he : e ≤ M) (a : Nat) : SmallE M (brackP G t e a) :=
  via_next ht he a _ fun x p b hp => by
    split
    · split
      · exact small_ok
      · exact small_bad hp
    · exact small_bad hp
theorem weight_small (ht : t.size ≤ M) (he : e ≤ M) (a : Nat) : SmallE M (weightP G t e a) :=
  via_next ht he a _ fun x p b hp => by
    split
    · exact small_ok
    · split
      · exact small_ok
      · exact small_bad hp
theorem dig_small (ht : t.size ≤ M) (he : e ≤ M) (a : Nat) : SmallE M (digP G t e a) :=
  via_next ht he a _ fun x p b hp => by
    split
    · exact small_ok
    · exact small_bad hp
theorem kind_small (ht : t.size ≤ M) (he : e ≤ M) (a : Nat) : SmallE M (kindP G t e a) :=
  via_next ht he a _ fun x p b hp => by
    split
    · exact small_ok
    · exact small_bad hp
theorem then_small {α β : Type} {p : Nat → Res α} {q : α → Nat → Res β} (h1 : ∀ a, SmallE M (p a)) (h2 : ∀ x a, SmallE M (q x a)) (a : Nat) : SmallE M (thenP p q a) := by
  unfold thenP
  have h := h1 a
  cases hp : p a with
  | error y => rw [hp] at h; exact small_as h
  | ok z => obtain ⟨x, b⟩ := z; exact h2 x b
theorem last_small (ht : t.size ≤ M) (he : e ≤ M) (f k a : Nat) : SmallE M (lastP G t e f k a) := by
  unfold lastP
  have h1 := need_small ht he xComma a
  split
  · cases hn : needP t e xComma a with
    | error y => rw [hn] at h1; exact small_as h1
    | ok z =>
      obtain ⟨u, b⟩ := z
      have h2 := sel_small (G := G) ht he f b
      show SmallE M (match selP G t e f b with | .error y => .error y | .ok (s, c) => .ok ((s, []), c))
      cases hs : selP G t e f b with
      | error y => rw [hs] at h2; exact small_as h2
      | ok z => exact small_ok
  · split
    · cases hn : needP t e xComma a with
      | error y => rw [hn] at h1; exact small_as h1
      | ok z =>
        obtain ⟨u, b⟩ := z
        have h2 := brack_small (G := G) ht he b
        show SmallE M (match brackP G t e b with | .error y => .error y | .ok (l, c) => .ok ((zSel, l), c))
        cases hs : brackP G t e b with
        | error y => rw [hs] at h2; exact small_as h2
        | ok z => exact small_ok
    · exact small_ok
theorem numb_small (ht : t.size ≤ M) (he : e ≤ M) (k a : Nat) : SmallE M (numbP G t e k a) := by
  unfold numbP
  split
  · exact dig_small ht he a
  · exact small_ok
theorem rule_small (ht : t.size ≤ M) (he : e ≤ M) (f a : Nat) : SmallE M (ruleP G t e f a) := by
  unfold ruleP
  exact then_small (ident_small ht he _) (fun _ => then_small (need_small ht he _) fun _ => then_small (weight_small ht he) fun _ => then_small (kind_small ht he) fun _ => then_small (numb_small ht he _) fun _ => then_small (sel_small ht he f) fun _ => by unfold tailP; exact then_small (last_small ht he f _) fun _ => then_small (need_small ht he _) fun _ _ => small_ok) a
end
end Go.Proofs.YtdnnahdafhddlaaGreatDoor
