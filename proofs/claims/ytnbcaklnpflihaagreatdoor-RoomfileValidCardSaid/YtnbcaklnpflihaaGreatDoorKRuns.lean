/- Plain facts on sets of weeks: runs of weeks, their texts, and what these are read as. No walk. -/
import Derived.Test.YtnbcaklnpflihaaGreatDoorKWsD
import Derived.Lib.ItoaNum
namespace Go.Proofs.YtnbcaklnpflihaaGreatDoor

/-- A number below 100 in decimal. -/
def dec2 (k : Nat) : List UInt8 := if k < 10 then [UInt8.ofNat (48 + k)] else [UInt8.ofNat (48 + k / 10), UInt8.ofNat (48 + k % 10)]
theorem dec2_eq {k : Nat} (h : k < 100) : Lib.decDigits k = dec2 k := by
  unfold dec2
  by_cases h1 : k < 10
  · rw [if_pos h1, Lib.decDigits_one h1]
  · rw [if_neg h1, Lib.decDigits_two h1 h]
/-- The first week from w on that is not in the set (n + 1: none). -/
def runTo (p : Nat → Bool) (n : Nat) : Nat → Nat → Nat
  | 0, w => w
  | f + 1, w => if w ≤ n ∧ p (w - 1) = true then runTo p n f (w + 1) else w
def runE (p : Nat → Bool) (n w : Nat) : Nat := runTo p n (n + 1 - w) w
theorem runE_step {p : Nat → Bool} {n w : Nat} (h : w ≤ n) (hp : p (w - 1) = true) : runE p n w = runE p n (w + 1) := by
  unfold runE
  rw [show n + 1 - w = (n + 1 - (w + 1)) + 1 from by omega, runTo, if_pos ⟨h, hp⟩]
theorem runE_stop {p : Nat → Bool} {n w : Nat} (h : ¬ (w ≤ n ∧ p (w - 1) = true)) : runE p n w = w := by
  unfold runE
  cases n + 1 - w with
  | zero => rfl
  | succ f => rw [runTo, if_neg h]
theorem runE_facts (p : Nat → Bool) (n : Nat) : ∀ (f w : Nat), n + 1 - w ≤ f → w ≤ n + 1 → w ≤ runE p n w ∧ runE p n w ≤ n + 1 ∧ (∀ i, w ≤ i → i < runE p n w → p (i - 1) = true) ∧ (runE p n w ≤ n → p (runE p n w - 1) = false)
  | 0, w, hf, hw => by
    have e : runE p n w = w := runE_stop (by omega)
    rw [e]
    exact ⟨by omega, by omega, fun i h1 h2 => by omega, fun h => by omega⟩
  | f + 1, w, hf, hw => by
    by_cases h : w ≤ n ∧ p (w - 1) = true
    · have ih := runE_facts p n f (w + 1) (by omega) (by omega)
      rw [runE_step h.1 h.2]
      refine ⟨by omega, ih.2.1, fun i h1 h2 => ?_, ih.2.2.2⟩
      by_cases e : i = w
      · rw [e]; exact h.2
      · exact ih.2.2.1 i (by omega) h2
    · have e : runE p n w = w := runE_stop h
      rw [e]
      refine ⟨by omega, by omega, fun i h1 h2 => by omega, fun h' => ?_⟩
      cases hp : p (w - 1)
      · rfl
      · exact absurd ⟨h', hp⟩ h
/-- The runs of weeks from w on. -/
def runsF (p : Nat → Bool) (n : Nat) : Nat → Nat → List (Nat × Nat)
  | 0, _ => []
  | f + 1, w => if n < w then [] else if runE p n w = w then runsF p n f (w + 1) else (w, runE p n w - 1) :: runsF p n f (runE p n w + 1)
theorem runsF_done (p : Nat → Bool) (n f w : Nat) (h : n < w) : runsF p n f w = [] := by
  cases f with
  | zero => rfl
  | succ f => rw [runsF, if_pos h]
theorem runsF_fuel (p : Nat → Bool) (n : Nat) : ∀ (f g w : Nat), n + 1 - w ≤ f → n + 1 - w ≤ g → runsF p n f w = runsF p n g w
  | 0, g, w, hf, _ => by rw [runsF_done _ _ _ _ (by omega), runsF_done _ _ _ _ (by omega)]
  | f + 1, 0, w, _, hg => by rw [runsF_done _ _ _ _ (by omega), runsF_done _ _ _ _ (by omega)]
  | f + 1, g + 1, w, hf, hg => by
    by_cases h : n < w
    · rw [runsF_done _ _ _ _ h, runsF_done _ _ _ _ h]
    · have hF := runE_facts p n _ w (Nat.le_refl _) (by omega)
      rw [runsF, runsF, if_neg h, if_neg h]
      by_cases e : runE p n w = w
      · rw [if_pos e, if_pos e]; exact runsF_fuel p n f g (w + 1) (by omega) (by omega)
      · rw [if_neg e, if_neg e, runsF_fuel p n f g (runE p n w + 1) (by omega) (by omega)]
def runs (p : Nat → Bool) (n w : Nat) : List (Nat × Nat) := runsF p n (n + 1 - w) w
theorem runs_done {p : Nat → Bool} {n w : Nat} (h : n < w) : runs p n w = [] := runsF_done _ _ _ _ h
theorem runs_skip {p : Nat → Bool} {n w : Nat} (h : w ≤ n) (e : runE p n w = w) : runs p n w = runs p n (w + 1) := by
  unfold runs
  rw [show n + 1 - w = (n + 1 - (w + 1)) + 1 from by omega, runsF, if_neg (by omega), if_pos e]
theorem runs_take {p : Nat → Bool} {n w : Nat} (h : w ≤ n) (e : runE p n w ≠ w) : runs p n w = (w, runE p n w - 1) :: runs p n (runE p n w + 1) := by
  have hF := runE_facts p n _ w (Nat.le_refl _) (by omega)
  unfold runs
  rw [show n + 1 - w = (n + 1 - (w + 1)) + 1 from by omega, runsF, if_neg (by omega), if_neg e]
  congr 1
  exact runsF_fuel p n _ _ _ (by omega) (by omega)
/-- A run's numbers lie in the term, and the runs hold just the weeks of the set. -/
theorem runs_facts (p : Nat → Bool) (n : Nat) : ∀ (f w : Nat), n + 1 - w ≤ f → 1 ≤ w →
    (∀ r ∈ runs p n w, w ≤ r.1 ∧ r.1 ≤ r.2 ∧ r.2 ≤ n) ∧ ∀ i, (runs p n w).any (fun r => decide (i < r.2) && decide (r.1 ≤ i + 1)) = (decide (w ≤ i + 1) && decide (i + 1 ≤ n) && p i)
  | 0, w, hf, h1 => by
    rw [runs_done (by omega)]
    refine ⟨by simp, fun i => ?_⟩
    have : (decide (w ≤ i + 1) && decide (i + 1 ≤ n)) = false := by
      simp only [Bool.and_eq_false_iff, decide_eq_false_iff_not]; omega
    rw [this]; rfl
  | f + 1, w, hf, h1 => by
    by_cases h : n < w
    · rw [runs_done h]
      refine ⟨by simp, fun i => ?_⟩
      have : (decide (w ≤ i + 1) && decide (i + 1 ≤ n)) = false := by
        simp only [Bool.and_eq_false_iff, decide_eq_false_iff_not]; omega
      rw [this]; rfl
    · obtain ⟨f1, f2, f3, f4⟩ := runE_facts p n _ w (Nat.le_refl _) (by omega)
      by_cases e : runE p n w = w
      · obtain ⟨i1, i2⟩ := runs_facts p n f (w + 1) (by omega) (by omega)
        rw [runs_skip (by omega) e]
        refine ⟨fun r hr => by have := i1 r hr; omega, fun i => ?_⟩
        rw [i2 i]
        have hz := f4 (by omega)
        rw [e] at hz
        by_cases hi : w = i + 1
        · subst hi
          rw [Nat.add_sub_cancel] at hz
          rw [hz]; simp
        · have : decide (w + 1 ≤ i + 1) = decide (w ≤ i + 1) := by rw [decide_eq_decide]; omega
          rw [this]
      · obtain ⟨i1, i2⟩ := runs_facts p n f (runE p n w + 1) (by omega) (by omega)
        rw [runs_take (by omega) e]
        generalize runE p n w = E at *
        refine ⟨fun r hr => ?_, fun i => ?_⟩
        · rcases List.mem_cons.1 hr with rfl | hr
          · exact ⟨Nat.le_refl _, by show w ≤ E - 1; omega, by show E - 1 ≤ n; omega⟩
          · have := i1 r hr; omega
        · rw [List.any_cons, i2 i]
          by_cases c1 : i + 1 < w
          · simp only [show decide (w ≤ i + 1) = false from decide_eq_false (by omega), show decide (E + 1 ≤ i + 1) = false from decide_eq_false (by omega), Bool.and_false, Bool.false_and, Bool.or_false]
          · by_cases c2 : i + 1 < E
            · have hp := f3 (i + 1) (by omega) c2
              rw [Nat.add_sub_cancel] at hp
              simp only [hp, show decide (w ≤ i + 1) = true from decide_eq_true (by omega), show decide (i < E - 1) = true from decide_eq_true (by omega), show decide (i + 1 ≤ n) = true from decide_eq_true (by omega), Bool.and_true, Bool.true_or]
            · by_cases c3 : i + 1 = E
              · by_cases c4 : E ≤ n
                · have hz := f4 c4
                  rw [← c3, Nat.add_sub_cancel] at hz
                  simp only [hz, show decide (i < E - 1) = false from decide_eq_false (by omega), Bool.false_and, Bool.and_false, Bool.or_false]
                · simp only [show decide (i < E - 1) = false from decide_eq_false (by omega), show decide (i + 1 ≤ n) = false from decide_eq_false (by omega), Bool.false_and, Bool.and_false, Bool.or_false]
              · simp only [show decide (i < E - 1) = false from decide_eq_false (by omega), show decide (E + 1 ≤ i + 1) = true from decide_eq_true (by omega), show decide (w ≤ i + 1) = true from decide_eq_true (by omega), Bool.false_and, Bool.false_or]

/-- The text of a run. -/
def runT (r : Nat × Nat) : List UInt8 := if r.1 = r.2 then dec2 r.1 else dec2 r.1 ++ 45 :: dec2 r.2
/-- Which word a set is; 5: none. -/
def nameIdx (s n : Nat) : Nat := if wordVal n 0 = s then 0 else if wordVal n 1 = s then 1 else if wordVal n 2 = s then 2 else if wordVal n 3 = s then 3 else if wordVal n 4 = s then 4 else 5
theorem nameIdx_le (s n : Nat) : nameIdx s n ≤ 5 := by unfold nameIdx; repeat (first | omega | split)
theorem nameIdx_hit {s n k : Nat} (h : nameIdx s n = k) (hk : k < 5) : wordVal n k = s := by
  subst h
  unfold nameIdx at hk ⊢
  by_cases h0 : wordVal n 0 = s
  · rw [if_pos h0]; exact h0
  rw [if_neg h0]
  by_cases h1 : wordVal n 1 = s
  · rw [if_pos h1]; exact h1
  rw [if_neg h1]
  by_cases h2 : wordVal n 2 = s
  · rw [if_pos h2]; exact h2
  rw [if_neg h2]
  by_cases h3 : wordVal n 3 = s
  · rw [if_pos h3]; exact h3
  rw [if_neg h3]
  by_cases h4 : wordVal n 4 = s
  · rw [if_pos h4]; exact h4
  rw [if_neg h0, if_neg h1, if_neg h2, if_neg h3, if_neg h4] at hk
  omega
theorem nameIdx_miss {s n k : Nat} (h : k < nameIdx s n) : wordVal n k ≠ s := by
  intro e
  have hk : k < 5 := Nat.lt_of_lt_of_le h (nameIdx_le s n)
  have : nameIdx s n ≤ k := by
    unfold nameIdx
    match k, hk with
    | 0, _ => rw [if_pos e]; omega
    | 1, _ => repeat (first | omega | (rw [if_pos e]; omega) | split)
    | 2, _ => repeat (first | omega | (rw [if_pos e]; omega) | split)
    | 3, _ => repeat (first | omega | (rw [if_pos e]; omega) | split)
    | 4, _ => repeat (first | omega | (rw [if_pos e]; omega) | split)
  omega
/-- The items of a set's text. -/
def itemsT (s n : Nat) : List (List UInt8) := if nameIdx s n < 5 then [wordName (nameIdx s n)] else (runs s.testBit n 1).map runT
def formatL (s n : Nat) : List UInt8 := Lib.join (itemsT s n) [44]

theorem dec2_num : ∀ k : Nat, k < 21 → 1 ≤ k → numL (dec2 k) = some k ∧ 45 ∉ dec2 k ∧ 44 ∉ dec2 k := by decide +kernel
theorem runT_all : ((List.range 21).all fun a => (List.range 21).all fun b => wordIdx (runT (a, b)) == 5 && !(runT (a, b)).contains 44) = true := by decide +kernel
theorem runT_word (a : Nat) (ha : a < 21) (b : Nat) (hb : b < 21) : wordIdx (runT (a, b)) = 5 ∧ 44 ∉ runT (a, b) := by
  have h := List.all_eq_true.1 (List.all_eq_true.1 runT_all a (List.mem_range.2 ha)) b (List.mem_range.2 hb)
  simp only [Bool.and_eq_true, beq_iff_eq, Bool.not_eq_true'] at h
  exact ⟨h.1, fun hm => by rw [List.contains_iff_mem.2 hm] at h; exact Bool.noConfusion h.2⟩
theorem itemV_run {n : Nat} (hn : n ≤ 20) {r : Nat × Nat} (h1 : 1 ≤ r.1) (h2 : r.1 ≤ r.2) (h3 : r.2 ≤ n) : itemV (runT r) n = (spanN r.1 r.2, 0) ∧ 44 ∉ runT r := by
  obtain ⟨a, b⟩ := r
  dsimp only at h1 h2 h3 ⊢
  obtain ⟨w1, w2⟩ := runT_word a (by omega) b (by omega)
  obtain ⟨n1, n2, n3⟩ := dec2_num a (by omega) h1
  obtain ⟨m1, m2, m3⟩ := dec2_num b (by omega) (by omega)
  refine ⟨?_, w2⟩
  unfold itemV
  rw [if_neg (by omega), cut_eq]
  have va : numV (dec2 a) = a := by simp [numV, n1]
  have oa : numOk (dec2 a) = true := by simp [numOk, n1]
  have vb : numV (dec2 b) = b := by simp [numV, m1]
  have ob : numOk (dec2 b) = true := by simp [numOk, m1]
  by_cases e : a = b
  · subst e
    rw [show runT (a, a) = dec2 a from if_pos rfl, cut1_miss 45 _ n2]
    simp only [Bool.false_eq_true, if_false]
    unfold itemR
    rw [va, oa, if_neg (by simp), if_neg (by omega)]
  · rw [show runT (a, b) = dec2 a ++ 45 :: dec2 b from if_neg e, cut1_of 45 _ n2]
    simp only [if_true]
    unfold itemR
    rw [va, oa, vb, ob, if_neg (by simp), if_neg (by omega)]

theorem spanN_bit (a b i : Nat) : (spanN a b).testBit i = (decide (i < b) && decide (a ≤ i + 1)) := maskTo_bit _ _ _
def orRuns (rs : List (Nat × Nat)) (acc : Nat) : Nat := rs.foldl (fun a r => a ||| spanN r.1 r.2) acc
theorem orRuns_bit (i : Nat) : ∀ (rs : List (Nat × Nat)) (acc : Nat), (orRuns rs acc).testBit i = (acc.testBit i || rs.any (fun r => decide (i < r.2) && decide (r.1 ≤ i + 1)))
  | [], acc => by simp [orRuns]
  | r :: rs, acc => by
    have ih := orRuns_bit i rs (acc ||| spanN r.1 r.2)
    unfold orRuns at ih ⊢
    rw [List.foldl_cons, ih, Nat.testBit_or, spanN_bit, List.any_cons, Bool.or_assoc]
theorem testBit_big {s n i : Nat} (h : s < 2 ^ n) (hi : n ≤ i) : s.testBit i = false :=
  Nat.testBit_lt_two_pow (Nat.lt_of_lt_of_le h (Nat.pow_le_pow_right (by omega) hi))
theorem orRuns_runs {s n : Nat} (hs : s < 2 ^ n) (acc : Nat) : orRuns (runs s.testBit n 1) acc = acc ||| s := by
  apply Nat.eq_of_testBit_eq
  intro i
  rw [orRuns_bit, (runs_facts s.testBit n _ 1 (Nat.le_refl _) (Nat.le_refl _)).2 i, Nat.testBit_or]
  by_cases h : i + 1 ≤ n
  · simp [h]
  · rw [testBit_big hs (by omega)]; simp
theorem itemsV_runs {n : Nat} (hn : n ≤ 20) (rest : List (List UInt8)) : ∀ (rs : List (Nat × Nat)) (acc : Nat), (∀ r ∈ rs, 1 ≤ r.1 ∧ r.1 ≤ r.2 ∧ r.2 ≤ n) → itemsV n (rs.map runT ++ rest) acc = itemsV n rest (orRuns rs acc)
  | [], acc, _ => rfl
  | r :: rs, acc, h => by
    have hr := h r (by simp)
    rw [List.map_cons, List.cons_append, itemsV_cons, (itemV_run hn hr.1 hr.2.1 hr.2.2).1, if_pos rfl, itemsV_runs hn rest rs _ (fun x hx => h x (by simp [hx]))]
    rfl
theorem word_self : ∀ k : Nat, k < 5 → wordIdx (wordName k) = k ∧ 44 ∉ wordName k := by decide
theorem itemsT_read {s n : Nat} (hn : n ≤ 20) (hs : s < 2 ^ n) (rest : List (List UInt8)) (acc : Nat) : itemsV n (itemsT s n ++ rest) acc = itemsV n rest (acc ||| s) := by
  unfold itemsT
  by_cases h : nameIdx s n < 5
  · rw [if_pos h]
    have hw := (word_self _ h).1
    have hv : itemV (wordName (nameIdx s n)) n = (s, 0) := by
      unfold itemV
      rw [hw, if_pos h, nameIdx_hit rfl h]
    show itemsV n (wordName (nameIdx s n) :: rest) acc = _
    rw [itemsV_cons, hv, if_pos rfl]
  · rw [if_neg h, itemsV_runs hn rest _ _ (fun r hr => by have := (runs_facts s.testBit n _ 1 (Nat.le_refl _) (Nat.le_refl _)).1 r hr; omega), orRuns_runs hs]
theorem itemsT_clean {s n : Nat} (hn : n ≤ 20) : ∀ x ∈ itemsT s n, (44 : UInt8) ∉ x := by
  intro x hx
  unfold itemsT at hx
  by_cases h : nameIdx s n < 5
  · rw [if_pos h] at hx
    obtain rfl := List.mem_singleton.1 hx
    exact (word_self _ h).2
  · rw [if_neg h] at hx
    obtain ⟨r, hr, rfl⟩ := List.mem_map.1 hx
    have := (runs_facts s.testBit n _ 1 (Nat.le_refl _) (Nat.le_refl _)).1 r hr
    exact (itemV_run hn (by omega) (by omega) (by omega)).2
theorem itemsT_ne {s n : Nat} (hn : n ≤ 20) (hs : s < 2 ^ n) (h0 : s ≠ 0) : itemsT s n ≠ [] := by
  intro e
  have h1 := itemsT_read hn hs [] 0
  rw [e] at h1
  simp [itemsV, h0] at h1
theorem itemsOf_eq (s : ByteArray) : (itemsOf s).map (·.data.toList) = splitOn1 44 s.data.toList := splitB_one 44 s
/-- A set's text is read as the set. -/
theorem parse_format {s n : Nat} (hn1 : 1 ≤ n) (hn : n ≤ 20) (hs : s < 2 ^ n) (h0 : s ≠ 0) : parseV ⟨(formatL s n).toArray⟩ n = (s, 0) := by
  unfold parseV
  rw [if_neg (by omega), Int.toNat_natCast, itemsOf_eq]
  show itemsV n (splitOn1 44 (formatL s n)) 0 = _
  unfold formatL
  rw [splitOn1_of_join 44 _ (itemsT_ne hn hs h0) (itemsT_clean hn)]
  have h1 := itemsT_read hn hs [] 0
  rw [List.append_nil] at h1
  rw [h1, itemsV, Nat.zero_or, if_neg h0]
theorem join_two (xs ys : List (List UInt8)) (c : UInt8) (hy : ys ≠ []) : xs ≠ [] → Lib.join xs [c] ++ c :: Lib.join ys [c] = Lib.join (xs ++ ys) [c] := by
  induction xs with
  | nil => intro h; exact absurd rfl h
  | cons x r ih =>
    intro _
    cases r with
    | nil =>
      cases ys with
      | nil => exact absurd rfl hy
      | cons y q => simp [Lib.join, List.intercalate]
    | cons z q =>
      have h1 := ih (by simp)
      have e1 : ∀ (l : List (List UInt8)), Lib.join (x :: z :: l) [c] = x ++ c :: Lib.join (z :: l) [c] := fun l => by simp [Lib.join, List.intercalate]
      rw [List.cons_append, List.cons_append, e1, e1, List.append_assoc, List.cons_append, h1, List.cons_append]
/-- Two texts joined by a comma are read as the union. -/
theorem parse_union {s t n : Nat} (hn1 : 1 ≤ n) (hn : n ≤ 20) (hs : s < 2 ^ n) (h0 : s ≠ 0) (ht : t < 2 ^ n) (t0 : t ≠ 0) : parseV ⟨(formatL s n ++ 44 :: formatL t n).toArray⟩ n = (s ||| t, 0) := by
  unfold parseV
  rw [if_neg (by omega), Int.toNat_natCast, itemsOf_eq]
  show itemsV n (splitOn1 44 (formatL s n ++ 44 :: formatL t n)) 0 = _
  unfold formatL
  rw [join_two _ _ _ (itemsT_ne hn ht t0) (itemsT_ne hn hs h0), splitOn1_of_join 44 _ (by simp [itemsT_ne hn hs h0]) (by
    intro x hx
    rcases List.mem_append.1 hx with hx | hx
    · exact itemsT_clean hn x hx
    · exact itemsT_clean hn x hx)]
  have h2 := itemsT_read hn ht [] (0 ||| s)
  rw [List.append_nil] at h2
  rw [itemsT_read hn hs, h2, itemsV, Nat.zero_or, if_neg]
  intro e
  apply h0
  apply Nat.eq_of_testBit_eq
  intro i
  have := congrArg (fun x => x.testBit i) e
  simp only [Nat.testBit_or, Nat.zero_testBit, Bool.or_eq_false_iff] at this
  rw [this.1, Nat.zero_testBit]
theorem dec2_len (k : Nat) : (dec2 k).length ≤ 2 := by unfold dec2; split <;> simp
theorem runT_len (r : Nat × Nat) : (runT r).length ≤ 5 := by
  have h1 := dec2_len r.1
  have h2 := dec2_len r.2
  unfold runT
  split
  · omega
  · simp; omega
theorem runs_len (p : Nat → Bool) (n : Nat) : ∀ (f w : Nat), n + 1 - w ≤ f → (runs p n w).length ≤ n + 1 - w
  | 0, w, hf => by rw [runs_done (by omega)]; simp
  | f + 1, w, hf => by
    by_cases h : n < w
    · rw [runs_done h]; simp
    · have hF := runE_facts p n _ w (Nat.le_refl _) (by omega)
      by_cases e : runE p n w = w
      · rw [runs_skip (by omega) e]
        have := runs_len p n f (w + 1) (by omega)
        omega
      · rw [runs_take (by omega) e]
        have := runs_len p n f (runE p n w + 1) (by omega)
        simp only [List.length_cons]
        omega
theorem lens_le (m : Nat) : ∀ (l : List (List UInt8)), (∀ x ∈ l, x.length ≤ m) → (Lib.join l [44]).length ≤ (m + 1) * l.length
  | [], _ => by simp [Lib.join_nil]
  | [x], h => by
    rw [Lib.join_one]
    have := h x (by simp)
    simp only [List.length_cons, List.length_nil]
    omega
  | x :: y :: r, h => by
    have ih := lens_le m (y :: r) (fun z hz => h z (by simp [hz]))
    have hx := h x (by simp)
    have : Lib.join (x :: y :: r) [44] = x ++ 44 :: Lib.join (y :: r) [44] := by simp [Lib.join, List.intercalate]
    rw [this]
    simp only [List.length_append, List.length_cons, Nat.mul_add, Nat.add_mul] at ih ⊢
    omega
theorem wordName_len (k : Nat) : (wordName k).length ≤ 6 := by
  unfold wordName
  split <;> decide
theorem formatL_len (s n : Nat) (hn : n ≤ 20) : (formatL s n).length ≤ 120 := by
  unfold formatL itemsT
  split
  · rw [Lib.join_one]; have := wordName_len (nameIdx s n); omega
  · have h1 := lens_le 5 ((runs s.testBit n 1).map runT) (fun x hx => by obtain ⟨r, -, rfl⟩ := List.mem_map.1 hx; exact runT_len r)
    have h2 := runs_len s.testBit n _ 1 (Nat.le_refl _)
    rw [List.length_map] at h1
    omega

/-- The weeks of a set. -/
def weeksL (s : Nat) (k : Nat) : List Nat := ((List.range k).filter (fun i => s.testBit i)).map (· + 1)
theorem weeksL_hit {s k : Nat} (h : s.testBit k = true) : weeksL s (k + 1) = weeksL s k ++ [k + 1] := by
  simp [weeksL, List.range_succ, List.filter_append, h]
theorem weeksL_miss {s k : Nat} (h : s.testBit k = false) : weeksL s (k + 1) = weeksL s k := by
  simp [weeksL, List.range_succ, List.filter_append, h]
theorem weeksL_len (s k : Nat) : (weeksL s k).length ≤ k := by
  unfold weeksL
  rw [List.length_map]
  exact Nat.le_trans (List.length_filter_le _ _) (by simp)
theorem weeksL_mem {s k x : Nat} (h : x ∈ weeksL s k) : 1 ≤ x ∧ x ≤ k := by
  unfold weeksL at h
  obtain ⟨i, hi, rfl⟩ := List.mem_map.1 h
  have := List.mem_range.1 (List.mem_filter.1 hi).1
  omega
/-- A set made of its weeks. -/
def backN (l : List Nat) (acc : Nat) : Nat := l.foldl (fun a x => a ||| 2 ^ (x - 1)) acc
theorem backN_bit (i : Nat) : ∀ (l : List Nat) (acc : Nat), (∀ x ∈ l, 1 ≤ x) → (backN l acc).testBit i = (acc.testBit i || decide (i + 1 ∈ l))
  | [], acc, _ => by simp [backN]
  | x :: l, acc, h => by
    have ih := backN_bit i l (acc ||| 2 ^ (x - 1)) (fun y hy => h y (by simp [hy]))
    have hx := h x (by simp)
    unfold backN at ih ⊢
    rw [List.foldl_cons, ih, Nat.testBit_or, Nat.testBit_two_pow]
    by_cases e : x - 1 = i
    · have : x = i + 1 := by omega
      subst this; simp
    · have : ¬ i + 1 = x := by omega
      simp [e, this]
theorem backN_weeks {s : Nat} (hs : s < 2 ^ 20) : backN (weeksL s 20) 0 = s := by
  apply Nat.eq_of_testBit_eq
  intro i
  rw [backN_bit i _ _ (fun x hx => (weeksL_mem hx).1), Nat.zero_testBit, Bool.false_or]
  by_cases h : i < 20
  · have : decide (i + 1 ∈ weeksL s 20) = s.testBit i := by
      cases hb : s.testBit i
      · simp [weeksL, hb]
      · simp [weeksL, hb, h]
    exact this
  · rw [testBit_big hs (by omega)]
    simp only [decide_eq_false_iff_not]
    intro hm
    have := (weeksL_mem hm).2
    omega
end Go.Proofs.YtnbcaklnpflihaaGreatDoor
