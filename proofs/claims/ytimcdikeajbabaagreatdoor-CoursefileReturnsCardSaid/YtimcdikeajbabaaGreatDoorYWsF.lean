/- Plain facts on sets of weeks: runs of weeks, their texts, and what these are read as. No walk. Walks of weekset.Weeks and timetableref05.Weeks, and of SameInts: the weeks of a set. No condition. Walk of weekset.Format. No condition. -/
import Derived.Test.YtimcdikeajbabaaGreatDoorRows
import Derived.WalkKit
import Derived.WalkSpells
import Derived.WalkLawsBesides
import Derived.BigGuardPart
import Derived.Lib.Hide
import Derived.Laws.BitsAllLaws
import Derived.Laws.BitsLemmas
import Derived.Lib.LaidTab
import Derived.Test.YtimcdikeajbabaaGreatDoorShelf
import Derived.Lib.ConvBytes
import Derived.Deep.QuietTactic
import Derived.BigQuiet
import Derived.Lib.SmallJoins
import Derived.Lib.SplitLaws
import Derived.Lib.CountLaws
import Derived.Lib.IndexMore
import Derived.Lib.Split
import Derived.Lib.Join
import Derived.Lib.ItoaNum
import Derived.Test.YtimcdikeajbabaaGreatDoorYWsD
import Derived.Test.YtimcdikeajbabaaGreatDoorYTwo
import Derived.Laws.AppendOwn
import Derived.Test.YtimcdikeajbabaaGreatDoorYTgB
import Derived.Test.YtimcdikeajbabaaGreatDoorYSameL
namespace Go.Proofs.YtimcdikeajbabaaGreatDoor

/-- A number below 100 in decimal. -/
def dec2 (k : Nat) : List UInt8 := if k < 10 then [UInt8.ofNat (48 + k)] else [UInt8.ofNat (48 + k / 10), UInt8.ofNat (48 + k % 10)]
theorem dec2_eq {k : Nat} (h : k < 100) : Lib.decDigits k = dec2 k := by
  unfold dec2
  by_cases h1 : k < 10
  · rw [if_pos h1, Lib.decDigits_one h1]
  · rw [if_neg h1, Lib.decDigits_two h1 h]
/-- The first week from w on that is not in the set (n + 1: none). -/
def runTo (p : Nat → Bool) (n : Nat) : Nat → Nat → Nat
  | 0, w => w
  | f + 1, w => if w ≤ n ∧ p (w - 1) = true then runTo p n f (w + 1) else w
def runE (p : Nat → Bool) (n w : Nat) : Nat := runTo p n (n + 1 - w) w
theorem runE_step {p : Nat → Bool} {n w : Nat} (h : w ≤ n) (hp : p (w - 1) = true) : runE p n w = runE p n (w + 1) := by
  unfold runE
  rw [show n + 1 - w = (n + 1 - (w + 1)) + 1 from by omega, runTo, if_pos ⟨h, hp⟩]
theorem runE_stop {p : Nat → Bool} {n w : Nat} (h : ¬ (w ≤ n ∧ p (w - 1) = true)) : runE p n w = w := by
  unfold runE
  cases n + 1 - w with
  | zero => rfl
  | succ f => rw [runTo, if_neg h]
theorem runE_facts (p : Nat → Bool) (n : Nat) : ∀ (f w : Nat), n + 1 - w ≤ f → w ≤ n + 1 → w ≤ runE p n w ∧ runE p n w ≤ n + 1 ∧ (∀ i, w ≤ i → i < runE p n w → p (i - 1) = true) ∧ (runE p n w ≤ n → p (runE p n w - 1) = false)
  | 0, w, hf, hw => by
    have e : runE p n w = w := runE_stop (by omega)
    rw [e]
    exact ⟨by omega, by omega, fun i h1 h2 => by omega, fun h => by omega⟩
  | f + 1, w, hf, hw => by
    by_cases h : w ≤ n ∧ p (w - 1) = true
    · have ih := runE_facts p n f (w + 1) (by omega) (by omega)
      rw [runE_step h.1 h.2]
      refine ⟨by omega, ih.2.1, fun i h1 h2 => ?_, ih.2.2.2⟩
      by_cases e : i = w
      · rw [e]; exact h.2
      · exact ih.2.2.1 i (by omega) h2
    · have e : runE p n w = w := runE_stop h
      rw [e]
      refine ⟨by omega, by omega, fun i h1 h2 => by omega, fun h' => ?_⟩
      cases hp : p (w - 1)
      · rfl
      · exact absurd ⟨h', hp⟩ h
/-- The runs of weeks from w on. -/
def runsF (p : Nat → Bool) (n : Nat) : Nat → Nat → List (Nat × Nat)
  | 0, _ => []
  | f + 1, w => if n < w then [] else if runE p n w = w then runsF p n f (w + 1) else (w, runE p n w - 1) :: runsF p n f (runE p n w + 1)
theorem runsF_done (p : Nat → Bool) (n f w : Nat) (h : n < w) : runsF p n f w = [] := by
  cases f with
  | zero => rfl
  | succ f => rw [runsF, if_pos h]
theorem runsF_fuel (p : Nat → Bool) (n : Nat) : ∀ (f g w : Nat), n + 1 - w ≤ f → n + 1 - w ≤ g → runsF p n f w = runsF p n g w
  | 0, g, w, hf, _ => by rw [runsF_done _ _ _ _ (by omega), runsF_done _ _ _ _ (by omega)]
  | f + 1, 0, w, _, hg => by rw [runsF_done _ _ _ _ (by omega), runsF_done _ _ _ _ (by omega)]
  | f + 1, g + 1, w, hf, hg => by
    by_cases h : n < w
    · rw [runsF_done _ _ _ _ h, runsF_done _ _ _ _ h]
    · have hF := runE_facts p n _ w (Nat.le_refl _) (by omega)
      rw [runsF, runsF, if_neg h, if_neg h]
      by_cases e : runE p n w = w
      · rw [if_pos e, if_pos e]; exact runsF_fuel p n f g (w + 1) (by omega) (by omega)
      · rw [if_neg e, if_neg e, runsF_fuel p n f g (runE p n w + 1) (by omega) (by omega)]
def runs (p : Nat → Bool) (n w : Nat) : List (Nat × Nat) := runsF p n (n + 1 - w) w
theorem runs_done {p : Nat → Bool} {n w : Nat} (h : n < w) : runs p n w = [] := runsF_done _ _ _ _ h
theorem runs_skip {p : Nat → Bool} {n w : Nat} (h : w ≤ n) (e : runE p n w = w) : runs p n w = runs p n (w + 1) := by
  unfold runs
  rw [show n + 1 - w = (n + 1 - (w + 1)) + 1 from by omega, runsF, if_neg (by omega), if_pos e]
theorem runs_take {p : Nat → Bool} {n w : Nat} (h : w ≤ n) (e : runE p n w ≠ w) : runs p n w = (w, runE p n w - 1) :: runs p n (runE p n w + 1) := by
  have hF := runE_facts p n _ w (Nat.le_refl _) (by omega)
  unfold runs
  rw [show n + 1 - w = (n + 1 - (w + 1)) + 1 from by omega, runsF, if_neg (by omega), if_neg e]
  congr 1
  exact runsF_fuel p n _ _ _ (by omega) (by omega)
/-- A run's numbers lie in the term, and the runs hold just the weeks of the set. -/
theorem runs_facts (p : Nat → Bool) (n : Nat) : ∀ (f w : Nat), n + 1 - w ≤ f → 1 ≤ w →
    (∀ r ∈ runs p n w, w ≤ r.1 ∧ r.1 ≤ r.2 ∧ r.2 ≤ n) ∧ ∀ i, (runs p n w).any (fun r => decide (i < r.2) && decide (r.1 ≤ i + 1)) = (decide (w ≤ i + 1) && decide (i + 1 ≤ n) && p i)
  | 0, w, hf, h1 => by
    rw [runs_done (by omega)]
    refine ⟨by simp, fun i => ?_⟩
    have : (decide (w ≤ i + 1) && decide (i + 1 ≤ n)) = false := by
      simp only [Bool.and_eq_false_iff, decide_eq_false_iff_not]; omega
    rw [this]; rfl
  | f + 1, w, hf, h1 => by
    by_cases h : n < w
    · rw [runs_done h]
      refine ⟨by simp, fun i => ?_⟩
      have : (decide (w ≤ i + 1) && decide (i + 1 ≤ n)) = false := by
        simp only [Bool.and_eq_false_iff, decide_eq_false_iff_not]; omega
      rw [this]; rfl
    · obtain ⟨f1, f2, f3, f4⟩ := runE_facts p n _ w (Nat.le_refl _) (by omega)
      by_cases e : runE p n w = w
      · obtain ⟨i1, i2⟩ := runs_facts p n f (w + 1) (by omega) (by omega)
        rw [runs_skip (by omega) e]
        refine ⟨fun r hr => by have := i1 r hr; omega, fun i => ?_⟩
        rw [i2 i]
        have hz := f4 (by omega)
        rw [e] at hz
        by_cases hi : w = i + 1
        · subst hi
          rw [Nat.add_sub_cancel] at hz
          rw [hz]; simp
        · have : decide (w + 1 ≤ i + 1) = decide (w ≤ i + 1) := by rw [decide_eq_decide]; omega
          rw [this]
      · obtain ⟨i1, i2⟩ := runs_facts p n f (runE p n w + 1) (by omega) (by omega)
        rw [runs_take (by omega) e]
        generalize runE p n w = E at *
        refine ⟨fun r hr => ?_, fun i => ?_⟩
        · rcases List.mem_cons.1 hr with rfl | hr
          · exact ⟨Nat.le_refl _, by show w ≤ E - 1; omega, by show E - 1 ≤ n; omega⟩
          · have := i1 r hr; omega
        · rw [List.any_cons, i2 i]
          by_cases c1 : i + 1 < w
          · simp only [show decide (w ≤ i + 1) = false from decide_eq_false (by omega), show decide (E + 1 ≤ i + 1) = false from decide_eq_false (by omega), Bool.and_false, Bool.false_and, Bool.or_false]
          · by_cases c2 : i + 1 < E
            · have hp := f3 (i + 1) (by omega) c2
              rw [Nat.add_sub_cancel] at hp
              simp only [hp, show decide (w ≤ i + 1) = true from decide_eq_true (by omega), show decide (i < E - 1) = true from decide_eq_true (by omega), show decide (i + 1 ≤ n) = true from decide_eq_true (by omega), Bool.and_true, Bool.true_or]
            · by_cases c3 : i + 1 = E
              · by_cases c4 : E ≤ n
                · have hz := f4 c4
                  rw [← c3, Nat.add_sub_cancel] at hz
                  simp only [hz, show decide (i < E - 1) = false from decide_eq_false (by omega), Bool.false_and, Bool.and_false, Bool.or_false]
                · simp only [show decide (i < E - 1) = false from decide_eq_false (by omega), show decide (i + 1 ≤ n) = false from decide_eq_false (by omega), Bool.false_and, Bool.and_false, Bool.or_false]
              · simp only [show decide (i < E - 1) = false from decide_eq_false (by omega), show decide (E + 1 ≤ i + 1) = true from decide_eq_true (by omega), show decide (w ≤ i + 1) = true from decide_eq_true (by omega), Bool.false_and, Bool.false_or]

/-- The text of a run. -/
def runT (r : Nat × Nat) : List UInt8 := if r.1 = r.2 then dec2 r.1 else dec2 r.1 ++ 45 :: dec2 r.2
/-- Which word a set is; 5: none. -/
def nameIdx (s n : Nat) : Nat := if wordVal n 0 = s then 0 else if wordVal n 1 = s then 1 else if wordVal n 2 = s then 2 else if wordVal n 3 = s then 3 else if wordVal n 4 = s then 4 else 5
theorem nameIdx_le (s n : Nat) : nameIdx s n ≤ 5 := by unfold nameIdx; repeat (first | omega | split)
theorem nameIdx_hit {s n k : Nat} (h : nameIdx s n = k) (hk : k < 5) : wordVal n k = s := by
  subst h
  unfold nameIdx at hk ⊢
  by_cases h0 : wordVal n 0 = s
  · rw [if_pos h0]; exact h0
  rw [if_neg h0]
  by_cases h1 : wordVal n 1 = s
  · rw [if_pos h1]; exact h1
  rw [if_neg h1]
  by_cases h2 : wordVal n 2 = s
  · rw [if_pos h2]; exact h2
  rw [if_neg h2]
  by_cases h3 : wordVal n 3 = s
  · rw [if_pos h3]; exact h3
  rw [if_neg h3]
  by_cases h4 : wordVal n 4 = s
  · rw [if_pos h4]; exact h4
  rw [if_neg h0, if_neg h1, if_neg h2, if_neg h3, if_neg h4] at hk
  omega
theorem nameIdx_miss {s n k : Nat} (h : k < nameIdx s n) : wordVal n k ≠ s := by
  intro e
  have hk : k < 5 := Nat.lt_of_lt_of_le h (nameIdx_le s n)
  have : nameIdx s n ≤ k := by
    unfold nameIdx
    match k, hk with
    | 0, _ => rw [if_pos e]; omega
    | 1, _ => repeat (first | omega | (rw [if_pos e]; omega) | split)
    | 2, _ => repeat (first | omega | (rw [if_pos e]; omega) | split)
    | 3, _ => repeat (first | omega | (rw [if_pos e]; omega) | split)
    | 4, _ => repeat (first | omega | (rw [if_pos e]; omega) | split)
  omega
/-- The items of a set's text. -/
def itemsT (s n : Nat) : List (List UInt8) := if nameIdx s n < 5 then [wordName (nameIdx s n)] else (runs s.testBit n 1).map runT
def formatL (s n : Nat) : List UInt8 := Lib.join (itemsT s n) [44]

theorem dec2_num : ∀ k : Nat, k < 21 → 1 ≤ k → numL (dec2 k) = some k ∧ 45 ∉ dec2 k ∧ 44 ∉ dec2 k := by decide +kernel
theorem runT_all : ((List.range 21).all fun a => (List.range 21).all fun b => wordIdx (runT (a, b)) == 5 && !(runT (a, b)).contains 44) = true := by decide +kernel
theorem runT_word (a : Nat) (ha : a < 21) (b : Nat) (hb : b < 21) : wordIdx (runT (a, b)) = 5 ∧ 44 ∉ runT (a, b) := by
  have h := List.all_eq_true.1 (List.all_eq_true.1 runT_all a (List.mem_range.2 ha)) b (List.mem_range.2 hb)
  simp only [Bool.and_eq_true, beq_iff_eq, Bool.not_eq_true'] at h
  exact ⟨h.1, fun hm => by rw [List.contains_iff_mem.2 hm] at h; exact Bool.noConfusion h.2⟩
theorem itemV_run {n : Nat} (hn : n ≤ 20) {r : Nat × Nat} (h1 : 1 ≤ r.1) (h2 : r.1 ≤ r.2) (h3 : r.2 ≤ n) : itemV (runT r) n = (spanN r.1 r.2, 0) ∧ 44 ∉ runT r := by
  obtain ⟨a, b⟩ := r
  dsimp only at h1 h2 h3 ⊢
  obtain ⟨w1, w2⟩ := runT_word a (by omega) b (by omega)
  obtain ⟨n1, n2, n3⟩ := dec2_num a (by omega) h1
  obtain ⟨m1, m2, m3⟩ := dec2_num b (by omega) (by omega)
  refine ⟨?_, w2⟩
  unfold itemV
  rw [if_neg (by omega), cut_eq]
  have va : numV (dec2 a) = a := by simp [numV, n1]
  have oa : numOk (dec2 a) = true := by simp [numOk, n1]
  have vb : numV (dec2 b) = b := by simp [numV, m1]
  have ob : numOk (dec2 b) = true := by simp [numOk, m1]
  by_cases e : a = b
  · subst e
    rw [show runT (a, a) = dec2 a from if_pos rfl, cut1_miss 45 _ n2]
    simp only [Bool.false_eq_true, if_false]
    unfold itemR
    rw [va, oa, if_neg (by simp), if_neg (by omega)]
  · rw [show runT (a, b) = dec2 a ++ 45 :: dec2 b from if_neg e, cut1_of 45 _ n2]
    simp only [if_true]
    unfold itemR
    rw [va, oa, vb, ob, if_neg (by simp), if_neg (by omega)]

theorem spanN_bit (a b i : Nat) : (spanN a b).testBit i = (decide (i < b) && decide (a ≤ i + 1)) := maskTo_bit _ _ _
def orRuns (rs : List (Nat × Nat)) (acc : Nat) : Nat := rs.foldl (fun a r => a ||| spanN r.1 r.2) acc
theorem orRuns_bit (i : Nat) : ∀ (rs : List (Nat × Nat)) (acc : Nat), (orRuns rs acc).testBit i = (acc.testBit i || rs.any (fun r => decide (i < r.2) && decide (r.1 ≤ i + 1)))
  | [], acc => by simp [orRuns]
  | r :: rs, acc => by
    have ih := orRuns_bit i rs (acc ||| spanN r.1 r.2)
    unfold orRuns at ih ⊢
    rw [List.foldl_cons, ih, Nat.testBit_or, spanN_bit, List.any_cons, Bool.or_assoc]
theorem testBit_big {s n i : Nat} (h : s < 2 ^ n) (hi : n ≤ i) : s.testBit i = false :=
  Nat.testBit_lt_two_pow (Nat.lt_of_lt_of_le h (Nat.pow_le_pow_right (by omega) hi))
theorem orRuns_runs {s n : Nat} (hs : s < 2 ^ n) (acc : Nat) : orRuns (runs s.testBit n 1) acc = acc ||| s := by
  apply Nat.eq_of_testBit_eq
  intro i
  rw [orRuns_bit, (runs_facts s.testBit n _ 1 (Nat.le_refl _) (Nat.le_refl _)).2 i, Nat.testBit_or]
  by_cases h : i + 1 ≤ n
  · simp [h]
  · rw [testBit_big hs (by omega)]; simp
theorem itemsV_runs {n : Nat} (hn : n ≤ 20) (rest : List (List UInt8)) : ∀ (rs : List (Nat × Nat)) (acc : Nat), (∀ r ∈ rs, 1 ≤ r.1 ∧ r.1 ≤ r.2 ∧ r.2 ≤ n) → itemsV n (rs.map runT ++ rest) acc = itemsV n rest (orRuns rs acc)
  | [], acc, _ => rfl
  | r :: rs, acc, h => by
    have hr := h r (by simp)
    rw [List.map_cons, List.cons_append, itemsV_cons, (itemV_run hn hr.1 hr.2.1 hr.2.2).1, if_pos rfl, itemsV_runs hn rest rs _ (fun x hx => h x (by simp [hx]))]
    rfl
theorem word_self : ∀ k : Nat, k < 5 → wordIdx (wordName k) = k ∧ 44 ∉ wordName k := by decide
theorem itemsT_read {s n : Nat} (hn : n ≤ 20) (hs : s < 2 ^ n) (rest : List (List UInt8)) (acc : Nat) : itemsV n (itemsT s n ++ rest) acc = itemsV n rest (acc ||| s) := by
  unfold itemsT
  by_cases h : nameIdx s n < 5
  · rw [if_pos h]
    have hw := (word_self _ h).1
    have hv : itemV (wordName (nameIdx s n)) n = (s, 0) := by
      unfold itemV
      rw [hw, if_pos h, nameIdx_hit rfl h]
    show itemsV n (wordName (nameIdx s n) :: rest) acc = _
    rw [itemsV_cons, hv, if_pos rfl]
  · rw [if_neg h, itemsV_runs hn rest _ _ (fun r hr => by have := (runs_facts s.testBit n _ 1 (Nat.le_refl _) (Nat.le_refl _)).1 r hr; omega), orRuns_runs hs]
theorem itemsT_clean {s n : Nat} (hn : n ≤ 20) : ∀ x ∈ itemsT s n, (44 : UInt8) ∉ x := by
  intro x hx
  unfold itemsT at hx
  by_cases h : nameIdx s n < 5
  · rw [if_pos h] at hx
    obtain rfl := List.mem_singleton.1 hx
    exact (word_self _ h).2
  · rw [if_neg h] at hx
    obtain ⟨r, hr, rfl⟩ := List.mem_map.1 hx
    have := (runs_facts s.testBit n _ 1 (Nat.le_refl _) (Nat.le_refl _)).1 r hr
    exact (itemV_run hn (by omega) (by omega) (by omega)).2
theorem itemsT_ne {s n : Nat} (hn : n ≤ 20) (hs : s < 2 ^ n) (h0 : s ≠ 0) : itemsT s n ≠ [] := by
  intro e
  have h1 := itemsT_read hn hs [] 0
  rw [e] at h1
  simp [itemsV, h0] at h1
theorem itemsOf_eq (s : ByteArray) : (itemsOf s).map (·.data.toList) = splitOn1 44 s.data.toList := splitB_one 44 s
/-- A set's text is read as the set. -/
theorem parse_format {s n : Nat} (hn1 : 1 ≤ n) (hn : n ≤ 20) (hs : s < 2 ^ n) (h0 : s ≠ 0) : parseV ⟨(formatL s n).toArray⟩ n = (s, 0) := by
  unfold parseV
  rw [if_neg (by omega), Int.toNat_natCast, itemsOf_eq]
  show itemsV n (splitOn1 44 (formatL s n)) 0 = _
  unfold formatL
  rw [splitOn1_of_join 44 _ (itemsT_ne hn hs h0) (itemsT_clean hn)]
  have h1 := itemsT_read hn hs [] 0
  rw [List.append_nil] at h1
  rw [h1, itemsV, Nat.zero_or, if_neg h0]
theorem dec2_len (k : Nat) : (dec2 k).length ≤ 2 := by unfold dec2; split <;> simp
theorem runT_len (r : Nat × Nat) : (runT r).length ≤ 5 := by
  have h1 := dec2_len r.1
  have h2 := dec2_len r.2
  unfold runT
  split
  · omega
  · simp; omega
theorem runs_len (p : Nat → Bool) (n : Nat) : ∀ (f w : Nat), n + 1 - w ≤ f → (runs p n w).length ≤ n + 1 - w
  | 0, w, hf => by rw [runs_done (by omega)]; simp
  | f + 1, w, hf => by
    by_cases h : n < w
    · rw [runs_done h]; simp
    · have hF := runE_facts p n _ w (Nat.le_refl _) (by omega)
      by_cases e : runE p n w = w
      · rw [runs_skip (by omega) e]
        have := runs_len p n f (w + 1) (by omega)
        omega
      · rw [runs_take (by omega) e]
        have := runs_len p n f (runE p n w + 1) (by omega)
        simp only [List.length_cons]
        omega
theorem lens_le (m : Nat) : ∀ (l : List (List UInt8)), (∀ x ∈ l, x.length ≤ m) → (Lib.join l [44]).length ≤ (m + 1) * l.length
  | [], _ => by simp [Lib.join_nil]
  | [x], h => by
    rw [Lib.join_one]
    have := h x (by simp)
    simp only [List.length_cons, List.length_nil]
    omega
  | x :: y :: r, h => by
    have ih := lens_le m (y :: r) (fun z hz => h z (by simp [hz]))
    have hx := h x (by simp)
    have : Lib.join (x :: y :: r) [44] = x ++ 44 :: Lib.join (y :: r) [44] := by simp [Lib.join, List.intercalate]
    rw [this]
    simp only [List.length_append, List.length_cons, Nat.mul_add, Nat.add_mul] at ih ⊢
    omega
theorem wordName_len (k : Nat) : (wordName k).length ≤ 6 := by
  unfold wordName
  split <;> decide
theorem formatL_len (s n : Nat) (hn : n ≤ 20) : (formatL s n).length ≤ 120 := by
  unfold formatL itemsT
  split
  · rw [Lib.join_one]; have := wordName_len (nameIdx s n); omega
  · have h1 := lens_le 5 ((runs s.testBit n 1).map runT) (fun x hx => by obtain ⟨r, -, rfl⟩ := List.mem_map.1 hx; exact runT_len r)
    have h2 := runs_len s.testBit n _ 1 (Nat.le_refl _)
    rw [List.length_map] at h1
    omega

end Go.Proofs.YtimcdikeajbabaaGreatDoor

namespace Go.Proofs.YtimcdikeajbabaaGreatDoor
open Go.RowKit

theorem new_one (w : World) (x : Value) (t : TypeId) : ∀ (j : Nat) (u : Value), [x][j]? = some u → (w.alloc (.cells #[x] t)).cell? ((⟨w.heap.size, 0, none⟩ : Addr).add j) = some u := by
  intro j u hu
  match j, hu with
  | 0, hu => simp at hu; subst hu; simp [Addr.add]
theorem one_str {x : ByteArray} : ∀ u ∈ [Value.string x], u.oneCell' = true := by
  intro u hu; simp at hu; subst hu; rfl
theorem bit_walk (s k : Nat) (hs : s < 1048576) : (bits .and .i64 ((s : Int) / 2 ^ k) 1 == 1) = s.testBit k := by
  have h1 : s >>> k ≤ s := by rw [Nat.shiftRight_eq_div_pow]; exact Nat.div_le_self _ _
  have e : ((s : Int) / 2 ^ k) = ((s >>> k : Nat) : Int) := by rw [Nat.shiftRight_eq_div_pow]; simp
  have h2 : bits .and .i64 ((s >>> k : Nat) : Int) 1 = (((s >>> k) &&& 1 : Nat) : Int) := i64_and_nat _ 1 (by omega) (by omega)
  rw [e, h2, Nat.testBit, Bool.eq_iff_iff]
  have : s >>> k &&& 1 = (s >>> k) % 2 := Nat.and_one_is_mod _
  simp only [beq_iff_eq, bne_iff_ne, Nat.and_comm 1]
  omega
end Go.Proofs.YtimcdikeajbabaaGreatDoor

namespace Go.Proofs.YtimcdikeajbabaaGreatDoor
open Go.RowKit
set_option maxRecDepth 100000

theorem infoStr : (Tryz.prog.info? 9).map (fun i => (i.zero, i.size, i.bytes)) = some (some (.string ⟨#[]⟩), 1, 16) := by kernel_rfl
/-- The texts of a list, in memory of their own. -/
def StrsAt (B : Nat) (W : World) (v : Value) (xs : List (List UInt8)) : Prop := W.ownsRow B 9 1 v xs.length (xs.map fun x => Value.string ⟨x.toArray⟩)
theorem StrsAt.nil (B : Nat) (W : World) : StrsAt B W (.slice none 0 0) [] := World.ownsRow_nil _ _ _ _
theorem join_walk (B : Nat) (w : World) (v : Value) (xs : List (List UInt8)) (h : StrsAt B w v xs) (hl : xs.length ≤ 1000000) (hj : (Lib.join xs [44]).length ≤ 1000000000) :
    Calls Tryz.prog 47 #[v, .string ⟨#[44]⟩] w fun e w' => e = .returned (.string ⟨(Lib.join xs [44]).toArray⟩) ∧ Below w.heap.size w w' := by
  obtain ⟨h1, h2⟩ := h
  have hx : (xs.map fun x => ByteArray.mk x.toArray).map (·.data.toList) = xs := by
    rw [List.map_map]; exact (List.map_congr_left (fun x _ => rfl)).trans (List.map_id xs)
  rcases h2 with ⟨rfl, h0⟩ | ⟨g, cap, cur, rfl, hb, hg, hn, hm, hs, ht⟩
  · obtain rfl := List.eq_nil_of_length_eq_zero h0
    exact (Tryz.strings_Join_none none 0 _ w).mono fun e w' ⟨he, hw⟩ => ⟨he, by rw [hw]; exact Below.refl _ _⟩
  · have h3 := Tryz.strings_Join g 0 cap (xs.map fun x => ByteArray.mk x.toArray) ⟨#[44]⟩ w (by
      intro j x hx
      rw [List.getElem?_map] at hx
      have e : (cur.toList.take (xs.length * 1))[j]? = (xs.map fun x => Value.string ⟨x.toArray⟩)[j]? := by rw [ht]
      cases hj : xs[j]? with
      | none => rw [hj] at hx; simp at hx
      | some y =>
        rw [hj] at hx
        obtain rfl := Option.some.inj hx
        have hjl := (List.getElem?_eq_some_iff.1 hj).1
        rw [List.getElem?_take, if_pos (by omega), List.getElem?_map, hj] at e
        rw [Nat.zero_add, cell_of_row w g j _ _ _ hg, ← Array.getElem?_toList, e]; rfl)
      (Array.getElem?_eq_some_iff.1 hg).1 (by rw [List.length_map]; omega) (by rw [List.length_map]; exact hn) (by rw [hx]; show (Lib.join xs [44]).length ≤ _; omega)
    rw [hx, List.length_map] at h3
    exact h3
theorem itoa_walk (a : Int) (h0 : 0 ≤ a) (h1 : a < 100) (w : World) :
    Calls Tryz.prog 46 #[.int .i64 a] w fun e w' => e = .returned (.string ⟨(dec2 a.toNat).toArray⟩) ∧ w = w' := by
  obtain ⟨n, rfl⟩ := Int.eq_ofNat_of_zero_le h0
  rw [Int.toNat_natCast, ← dec2_eq (by omega)]
  exact (Tryz.strconv_Itoa_small n (by omega) w).mono fun e w' ⟨he, hw⟩ => ⟨he, hw.symm⟩
def fmtV (set n : Int) : List UInt8 × Int := if validB set n then (formatL set.toNat n.toNat, 0) else ([], 1)
theorem ret_fs {a b : List UInt8} {k : IntKind} {c d : Int} (h1 : a = b) (h2 : c = d) : Ending.returned (.tuple #[.string ⟨a.toArray⟩, .int k c]) = .returned (.tuple #[.string ⟨b.toArray⟩, .int k d]) := by rw [h1, h2]
theorem formatL_name {s n k : Nat} (h : nameIdx s n = k) (hk : k < 5) : formatL s n = wordName k := by
  subst h
  unfold formatL itemsT
  rw [if_pos hk, Lib.join_one]
theorem formatL_runs {s n : Nat} (h : nameIdx s n = 5) : formatL s n = Lib.join ((runs s.testBit n 1).map runT) [44] := by
  unfold formatL itemsT
  rw [if_neg (by omega)]

set_option maxHeartbeats 4000000 in
theorem wsFormat_walk (set n : Int) (w : World) :
    Calls Tryz.prog 44 #[.int .i64 set, .int .i64 n] w fun e w' => e = .returned (.tuple #[.string ⟨(fmtV set n).1.toArray⟩, .int .i64 (fmtV set n).2]) ∧ Below w.heap.size w w' := by
  cases hv : validB set n
  · rw [show fmtV set n = ([], 1) from by simp [fmtV, hv]]
    go_enter Tryz.func44, Tryz.ntmps44
    go_wp2_with (go_at_call 79; refine (wsValid_walk _ _ _).mono ?_; rintro e w3 ⟨rfl, rfl⟩)
    go_ret2
    exact ⟨rfl, Below.refl _ _⟩
  · obtain ⟨n1, n2, h1, h2⟩ := validB_iff.1 hv
    rw [show fmtV set n = (formatL set.toNat n.toNat, 0) from by simp [fmtV, hv]]
    obtain ⟨s, rfl⟩ := Int.eq_ofNat_of_zero_le (by omega : 0 ≤ set)
    obtain ⟨n, rfl⟩ := Int.eq_ofNat_of_zero_le (by omega : 0 ≤ n)
    rw [Int.toNat_natCast] at h2
    rw [Int.toNat_natCast, Int.toNat_natCast]
    have hs : s < 1048576 := by
      have := pow_small n (by omega)
      have h3 : (s : Int) < ((2 ^ n : Nat) : Int) := by simpa using h2
      omega
    clear h2
    replace hs := hide hs
    obtain ⟨i0, hi, hz0, hz1, hz2⟩ := info_parts infoStr
    obtain ⟨F, hF⟩ : ∃ F, formatL s n = F := ⟨_, rfl⟩
    rw [hF]
    replace hF := hide hF
    have h5 := nameIdx_le s n
    go_enter Tryz.func44, Tryz.ntmps44
    go_wp2_with (first | (go_at_call 79; refine (wsValid_walk _ _ _).mono ?_; rintro e w3 ⟨rfl, rfl⟩) | (go_at_call 80; refine (words_walk _ (by omega) (by omega) _).mono ?_; rintro e w' ⟨rfl, rfl⟩))
    go_loopw [18] (fun i wr => ∃ k : Nat, k ≤ nameIdx s n ∧ i = .int .i64 k ∧ Below (w.heap.size + 1) (w.alloc (.cells (wordCells n) 122)) wr) (fun i _ => (5 - intOf i).toNat)
    case atStart => exact ⟨0, Nat.zero_le _, rfl, Below.refl _ _⟩
    case round =>
      obtain ⟨k, hk, rfl, hb⟩ := hrel
      have hb0 : Below w.heap.size w wr := ((Below.refl _ _).alloc (Nat.le_refl _) _).trans (hb.mono (by omega))
      have hkk : k = nameIdx s n ∧ k < 5 ∨ k < nameIdx s n ∧ k < 5 ∨ k = nameIdx s n ∧ k = 5 := by omega
      have hcell : ∀ j, wr.cell? ⟨w.heap.size, j, none⟩ = (wordCells n)[j]? := fun j => (hb.cell (p := ⟨w.heap.size, j, none⟩) (by simp)).trans (by simp)
      rcases hkk with ⟨e, h5⟩ | ⟨e, h5⟩ | ⟨e, h5⟩
      · have hw : ((wordVal n k : Int) == (s : Int)) = true := by rw [beq_iff_eq, nameIdx_hit e.symm h5]
        have hfin : Hid (F = wordName k) := hF.out.symm.trans (formatL_name e.symm h5)
        have c0 := (hcell (k * 2)).trans (word_cells n k h5).1
        have c1 := (hcell (k * 2 + 1)).trans (word_cells n k h5).2
        clear hk e hcell
        go_wp2
        go_ret2
        exact ⟨ret_fs hfin.out.symm rfl, hb0.alloc hb0.size _⟩
      · have hw : ((wordVal n k : Int) == (s : Int)) = false := by
          rw [beq_eq_false_iff_ne]; intro e'; exact nameIdx_miss e (by omega)
        have c0 := (hcell (k * 2)).trans (word_cells n k h5).1
        have c1 := (hcell (k * 2 + 1)).trans (word_cells n k h5).2
        clear hcell
        go_wp2
        go_roundw
        case rel => exact ⟨k + 1, e, by go_num, hb.alloc (by have := hb0.size; have := hb.size; simp at this; omega) _⟩
        case measure => simp [intOf]; omega
      · obtain rfl : k = 5 := h5
        rw [show ((5 : Nat) : Int) = 5 from rfl]
        have hfin : Hid (F = Lib.join ((runs s.testBit n 1).map runT) [44]) := hF.out.symm.trans (formatL_runs e.symm)
        clear hF hk hcell hb
        obtain ⟨p, hp⟩ : ∃ p, s.testBit = p := ⟨_, rfl⟩
        rw [hp] at hfin
        replace hp := hide hp
        have hrl : (runs p n 1).length ≤ 20 := by have := runs_len p n _ 1 (Nat.le_refl _); omega
        have hjl : (Lib.join ((runs p n 1).map runT) [44]).length ≤ 120 := by rw [← hp.out, ← formatL_runs e.symm]; exact formatL_len s n (by omega)
        clear e
        replace hrl := hide hrl
        replace hjl := hide hjl
        go_wp2_with fail
        go_loopw [8, 9] (fun v i wx => ∃ (k : Nat) (dn : List (Nat × Nat)), 1 ≤ k ∧ k ≤ n + 2 ∧ i = .int .i64 k ∧ StrsAt w.heap.size wx v (dn.map runT) ∧ dn ++ runs p n k = runs p n 1 ∧ Below w.heap.size w wx) (fun _ i _ => (n + 3 - (intOf i).toNat))
        case atStart => exact ⟨1, [], by omega, by omega, rfl, StrsAt.nil _ _, rfl, hb0⟩
        case round =>
          obtain ⟨k, dn, hk1, hk2, rfl, hown, hdn, hbx⟩ := hrel
          have hdl : dn.length ≤ 20 := by have h := congrArg List.length hdn; rw [List.length_append] at h; have := hrl.out; omega
          replace hdn := hide hdn
          clear hb0
          by_cases hlt : k ≤ n
          · obtain ⟨f1, f2, f3, f4⟩ := runE_facts p n _ k (Nat.le_refl _) (by omega)
            have rskip := hide (fun h => runs_skip (p := p) hlt h)
            have rtake := hide (fun h => runs_take (p := p) hlt h)
            obtain ⟨E, hE⟩ : ∃ E, runE p n k = E := ⟨_, rfl⟩
            rw [hE] at f1 f2 rskip rtake
            clear f3 f4
            replace hE := hide hE
            go_wp2_with fail
            go_loop [9] (fun i => ∃ j : Nat, k ≤ j ∧ j ≤ n + 1 ∧ i = .int .i64 j ∧ runE p n j = E) (fun i => n + 2 - (intOf i).toNat)
            case atStart => exact ⟨k, Nat.le_refl _, by omega, rfl, hE.out⟩
            case round =>
              obtain ⟨j, hj1, hj2, rfl, hj⟩ := hrel
              by_cases hin : j ≤ n ∧ p (j - 1) = true
              · obtain ⟨hjn, hpj⟩ := hin
                have hbw := (bit_walk s (j - 1) hs.out).trans ((congrFun hp.out (j - 1)).trans hpj)
                have hj := hide ((runE_step hjn hpj).symm.trans hj)
                clear hpj
                go_wp2_with fail
                go_round
                case rel => exact ⟨j + 1, by omega, by omega, by go_num, hj.out⟩
                case measure => simp [intOf]; omega
              · obtain rfl : j = E := by rw [← hj, runE_stop hin]
                have hway : (j ≤ n ∧ (bits .and .i64 ((s : Int) / 2 ^ (j - 1)) 1 == 1) = false) ∨ n < j := by
                  by_cases hjn : j ≤ n
                  · have hpj : p (j - 1) = false := by
                      cases h : p (j - 1)
                      · rfl
                      · exact absurd ⟨hjn, h⟩ hin
                    exact Or.inl ⟨hjn, (bit_walk s (j - 1) hs.out).trans ((congrFun hp.out (j - 1)).trans hpj)⟩
                  · exact Or.inr (by omega)
                clear hj hin
                have h3 : j = k ∨ j = k + 1 ∨ k + 2 ≤ j := by omega
                rcases hway with ⟨hjn, hbw⟩ | hjn
                all_goals
                  rcases h3 with h3 | h3 | h3
                  · have eA : ((j : Int) - (k : Int) == 0) = true := by rw [beq_iff_eq]; omega
                    replace h3 := hide h3
                    go_wp2_with fail
                    go_roundw
                    case rel => exact ⟨k + 1, dn, by omega, by omega, by have := h3.out; go_num, hown, by rw [← hdn.out, rskip.out h3.out], hbx⟩
                    case measure => have := h3.out; simp [intOf]; omega
                  · have eA : ((j : Int) - (k : Int) == 0) = false := by rw [beq_eq_false_iff_ne]; omega
                    have eB : ((j : Int) - (k : Int) == 1) = true := by rw [beq_iff_eq]; omega
                    replace h3 := hide h3
                    have HT : Hid (runT (k, j - 1) = dec2 k) := by
                      have := h3.out
                      exact if_pos (by show k = j - 1; omega)
                    unfold StrsAt at hown
                    go_wp2_with fail
                    refine (itoa_walk _ (by omega) (by omega) _).mono ?_
                    rintro e w' ⟨rfl, rfl⟩
                    rw [Int.toNat_natCast]
                    go_wp2_with (at_builtin; refine wpList_append_own _ rfl _ _ 44 rfl w.heap.size 9 i0 (.string ⟨#[]⟩) 1 16 Tryz.underlying44 hi hz0 hz1 hz2 rfl (by decide) _ _ _ rfl (hown.alloc _) ⟨wr.heap.size, 0, none⟩ 1 1 [.string ⟨(dec2 k).toArray⟩] rfl rfl (new_one _ _ _) one_str ?c3 ?c4 ?c5 ?_)
                    case c3 => rw [List.length_map]; unfold maxLen; omega
                    case c4 => rw [List.length_map]; omega
                    case c5 => have := hbx.size; rw [World.size_alloc]; omega
                    intro v' w1 hown' hgrow _
                    have hb1 : Below w.heap.size w w1 := Below.grown (ext_alloc hbx _) hgrow (by have := hbx.size; rw [World.size_alloc]; omega) (fun j hj => (hown.lt j hj).1)
                    have hown2 : StrsAt w.heap.size w1 v' ((dn ++ [(k, j - 1)]).map runT) := by
                      unfold StrsAt
                      rw [List.length_map, List.length_append, List.map_append, List.map_append]
                      simp only [List.map_cons, List.map_nil, List.length_cons, List.length_nil, HT.out]
                      simpa using hown'
                    clear hown hown' hgrow
                    go_wp2
                    go_roundw
                    case rel => exact ⟨j + 1, dn ++ [(k, j - 1)], by omega, by omega, by go_num, hown2, by rw [List.append_assoc, List.singleton_append, ← rtake.out (by have := h3.out; omega)]; exact hdn.out, hb1⟩
                    case measure => have := h3.out; simp [intOf]; omega
                  · have eA : ((j : Int) - (k : Int) == 0) = false := by rw [beq_eq_false_iff_ne]; omega
                    have eB : ((j : Int) - (k : Int) == 1) = false := by rw [beq_eq_false_iff_ne]; omega
                    unfold StrsAt at hown
                    replace h3 := hide h3
                    have HT : Hid ((⟨(runT (k, j - 1)).toArray⟩ : ByteArray) = (⟨(dec2 k).toArray⟩ : ByteArray) ++ ⟨#[45]⟩ ++ ⟨(dec2 (j - 1)).toArray⟩) := by
                      have := h3.out
                      rw [show runT (k, j - 1) = dec2 k ++ 45 :: dec2 (j - 1) from if_neg (by show ¬ k = j - 1; omega)]
                      apply ByteArray.ext
                      simp [ByteArray.data_append]
                    have l1 := dec2_len k
                    have l2 := dec2_len (j - 1)
                    go_wp2_with fail
                    refine (itoa_walk _ (by omega) (by omega) _).mono ?_
                    rintro e w' ⟨rfl, rfl⟩
                    rw [Int.toNat_natCast]
                    go_wp2_with fail
                    refine (itoa_walk _ (by omega) (by omega) _).mono ?_
                    rintro e w' ⟨rfl, rfl⟩
                    rw [show ((j : Int) - 1).toNat = j - 1 from by omega]
                    go_wp2_with (at_builtin; refine wpList_append_own _ rfl _ _ 44 rfl w.heap.size 9 i0 (.string ⟨#[]⟩) 1 16 Tryz.underlying44 hi hz0 hz1 hz2 rfl (by decide) _ _ _ rfl (hown.alloc _) ⟨wr.heap.size, 0, none⟩ 1 1 [.string ((⟨(dec2 k).toArray⟩ : ByteArray) ++ ⟨#[45]⟩ ++ ⟨(dec2 (j - 1)).toArray⟩)] rfl rfl (new_one _ _ _) one_str ?c3 ?c4 ?c5 ?_)
                    case c3 => rw [List.length_map]; unfold maxLen; omega
                    case c4 => rw [List.length_map]; omega
                    case c5 => have := hbx.size; rw [World.size_alloc]; omega
                    intro v' w1 hown' hgrow _
                    have hb1 : Below w.heap.size w w1 := Below.grown (ext_alloc hbx _) hgrow (by have := hbx.size; rw [World.size_alloc]; omega) (fun j hj => (hown.lt j hj).1)
                    have hown2 : StrsAt w.heap.size w1 v' ((dn ++ [(k, j - 1)]).map runT) := by
                      unfold StrsAt
                      rw [List.length_map, List.length_append, List.map_append, List.map_append]
                      simp only [List.map_cons, List.map_nil, List.length_cons, List.length_nil, HT.out]
                      simpa using hown'
                    clear hown hown' hgrow
                    go_wp2
                    go_roundw
                    case rel => exact ⟨j + 1, dn ++ [(k, j - 1)], by omega, by omega, by go_num, hown2, by rw [List.append_assoc, List.singleton_append, ← rtake.out (by have := h3.out; omega)]; exact hdn.out, hb1⟩
                    case measure => have := h3.out; simp [intOf]; omega
          · have hall : dn = runs p n 1 := by rw [← hdn.out, runs_done (by omega), List.append_nil]
            have hfin2 : Hid (F = Lib.join (dn.map runT) [44]) := by rw [hall]; exact hfin.out
            have hjl2 := hjl.out
            rw [← hall] at hjl2
            clear hall
            replace hjl2 := hide hjl2
            go_wp2_with fail
            refine (join_walk w.heap.size wr _ _ hown (by rw [List.length_map]; omega) (by have := hjl2.out; omega)).mono ?_
            rintro e w3 ⟨rfl, hb3⟩
            go_wp2
            go_ret2
            exact ⟨ret_fs hfin2.out.symm rfl, ext_trans hbx hb3⟩
end Go.Proofs.YtimcdikeajbabaaGreatDoor
