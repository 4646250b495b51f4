/- The plain law of TimegridMeets: two times meet in a slot of a week just if they overlap. No walk. -/
import Derived.Test.YtgoppjhjmonidaaGreatDoorKTwo
namespace Go.Proofs.YtgoppjhjmonidaaGreatDoor

/-- Do the sets have week k in common, on one day. -/
def comW (a b : Nat) (q : Bool) (k : Nat) : Bool := a.testBit k && b.testBit k && q
/-- Is slot s in both times. -/
def inS (x3 x4 y3 y4 : Int) (s : Nat) : Bool := decide (x3 ≤ s ∧ (s : Int) < x3 + x4 ∧ y3 ≤ s ∧ (s : Int) < y3 + y4)
def anyTo (p : Nat → Bool) : Nat → Bool
  | 0 => false
  | k + 1 => anyTo p k || p k
theorem anyTo_iff (p : Nat → Bool) : ∀ n, anyTo p n = true ↔ ∃ k, k < n ∧ p k = true
  | 0 => by simp [anyTo]
  | n + 1 => by
    unfold anyTo
    rw [Bool.or_eq_true, anyTo_iff p n]
    constructor
    · rintro (⟨k, h, hp⟩ | hp)
      · exact ⟨k, by omega, hp⟩
      · exact ⟨n, by omega, hp⟩
    · rintro ⟨k, h, hp⟩
      by_cases e : k = n
      · subst e; exact Or.inr hp
      · exact Or.inl ⟨k, by omega, hp⟩
theorem anyTo_step (p : Nat → Bool) (n : Nat) : anyTo p (n + 1) = (anyTo p n || p n) := rfl
theorem bit_lt {a n k : Nat} (h : a < 2 ^ n) (hk : a.testBit k = true) : k < n := by
  rcases Nat.lt_or_ge k n with h1 | h1
  · exact h1
  · rw [Nat.testBit_lt_two_pow (Nat.lt_of_lt_of_le h (Nat.pow_le_pow_right (by omega) h1))] at hk; cases hk
theorem weeks_any {a b n : Nat} (ha : a < 2 ^ n) (q : Bool) : anyTo (comW a b q) n = (!(a &&& b == 0) && q) := by
  rw [Bool.eq_iff_iff, anyTo_iff]
  constructor
  · rintro ⟨k, hk, hp⟩
    simp only [comW, Bool.and_eq_true] at hp
    rw [Bool.and_eq_true]
    refine ⟨?_, hp.2⟩
    rw [Bool.not_eq_true', beq_eq_false_iff_ne]
    intro e
    have h := congrArg (fun x => x.testBit k) e
    simp [Nat.testBit_and, hp.1.1, hp.1.2] at h
  · intro h
    rw [Bool.and_eq_true, Bool.not_eq_true', beq_eq_false_iff_ne] at h
    obtain ⟨k, hk⟩ := Nat.exists_testBit_of_ne_zero h.1
    rw [Nat.testBit_and, Bool.and_eq_true] at hk
    exact ⟨k, bit_lt ha hk.1, by simp [comW, hk.1, hk.2, h.2]⟩
theorem slots_any {x3 x4 y3 y4 : Int} {S : Nat} (h1 : 0 ≤ x3) (h2 : x3 + x4 ≤ S) (h3 : 0 ≤ y3) : anyTo (inS x3 x4 y3 y4) S = decide (x3 < y3 + y4 ∧ y3 < x3 + x4 ∧ 1 ≤ x4 ∧ 1 ≤ y4) := by
  rw [Bool.eq_iff_iff, anyTo_iff, decide_eq_true_eq]
  constructor
  · rintro ⟨k, hk, hp⟩
    simp only [inS, decide_eq_true_eq] at hp
    omega
  · intro h
    refine ⟨(max x3 y3).toNat, by omega, ?_⟩
    simp only [inS, decide_eq_true_eq]
    omega
/-- What the double loop reckons. -/
def common (a b : Nat) (q : Bool) (x3 x4 y3 y4 : Int) (n S : Nat) : Bool := anyTo (fun k => comW a b q k && anyTo (inS x3 x4 y3 y4) S) n
theorem anyTo_and (p : Nat → Bool) (c : Bool) : ∀ n, anyTo (fun k => p k && c) n = (anyTo p n && c)
  | 0 => by simp [anyTo]
  | n + 1 => by unfold anyTo; rw [anyTo_and p c n]; cases c <;> simp
theorem sound_of {n : Nat} {d s x1 x2 x3 x4 : Int} (h : TimeB n d s x1 x2 x3 x4) (hn : n ≤ 20) (hd : d ≤ 5) (hs : s ≤ 8) : soundB x1 x2 x3 x4 = true := by
  obtain ⟨w1, w2, d1, d2, s1, l1, s2⟩ := h
  have hv : validB x1 20 = true := validB_iff.2 ⟨by omega, by omega, w1, by
    have h1 : 2 ^ n ≤ 2 ^ 20 := Nat.pow_le_pow_right (by omega) hn
    have h2 : x1 < ((2 ^ 20 : Nat) : Int) := by omega
    simpa using h2⟩
  simp only [soundB, hv, Bool.true_and, decide_eq_true_eq]
  omega
theorem meet_eq {a b n : Nat} {d s x2 x3 x4 y2 y3 y4 : Int} (hx : TimeB n d s a x2 x3 x4) (hy : TimeB n d s b y2 y3 y4) (hn : n ≤ 20) (hd : d ≤ 5) (hs : s ≤ 8) : meetB a x2 x3 x4 b y2 y3 y4 = (!(a &&& b == 0) && decide (x2 = y2)) := by
  have h20 : 2 ^ n ≤ 2 ^ 20 := Nat.pow_le_pow_right (by omega) hn
  have ha := hx.w2
  have hb := hy.w2
  have h20' : 2 ^ n ≤ 1048576 := by simpa using h20
  unfold meetB
  rw [sound_of hx hn hd hs, sound_of hy hn hd hs, i64_and_nat a b (by omega) (by omega)]
  have e : ((((a &&& b : Nat) : Int)) == 0) = (a &&& b == 0) := by rw [Bool.eq_iff_iff]; simp
  rw [e]; simp
theorem bstep_true {P X A : Bool} (h : (P || (X && A)) = true) (p : Bool) : (P || (X && (A || p))) = true := by
  revert h; cases P <;> cases X <;> cases A <;> simp
/-- All that the statement says of two made times. -/
theorem meets_law {a b n : Nat} {d s x2 x3 x4 y2 y3 y4 : Int} (hx : TimeB n d s a x2 x3 x4) (hy : TimeB n d s b y2 y3 y4) (hn : n ≤ 20) (hd : d ≤ 5) (hs : s ≤ 8) :
    ∃ (M C B1 B2 : Bool) (V : Int), meetB a x2 x3 x4 b y2 y3 y4 = M ∧ meetB b y2 y3 y4 a x2 x3 x4 = M ∧ betweenV a x2 x3 x4 b y2 y3 y4 = V ∧ betweenV b y2 y3 y4 a x2 x3 x4 = V ∧ overlapB a x2 x3 x4 b y2 y3 y4 = C ∧ overlapB b y2 y3 y4 a x2 x3 x4 = C ∧
      beforeB a x2 x3 x4 b y2 y3 y4 = B1 ∧ beforeB b y2 y3 y4 a x2 x3 x4 = B2 ∧ common a b (decide (x2 = y2)) x3 x4 y3 y4 n s.toNat = C ∧ C = (M && (V == -1)) ∧ (B1 && B2) = false ∧ (x2 = y2 → V = -1 → M = true → B1 = false) := by
  have m1 := meet_eq hx hy hn hd hs
  have m2 := meet_eq hy hx hn hd hs
  have hsym : (!(b &&& a == 0) && decide (y2 = x2)) = (!(a &&& b == 0) && decide (x2 = y2)) := by
    rw [Nat.and_comm b a]
    have : decide (y2 = x2) = decide (x2 = y2) := by rw [decide_eq_decide]; exact ⟨fun h => h.symm, fun h => h.symm⟩
    rw [this]
  rw [hsym] at m2
  obtain ⟨M, hM⟩ : ∃ M, (!(a &&& b == 0) && decide (x2 = y2)) = M := ⟨_, rfl⟩
  rw [hM] at m1 m2
  have hb1 : beforeB a x2 x3 x4 b y2 y3 y4 = decide (x2 < y2 ∨ x2 = y2 ∧ x3 + x4 ≤ y3) := by
    unfold beforeB; rw [sound_of hx hn hd hs, sound_of hy hn hd hs]; simp
  have hb2 : beforeB b y2 y3 y4 a x2 x3 x4 = decide (y2 < x2 ∨ y2 = x2 ∧ y3 + y4 ≤ x3) := by
    unfold beforeB; rw [sound_of hx hn hd hs, sound_of hy hn hd hs]; simp
  have hcom : common a b (decide (x2 = y2)) x3 x4 y3 y4 n s.toNat = (M && decide (x3 < y3 + y4 ∧ y3 < x3 + x4 ∧ 1 ≤ x4 ∧ 1 ≤ y4)) := by
    unfold common
    rw [anyTo_and, weeks_any (by have := hx.w2; omega), hM, slots_any hx.s1 (by have := hx.s2; omega) hy.s1]
  obtain ⟨-, -, -, -, s1, l1, s2⟩ := hx
  obtain ⟨-, -, -, -, t1, k1, t2⟩ := hy
  cases M with
  | false =>
    have v1 := betweenV_no m1
    have v2 := betweenV_no m2
    refine ⟨false, false, _, _, 0, m1, m2, v1, v2, by unfold overlapB; rw [m1]; rfl, by unfold overlapB; rw [m2]; rfl, hb1, hb2, by rw [hcom]; rfl, rfl, ?_, fun _ h => by cases h⟩
    rw [Bool.and_eq_false_iff, decide_eq_false_iff_not, decide_eq_false_iff_not]
    omega
  | true =>
    have v1 := betweenV_yes m1
    have v2 := betweenV_yes m2
    have hv : max (-1) (max (x3 - y3 - y4) (y3 - x3 - x4)) = max (-1) (max (y3 - x3 - x4) (x3 - y3 - y4)) := by omega
    rw [hv] at v2
    refine ⟨true, decide (max (-1) (max (y3 - x3 - x4) (x3 - y3 - y4)) < 0), _, _, _, m1, m2, v1, v2, by unfold overlapB; rw [m1, v1]; rfl, by unfold overlapB; rw [m2, v2]; rfl, hb1, hb2, ?_, ?_, ?_, ?_⟩
    · rw [hcom, Bool.true_and, decide_eq_decide]; omega
    · rw [Bool.true_and, Bool.eq_iff_iff, decide_eq_true_eq, beq_iff_eq]; omega
    · rw [Bool.and_eq_false_iff, decide_eq_false_iff_not, decide_eq_false_iff_not]; omega
    · intro he hv' _
      rw [decide_eq_false_iff_not]; omega
end Go.Proofs.YtgoppjhjmonidaaGreatDoor
