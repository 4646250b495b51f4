/- Plain facts on lists of bytes: cutting and splitting at one byte. No program, no condition. -/
import Derived.Test.YtdnnahdafhddlaaGreatDoorYDice
namespace Go.Proofs.YtdnnahdafhddlaaGreatDoor

/-- A text cut at the first of a byte. -/
def cut1 (c : UInt8) : List UInt8 → List UInt8 × List UInt8 × Bool
  | [] => ([], [], false)
  | b :: r => if b = c then ([], r, true) else (b :: (cut1 c r).1, (cut1 c r).2.1, (cut1 c r).2.2)
/-- A text split at each of a byte. -/
def splitOn1 (c : UInt8) : List UInt8 → List (List UInt8)
  | [] => [[]]
  | b :: r => if b = c then [] :: splitOn1 c r else match splitOn1 c r with
    | [] => [[b]]
    | h :: t => (b :: h) :: t
theorem splitOn1_ne (c : UInt8) (l : List UInt8) : splitOn1 c l ≠ [] := by
  cases l with
  | nil => simp [splitOn1]
  | cons b r =>
    unfold splitOn1
    split
    · simp
    · split <;> simp
theorem index_one (c : UInt8) : ∀ l : List UInt8, Lib.index l [c] = if (cut1 c l).2.2 then ((cut1 c l).1.length : Int) else -1
  | [] => by simp [Lib.index, cut1]
  | b :: r => by
    have ih := index_one c r
    unfold Lib.index cut1
    by_cases h : b = c
    · subst h; simp [List.isPrefixOf]
    · have h' : ¬ c = b := fun e => h e.symm
      rw [if_neg (by simp [List.isPrefixOf, h']), ih, if_neg h]
      cases ht : (cut1 c r).2.2
      · simp
      · have : ¬ (((cut1 c r).1.length : Int) = -1) := by omega
        simp [this]
theorem cut1_split (c : UInt8) : ∀ l : List UInt8, (cut1 c l).2.2 = true → l = (cut1 c l).1 ++ c :: (cut1 c l).2.1
  | [], h => by simp [cut1] at h
  | b :: r, h => by
    unfold cut1 at h ⊢
    by_cases e : b = c
    · subst e; simp
    · rw [if_neg e] at h ⊢
      have := cut1_split c r h
      simpa using this
theorem cut1_none (c : UInt8) : ∀ l : List UInt8, (cut1 c l).2.2 = false → (cut1 c l).1 = l ∧ (cut1 c l).2.1 = [] ∧ c ∉ l
  | [], _ => by simp [cut1]
  | b :: r, h => by
    unfold cut1 at h ⊢
    by_cases e : b = c
    · subst e; simp at h
    · rw [if_neg e] at h ⊢
      obtain ⟨h1, h2, h3⟩ := cut1_none c r h
      refine ⟨by simp [h1], h2, ?_⟩
      simp only [List.mem_cons, not_or]
      exact ⟨fun e' => e e'.symm, h3⟩
theorem cut_eq (c : UInt8) (l : List UInt8) : Lib.cut l [c] = cut1 c l := by
  unfold Lib.cut
  rw [index_one]
  cases h : (cut1 c l).2.2
  · obtain ⟨h1, h2, _⟩ := cut1_none c l h
    simp only [Bool.false_eq_true, if_false]
    rw [if_neg (by omega)]
    exact Prod.ext h1.symm (Prod.ext h2.symm h.symm)
  · have hs := cut1_split c l h
    simp only [if_true]
    rw [if_pos (by omega), Int.toNat_natCast]
    refine Prod.ext ?_ (Prod.ext ?_ h.symm)
    · show l.take _ = _
      generalize hx : (cut1 c l).1 = x at *
      generalize hy : (cut1 c l).2.1 = y at *
      rw [hs]; simp
    · show l.drop _ = _
      generalize hx : (cut1 c l).1 = x at *
      generalize hy : (cut1 c l).2.1 = y at *
      rw [hs]; simp
theorem splitOn1_cut (c : UInt8) : ∀ l : List UInt8, splitOn1 c l = if (cut1 c l).2.2 then (cut1 c l).1 :: splitOn1 c (cut1 c l).2.1 else [l]
  | [] => by simp [splitOn1, cut1]
  | b :: r => by
    have ih := splitOn1_cut c r
    rw [splitOn1, cut1]
    by_cases e : b = c
    · rw [if_pos e, if_pos e]; rfl
    · rw [if_neg e, if_neg e, ih]
      cases h : (cut1 c r).2.2 <;> simp
theorem splitK_one (c : UInt8) : ∀ (k : Nat) (l : List UInt8), Lib.count l [c] = k → Lib.splitK [c] 0 k l = splitOn1 c l
  | 0, l, h => by
    rw [splitOn1_cut]
    cases ht : (cut1 c l).2.2
    · rfl
    · have hi : Lib.index l [c] = ((cut1 c l).1.length : Nat) := by rw [index_one, ht]; rfl
      have := Lib.count_hit (by simp) hi
      omega
  | k + 1, l, h => by
    rw [splitOn1_cut]
    cases ht : (cut1 c l).2.2
    · have hi : Lib.index l [c] = -1 := by rw [index_one, ht]; rfl
      have := Lib.count_miss hi
      omega
    · have hi : Lib.index l [c] = ((cut1 c l).1.length : Nat) := by rw [index_one, ht]; rfl
      have hc := Lib.count_hit (by simp) hi
      have hs := cut1_split c l ht
      have hd : l.drop ((cut1 c l).1.length + [c].length) = (cut1 c l).2.1 := by
        clear hi hc ht h
        generalize hx : (cut1 c l).1 = x at *
        generalize hy : (cut1 c l).2.1 = y at *
        rw [hs]; simp
      rw [hd] at hc
      unfold Lib.splitK
      rw [if_neg (by rw [hi]; simp), hi, Int.toNat_natCast, hd, splitK_one c k _ (by omega)]
      have htk : l.take (cut1 c l).1.length = (cut1 c l).1 := by
        clear hi hc ht h hd
        generalize hx : (cut1 c l).1 = x at *
        generalize hy : (cut1 c l).2.1 = y at *
        rw [hs]; simp
      simp [htk]
theorem splitB_one (c : UInt8) (s : ByteArray) : (Lib.splitB ⟨#[c]⟩ 0 (Lib.countB s ⟨#[c]⟩) s).map (·.data.toList) = splitOn1 c s.data.toList := by
  rw [Lib.splitB_data]
  exact splitK_one c _ _ rfl
theorem splitB_len (c : UInt8) (s : ByteArray) : (Lib.splitB ⟨#[c]⟩ 0 (Lib.countB s ⟨#[c]⟩) s).length = Lib.countB s ⟨#[c]⟩ + 1 :=
  Lib.splitB_all ⟨#[c]⟩ (Nat.le_refl 1) 0 _ s rfl
theorem splitOn1_mem (c : UInt8) : ∀ (l x : List UInt8), x ∈ splitOn1 c l → x.length ≤ l.length ∧ c ∉ x
  | [], x, h => by simp [splitOn1] at h; subst h; simp
  | b :: r, x, h => by
    unfold splitOn1 at h
    by_cases e : b = c
    · rw [if_pos e] at h
      rcases List.mem_cons.1 h with rfl | h
      · simp
      · have := splitOn1_mem c r x h
        exact ⟨by simp; omega, this.2⟩
    · rw [if_neg e] at h
      split at h
      · obtain rfl := List.mem_singleton.1 h
        refine ⟨by simp, ?_⟩
        simp only [List.mem_singleton]
        exact fun e' => e e'.symm
      · rename_i h0 t0 heq
        rcases List.mem_cons.1 h with rfl | h
        · have := splitOn1_mem c r h0 (by rw [heq]; simp)
          refine ⟨by simp; omega, ?_⟩
          simp only [List.mem_cons, not_or]
          exact ⟨fun e' => e e'.symm, this.2⟩
        · have := splitOn1_mem c r x (by rw [heq]; simp [h])
          exact ⟨by simp; omega, this.2⟩
theorem splitOn1_join (c : UInt8) : ∀ (x : List UInt8), c ∉ x → ∀ (r : List UInt8), splitOn1 c (x ++ c :: r) = x :: splitOn1 c r
  | [], _, r => by simp [splitOn1]
  | b :: x, h, r => by
    simp only [List.mem_cons, not_or] at h
    have ih := splitOn1_join c x h.2 r
    rw [List.cons_append, splitOn1, if_neg (fun e => h.1 e.symm), ih]
theorem cut1_of (c : UInt8) : ∀ (x : List UInt8), c ∉ x → ∀ (r : List UInt8), cut1 c (x ++ c :: r) = (x, r, true)
  | [], _, r => by simp [cut1]
  | b :: x, h, r => by
    simp only [List.mem_cons, not_or] at h
    have ih := cut1_of c x h.2 r
    rw [List.cons_append, cut1, if_neg (fun e => h.1 e.symm), ih]
theorem cut1_miss (c : UInt8) : ∀ (x : List UInt8), c ∉ x → cut1 c x = (x, [], false)
  | [], _ => rfl
  | b :: x, h => by
    simp only [List.mem_cons, not_or] at h
    rw [cut1, if_neg (fun e => h.1 e.symm), cut1_miss c x h.2]
end Go.Proofs.YtdnnahdafhddlaaGreatDoor
