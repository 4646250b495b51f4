/- Plain facts on lists of bytes: cutting and splitting at one byte. No program, no condition. -/
import Derived.Lib.SplitLaws
import Derived.Lib.CountLaws
import Derived.Lib.IndexMore
import Derived.Lib.Split
import Derived.Lib.Join
import Derived.Test.YthejgholpkeldaaGreatDoorZDice
namespace Go.Proofs.YthejgholpkeldaaGreatDoor

/-- A text cut at the first of a byte. -/
def cut1 (c : UInt8) : List UInt8 → List UInt8 × List UInt8 × Bool
  | [] => ([], [], false)
  | b :: r => if b = c then ([], r, true) else (b :: (cut1 c r).1, (cut1 c r).2.1, (cut1 c r).2.2)
/-- A text split at each of a byte. -/
def splitOn1 (c : UInt8) : List UInt8 → List (List UInt8)
  | [] => [[]]
  | b :: r => if b = c then [] :: splitOn1 c r else match splitOn1 c r with
    | [] => [[b]]
    | h :: t => (b :: h) :: t
theorem index_one (c : UInt8) : ∀ l : List UInt8, Lib.index l [c] = if (cut1 c l).2.2 then ((cut1 c l).1.length : Int) else -1
  | [] => by simp [Lib.index, cut1]
  | b :: r => by
    have ih := index_one c r
    unfold Lib.index cut1
    by_cases h : b = c
    · subst h; simp [List.isPrefixOf]
    · have h' : ¬ c = b := fun e => h e.symm
      rw [if_neg (by simp [List.isPrefixOf, h']), ih, if_neg h]
      cases ht : (cut1 c r).2.2
      · simp
      · have : ¬ (((cut1 c r).1.length : Int) = -1) := by omega
        simp [this]
theorem cut1_split (c : UInt8) : ∀ l : List UInt8, (cut1 c l).2.2 = true → l = (cut1 c l).1 ++ c :: (cut1 c l).2.1
  | [], h => by simp [cut1] at h
  | b :: r, h => by
    unfold cut1 at h ⊢
    by_cases e : b = c
    · subst e; simp
    · rw [if_neg e] at h ⊢
      have := cut1_split c r h
      simpa using this
theorem cut1_none (c : UInt8) : ∀ l : List UInt8, (cut1 c l).2.2 = false → (cut1 c l).1 = l ∧ (cut1 c l).2.1 = [] ∧ c ∉ l
  | [], _ => by simp [cut1]
  | b :: r, h => by
    unfold cut1 at h ⊢
    by_cases e : b = c
    · subst e; simp at h
    · rw [if_neg e] at h ⊢
      obtain ⟨h1, h2, h3⟩ := cut1_none c r h
      refine ⟨by simp [h1], h2, ?_⟩
      simp only [List.mem_cons, not_or]
      exact ⟨fun e' => e e'.symm, h3⟩
theorem splitOn1_cut (c : UInt8) : ∀ l : List UInt8, splitOn1 c l = if (cut1 c l).2.2 then (cut1 c l).1 :: splitOn1 c (cut1 c l).2.1 else [l]
  | [] => by simp [splitOn1, cut1]
  | b :: r => by
    have ih := splitOn1_cut c r
    rw [splitOn1, cut1]
    by_cases e : b = c
    · rw [if_pos e, if_pos e]; rfl
    · rw [if_neg e, if_neg e, ih]
      cases h : (cut1 c r).2.2 <;> simp
theorem splitK_one (c : UInt8) : ∀ (k : Nat) (l : List UInt8), Lib.count l [c] = k → Lib.splitK [c] 0 k l = splitOn1 c l
  | 0, l, h => by
    rw [splitOn1_cut]
    cases ht : (cut1 c l).2.2
    · rfl
    · have hi : Lib.index l [c] = ((cut1 c l).1.length : Nat) := by rw [index_one, ht]; rfl
      have := Lib.count_hit (by simp) hi
      omega
  | k + 1, l, h => by
    rw [splitOn1_cut]
    cases ht : (cut1 c l).2.2
    · have hi : Lib.index l [c] = -1 := by rw [index_one, ht]; rfl
      have := Lib.count_miss hi
      omega
    · have hi : Lib.index l [c] = ((cut1 c l).1.length : Nat) := by rw [index_one, ht]; rfl
      have hc := Lib.count_hit (by simp) hi
      have hs := cut1_split c l ht
      have hd : l.drop ((cut1 c l).1.length + [c].length) = (cut1 c l).2.1 := by
        clear hi hc ht h
        generalize hx : (cut1 c l).1 = x at *
        generalize hy : (cut1 c l).2.1 = y at *
        rw [hs]; simp
      rw [hd] at hc
      unfold Lib.splitK
      rw [if_neg (by rw [hi]; simp), hi, Int.toNat_natCast, hd, splitK_one c k _ (by omega)]
      have htk : l.take (cut1 c l).1.length = (cut1 c l).1 := by
        clear hi hc ht h hd
        generalize hx : (cut1 c l).1 = x at *
        generalize hy : (cut1 c l).2.1 = y at *
        rw [hs]; simp
      simp [htk]
theorem splitB_one (c : UInt8) (s : ByteArray) : (Lib.splitB ⟨#[c]⟩ 0 (Lib.countB s ⟨#[c]⟩) s).map (·.data.toList) = splitOn1 c s.data.toList := by
  rw [Lib.splitB_data]
  exact splitK_one c _ _ rfl
theorem splitB_len (c : UInt8) (s : ByteArray) : (Lib.splitB ⟨#[c]⟩ 0 (Lib.countB s ⟨#[c]⟩) s).length = Lib.countB s ⟨#[c]⟩ + 1 :=
  Lib.splitB_all ⟨#[c]⟩ (Nat.le_refl 1) 0 _ s rfl
theorem splitOn1_mem (c : UInt8) : ∀ (l x : List UInt8), x ∈ splitOn1 c l → x.length ≤ l.length ∧ c ∉ x
  | [], x, h => by simp [splitOn1] at h; subst h; simp
  | b :: r, x, h => by
    unfold splitOn1 at h
    by_cases e : b = c
    · rw [if_pos e] at h
      rcases List.mem_cons.1 h with rfl | h
      · simp
      · have := splitOn1_mem c r x h
        exact ⟨by simp; omega, this.2⟩
    · rw [if_neg e] at h
      split at h
      · obtain rfl := List.mem_singleton.1 h
        refine ⟨by simp, ?_⟩
        simp only [List.mem_singleton]
        exact fun e' => e e'.symm
      · rename_i h0 t0 heq
        rcases List.mem_cons.1 h with rfl | h
        · have := splitOn1_mem c r h0 (by rw [heq]; simp)
          refine ⟨by simp; omega, ?_⟩
          simp only [List.mem_cons, not_or]
          exact ⟨fun e' => e e'.symm, this.2⟩
        · have := splitOn1_mem c r x (by rw [heq]; simp [h])
          exact ⟨by simp; omega, this.2⟩
end Go.Proofs.YthejgholpkeldaaGreatDoor
