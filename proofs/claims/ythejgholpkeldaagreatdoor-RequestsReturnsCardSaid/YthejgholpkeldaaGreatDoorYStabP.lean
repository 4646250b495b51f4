/- A stable sort as the library does it: insertion in blocks, then merges by rotation (plain). No walk. -/
import Derived.Sort.LotA
import Derived.Test.YthejgholpkeldaaGreatDoorYSameL
namespace Go.Proofs.YthejgholpkeldaaGreatDoor
open Go.Sort
set_option maxRecDepth 100000

section
variable {α : Type} [Inhabited α]
/-! Two ranges exchanged, a rotation. -/
def swapR (d : Array α) (a b : Nat) : Nat → Array α
  | 0 => d
  | n + 1 => swp (swapR d a b n) (a + n) (b + n)
theorem swapR_size (d : Array α) (a b n : Nat) : (swapR d a b n).size = d.size := by
  induction n with
  | zero => rfl
  | succ n ih => rw [swapR, swp_size, ih]
theorem swapR_get (d : Array α) (a b n : Nat) (h : a + n ≤ b) (hb : b + n ≤ d.size) (k : Nat) :
    (swapR d a b n)[k]! = if a ≤ k ∧ k < a + n then d[k + (b - a)]! else if b ≤ k ∧ k < b + n then d[k - (b - a)]! else d[k]! := by
  induction n generalizing k with
  | zero => rw [swapR, if_neg (by omega), if_neg (by omega)]
  | succ n ih =>
    have ih := ih (by omega) (by omega)
    rw [swapR, swp_get _ (by rw [swapR_size]; omega) (by rw [swapR_size]; omega)]
    by_cases h1 : k = b + n
    · rw [if_pos h1, ih, if_neg (by omega), if_neg (by omega), if_neg (by omega), if_pos (by omega)]
      congr 1; omega
    · rw [if_neg h1]
      by_cases h2 : k = a + n
      · rw [if_pos h2, ih, if_neg (by omega), if_neg (by omega), if_pos (by omega)]
        congr 1; omega
      · rw [if_neg h2, ih]
        by_cases h3 : a ≤ k ∧ k < a + n
        · rw [if_pos h3, if_pos (by omega)]
        · rw [if_neg h3]
          by_cases h4 : b ≤ k ∧ k < b + n
          · rw [if_pos h4, if_neg (by omega), if_pos (by omega)]
          · rw [if_neg h4, if_neg (by omega), if_neg (by omega)]
theorem swapR_perm (d : Array α) (a b n lo hi : Nat) (h1 : lo ≤ a) (h2 : lo ≤ b) (h3 : a + n ≤ hi) (h4 : b + n ≤ hi) (hs : hi ≤ d.size) : PermIn lo hi d (swapR d a b n) := by
  induction n with
  | zero => exact permIn_refl _ _ _
  | succ n ih => exact permIn_trans _ _ _ _ _ (ih (by omega) (by omega)) (swp_permIn _ _ _ _ _ (by omega) (by omega) (by omega) (by omega) (by rw [swapR_size]; exact hs))
def rot (d : Array α) (m : Nat) : Nat → Nat → Nat → Array α
  | 0, i, _ => swapR d (m - i) m i
  | f + 1, i, j => if i = j then swapR d (m - i) m i else if j < i then rot (swapR d (m - i) m j) m f (i - j) j else rot (swapR d (m - i) (m + j - i) i) m f i (j - i)
theorem rot_size (m : Nat) : ∀ (f i j : Nat) (d : Array α), (rot d m f i j).size = d.size
  | 0, i, j, d => swapR_size _ _ _ _
  | f + 1, i, j, d => by
    rw [rot]
    split
    · exact swapR_size _ _ _ _
    · split
      · rw [rot_size m f, swapR_size]
      · rw [rot_size m f, swapR_size]
theorem rot_perm (m lo hi : Nat) : ∀ (f i j : Nat) (d : Array α), i + j ≤ f → 0 < i → 0 < j → lo + i ≤ m → m + j ≤ hi → hi ≤ d.size → PermIn lo hi d (rot d m f i j)
  | 0, i, j, d => by intro h1 h2; omega
  | f + 1, i, j, d => by
    intro h1 h2 h3 h4 h5 h6
    rw [rot]
    split
    · exact swapR_perm _ _ _ _ _ _ (by omega) (by omega) (by omega) (by omega) h6
    · split
      · exact permIn_trans _ _ _ _ _ (swapR_perm d (m - i) m j lo hi (by omega) (by omega) (by omega) (by omega) h6) (rot_perm m lo hi f _ _ _ (by omega) (by omega) h3 (by omega) h5 (by rw [swapR_size]; exact h6))
      · exact permIn_trans _ _ _ _ _ (swapR_perm d (m - i) (m + j - i) i lo hi (by omega) (by omega) (by omega) (by omega) h6) (rot_perm m lo hi f _ _ _ (by omega) h2 (by omega) h4 (by omega) (by rw [swapR_size]; exact h6))
theorem rot_get (m : Nat) : ∀ (f i j : Nat) (d : Array α) (k : Nat), i + j ≤ f → 0 < i → 0 < j → i ≤ m → m + j ≤ d.size →
    (rot d m f i j)[k]! = if m - i ≤ k ∧ k < m - i + j then d[k + i]! else if m - i + j ≤ k ∧ k < m + j then d[k - j]! else d[k]!
  | 0, i, j, d => by intro k h1 h2; omega
  | f + 1, i, j, d => by
    intro k h1 h2 h3 h4 h5
    rw [rot]
    split
    · rename_i he
      subst he
      rw [swapR_get _ _ _ _ (by omega) (by omega)]
      by_cases c1 : m - i ≤ k ∧ k < m - i + i
      · rw [if_pos c1, if_pos c1]; congr 1; omega
      · rw [if_neg c1, if_neg c1]
        by_cases c2 : m ≤ k ∧ k < m + i
        · rw [if_pos c2, if_pos (by omega)]; congr 1; omega
        · rw [if_neg c2, if_neg (by omega)]
    · split
      · rename_i hne hji
        have g := swapR_get d (m - i) m j (by omega) (by omega)
        rw [rot_get m f _ _ _ k (by omega) (by omega) h3 (by omega) (by rw [swapR_size]; exact h5)]
        by_cases c1 : m - (i - j) ≤ k ∧ k < m - (i - j) + j
        · rw [if_pos c1, g]
          by_cases c3 : m - i ≤ k + (i - j) ∧ k + (i - j) < m - i + j
          · exact absurd c3 (by omega)
          · rw [if_neg c3, if_pos (by omega), if_neg (by omega), if_pos (by omega)]
            congr 1; omega
        · rw [if_neg c1]
          by_cases c2 : m - (i - j) + j ≤ k ∧ k < m + j
          · rw [if_pos c2, g, if_neg (by omega), if_neg (by omega), if_neg (by omega), if_pos (by omega)]
          · rw [if_neg c2, g]
            by_cases c4 : m - i ≤ k ∧ k < m - i + j
            · rw [if_pos c4, if_pos c4]; congr 1; omega
            · rw [if_neg c4, if_neg c4, if_neg (by omega), if_neg (by omega)]
      · rename_i hne hji
        have g := swapR_get d (m - i) (m + j - i) i (by omega) (by omega)
        rw [rot_get m f _ _ _ k (by omega) h2 (by omega) h4 (by rw [swapR_size]; omega)]
        by_cases c1 : m - i ≤ k ∧ k < m - i + (j - i)
        · rw [if_pos c1, g, if_neg (by omega), if_neg (by omega), if_pos (by omega)]
        · rw [if_neg c1]
          by_cases c2 : m - i + (j - i) ≤ k ∧ k < m + (j - i)
          · rw [if_pos c2, g]
            rw [if_pos (by omega), if_pos (by omega)]
            congr 1; omega
          · rw [if_neg c2, g]
            by_cases c4 : m + j - i ≤ k ∧ k < m + j - i + i
            · rw [if_neg (by omega), if_pos c4, if_neg (by omega), if_pos (by omega)]; congr 1; omega
            · rw [if_neg (by omega), if_neg c4, if_neg (by omega), if_neg (by omega)]
/-! A binary search. -/
def bs (p : Nat → Bool) : Nat → Nat → Nat → Nat
  | 0, i, _ => i
  | f + 1, i, j => if i < j then (if p ((i + j) / 2) then bs p f ((i + j) / 2 + 1) j else bs p f i ((i + j) / 2)) else i
theorem bs_spec {p : Nat → Bool} : ∀ (f i j : Nat), j - i ≤ f → i ≤ j → (∀ x y, i ≤ x → x ≤ y → y < j → p y = true → p x = true) →
    i ≤ bs p f i j ∧ bs p f i j ≤ j ∧ (∀ x, i ≤ x → x < bs p f i j → p x = true) ∧ (∀ x, bs p f i j ≤ x → x < j → p x = false)
  | 0, i, j => by
    intro h1 h2 hm
    obtain rfl : i = j := by omega
    exact ⟨Nat.le_refl _, Nat.le_refl _, fun x a b => by rw [bs] at b; omega, fun x a b => by rw [bs] at a; omega⟩
  | f + 1, i, j => by
    intro h1 h2 hm
    rw [bs]
    by_cases hij : i < j
    · rw [if_pos hij]
      cases hp : p ((i + j) / 2) with
      | true =>
        rw [if_pos rfl]
        obtain ⟨e1, e2, e3, e4⟩ := bs_spec f ((i + j) / 2 + 1) j (by omega) (by omega) (fun x y a b c => hm x y (by omega) b c)
        refine ⟨by omega, e2, fun x a b => ?_, e4⟩
        by_cases hx : x ≤ (i + j) / 2
        · exact hm x _ a hx (by omega) hp
        · exact e3 x (by omega) b
      | false =>
        rw [if_neg (by simp)]
        obtain ⟨e1, e2, e3, e4⟩ := bs_spec f i ((i + j) / 2) (by omega) (by omega) (fun x y a b c => hm x y a b (by omega))
        refine ⟨e1, by omega, e3, fun x a b => ?_⟩
        by_cases hx : x < (i + j) / 2
        · exact e4 x a hx
        · cases hpx : p x with
          | false => rfl
          | true => rw [hm ((i + j) / 2) x (by omega) (by omega) b hpx] at hp; cases hp
    · rw [if_neg hij]
      exact ⟨Nat.le_refl _, h2, fun x a b => by omega, fun x a b => by omega⟩
/-! One element is moved up, or down. -/
def mvR (d : Array α) (a : Nat) : Nat → Array α
  | 0 => d
  | n + 1 => swp (mvR d a n) (a + n) (a + n + 1)
def mvL (d : Array α) (m : Nat) : Nat → Array α
  | 0 => d
  | n + 1 => swp (mvL d m n) (m - n) (m - n - 1)
theorem mvR_size (d : Array α) (a n : Nat) : (mvR d a n).size = d.size := by
  induction n with
  | zero => rfl
  | succ n ih => rw [mvR, swp_size, ih]
theorem mvL_size (d : Array α) (m n : Nat) : (mvL d m n).size = d.size := by
  induction n with
  | zero => rfl
  | succ n ih => rw [mvL, swp_size, ih]
theorem mvR_get (d : Array α) (a n : Nat) (h : a + n < d.size) (k : Nat) : (mvR d a n)[k]! = if a ≤ k ∧ k < a + n then d[k + 1]! else if k = a + n then d[a]! else d[k]! := by
  induction n generalizing k with
  | zero =>
    rw [mvR, if_neg (by omega)]
    by_cases e : k = a + 0
    · rw [if_pos e, e]; rfl
    · rw [if_neg e]
  | succ n ih =>
    have ih := ih (by omega)
    rw [mvR, swp_get _ (by rw [mvR_size]; omega) (by rw [mvR_size]; omega)]
    by_cases h1 : k = a + n + 1
    · rw [if_pos h1, ih, if_neg (by omega), if_pos rfl, if_neg (by omega), if_pos (by omega)]
    · rw [if_neg h1]
      by_cases h2 : k = a + n
      · rw [if_pos h2, ih, if_neg (by omega), if_neg (by omega), if_pos (by omega), h2]
      · rw [if_neg h2, ih]
        by_cases h3 : a ≤ k ∧ k < a + n
        · rw [if_pos h3, if_pos (by omega)]
        · rw [if_neg h3, if_neg h2, if_neg (by omega), if_neg (by omega)]
theorem mvL_get (d : Array α) (m n : Nat) (h : m < d.size) (hn : n ≤ m) (k : Nat) : (mvL d m n)[k]! = if m - n < k ∧ k ≤ m then d[k - 1]! else if k = m - n then d[m]! else d[k]! := by
  induction n generalizing k with
  | zero =>
    rw [mvL, if_neg (by omega)]
    by_cases e : k = m - 0
    · rw [if_pos e, e]; rfl
    · rw [if_neg e]
  | succ n ih =>
    have ih := ih (by omega)
    rw [mvL, swp_get _ (by rw [mvL_size]; omega) (by rw [mvL_size]; omega)]
    by_cases h1 : k = m - n - 1
    · rw [if_pos h1, ih, if_neg (by omega), if_pos rfl, if_neg (by omega), if_pos (by omega)]
    · rw [if_neg h1]
      by_cases h2 : k = m - n
      · rw [if_pos h2, ih, if_neg (by omega), if_neg (by omega), if_pos (by omega), h2]
      · rw [if_neg h2, ih]
        by_cases h3 : m - n < k ∧ k ≤ m
        · rw [if_pos h3, if_pos (by omega)]
        · rw [if_neg h3, if_neg h2, if_neg (by omega), if_neg (by omega)]
theorem mvR_perm (d : Array α) (a n lo hi : Nat) (h1 : lo ≤ a) (h2 : a + n < hi) (hs : hi ≤ d.size) : PermIn lo hi d (mvR d a n) := by
  induction n with
  | zero => exact permIn_refl _ _ _
  | succ n ih => exact permIn_trans _ _ _ _ _ (ih (by omega)) (swp_permIn _ _ _ _ _ (by omega) (by omega) (by omega) (by omega) (by rw [mvR_size]; exact hs))
theorem mvL_perm (d : Array α) (m n lo hi : Nat) (h1 : lo + n ≤ m) (h2 : m < hi) (hs : hi ≤ d.size) : PermIn lo hi d (mvL d m n) := by
  induction n with
  | zero => exact permIn_refl _ _ _
  | succ n ih => exact permIn_trans _ _ _ _ _ (ih (by omega)) (swp_permIn _ _ _ _ _ (by omega) (by omega) (by omega) (by omega) (by rw [mvL_size]; exact hs))
/-! The merge. -/
section
variable (lt : α → α → Bool)
def symS (d : Array α) (a m b : Nat) : Nat :=
  if (a + b) / 2 < m then bs (fun c => !lt d[(a + b) / 2 + m - 1 - c]! d[c]!) ((a + b) / 2) ((a + b) / 2 + m - b) ((a + b) / 2) else bs (fun c => !lt d[(a + b) / 2 + m - 1 - c]! d[c]!) m a m
def symM : Nat → Array α → Nat → Nat → Nat → Array α
  | 0, d, _, _, _ => d
  | f + 1, d, a, m, b =>
    if m - a = 1 then mvR d a (bs (fun h => lt d[h]! d[a]!) b m b - 1 - a) else
    if b - m = 1 then mvL d m (m - bs (fun h => !lt d[m]! d[h]!) m a m) else
    let mid := (a + b) / 2
    let s := symS lt d a m b
    let e := mid + m - s
    let d1 := if s < m ∧ m < e then rot d m (e - s) (m - s) (e - m) else d
    let d2 := if a < s ∧ s < mid then symM f d1 a s mid else d1
    if mid < e ∧ e < b then symM f d2 mid e b else d2
end
theorem sin_get {T : α → α → Bool} (hT : SWO T) {a b : Nat} {d : Array α} (h : SortedIn T a b d) {i j : Nat} (h1 : a ≤ i) (h2 : i ≤ j) (h3 : j < b) : T d[j]! d[i]! = false := by
  rcases Nat.lt_or_ge i j with hlt | hge
  · exact h i j h1 hlt h3
  · obtain rfl : i = j := by omega
    exact hT.irrefl _
theorem symS_spec {lt T : α → α → Bool} (hT : SWO T) {d : Array α} {a m b : Nat} (ham : a < m) (hmb : m < b) (hL : SortedIn T a m d) (hR : SortedIn T m b d) (hC : ∀ i j, a ≤ i → i < m → m ≤ j → j < b → lt d[j]! d[i]! = T d[j]! d[i]!) :
    a ≤ symS lt d a m b ∧ symS lt d a m b ≤ m ∧ symS lt d a m b ≤ (a + b) / 2 ∧ m ≤ (a + b) / 2 + m - symS lt d a m b ∧ (a + b) / 2 + m - symS lt d a m b ≤ b ∧
      (∀ c q, a ≤ c → c < symS lt d a m b → (a + b) / 2 + m - symS lt d a m b ≤ q → q < b → T d[q]! d[c]! = false) ∧
      (∀ c q, symS lt d a m b ≤ c → c < m → m ≤ q → q < (a + b) / 2 + m - symS lt d a m b → T d[c]! d[q]! = false) := by
  have main : ∀ st r s, s = bs (fun c => !lt d[(a + b) / 2 + m - 1 - c]! d[c]!) (r) st r → a ≤ st → st ≤ r → r ≤ m → r ≤ (a + b) / 2 → (a + b) / 2 + m - st ≤ b → (st = a ∨ (a + b) / 2 + m - st = b) → (r = m ∨ r = (a + b) / 2) →
      a ≤ s ∧ s ≤ m ∧ s ≤ (a + b) / 2 ∧ m ≤ (a + b) / 2 + m - s ∧ (a + b) / 2 + m - s ≤ b ∧
      (∀ c q, a ≤ c → c < s → (a + b) / 2 + m - s ≤ q → q < b → T d[q]! d[c]! = false) ∧
      (∀ c q, s ≤ c → c < m → m ≤ q → q < (a + b) / 2 + m - s → T d[c]! d[q]! = false) := by
    intro st r s hs h1 h2 h3 h4 h5 h6 h7
    have hp : ∀ x, st ≤ x → x < r → (!lt d[(a + b) / 2 + m - 1 - x]! d[x]!) = !T d[(a + b) / 2 + m - 1 - x]! d[x]! := fun x g1 g2 => by
      rw [hC x _ (by omega) (by omega) (by omega) (by omega)]
    obtain ⟨e1, e2, e3, e4⟩ := bs_spec (p := fun c => !lt d[(a + b) / 2 + m - 1 - c]! d[c]!) r st r (by omega) h2 (fun x y g1 g2 g3 g4 => by
      have g4 : (!lt d[(a + b) / 2 + m - 1 - y]! d[y]!) = true := g4
      show (!lt d[(a + b) / 2 + m - 1 - x]! d[x]!) = true
      rw [hp y (by omega) g3] at g4
      rw [hp x g1 (by omega)]
      have k1 : T d[(a + b) / 2 + m - 1 - x]! d[(a + b) / 2 + m - 1 - y]! = false := sin_get hT hR (by omega) (by omega) (by omega)
      have k2 : T d[(a + b) / 2 + m - 1 - y]! d[y]! = false := by simpa using g4
      have k3 : T d[y]! d[x]! = false := sin_get hT hL (by omega) g2 (by omega)
      rw [hT.ntrans _ _ _ (hT.ntrans _ _ _ k1 k2) k3]; rfl)
    rw [← hs] at e1 e2 e3 e4
    refine ⟨by omega, by omega, by omega, by omega, by omega, fun c q g1 g2 g3 g4 => ?_, fun c q g1 g2 g3 g4 => ?_⟩
    · by_cases hst : st < s
      · have k := e3 (s - 1) (by omega) (by omega)
        have k : (!lt d[(a + b) / 2 + m - 1 - (s - 1)]! d[s - 1]!) = true := k
        rw [hp (s - 1) (by omega) (by omega)] at k
        have k2 : T d[(a + b) / 2 + m - 1 - (s - 1)]! d[s - 1]! = false := by simpa using k
        have k1 : T d[q]! d[(a + b) / 2 + m - 1 - (s - 1)]! = false := sin_get hT hR (by omega) (by omega) g4
        have k3 : T d[s - 1]! d[c]! = false := sin_get hT hL g1 (by omega) (by omega)
        exact hT.ntrans _ _ _ (hT.ntrans _ _ _ k1 k2) k3
      · exact absurd g3 (by omega)
    · by_cases hsr : s < r
      · have k := e4 s (Nat.le_refl _) hsr
        have k : (!lt d[(a + b) / 2 + m - 1 - s]! d[s]!) = false := k
        rw [hp s (by omega) hsr] at k
        have k2 : T d[(a + b) / 2 + m - 1 - s]! d[s]! = true := by simpa using k
        have k2' := hT.asymmA k2
        have k1 : T d[c]! d[s]! = false := sin_get hT hL (by omega) g1 g2
        have k3 : T d[(a + b) / 2 + m - 1 - s]! d[q]! = false := sin_get hT hR g3 (by omega) (by omega)
        exact hT.ntrans _ _ _ (hT.ntrans _ _ _ k1 k2') k3
      · exact absurd g4 (by omega)
  unfold symS
  by_cases hm : (a + b) / 2 < m
  · rw [if_pos hm]
    exact main ((a + b) / 2 + m - b) ((a + b) / 2) _ rfl (by omega) (by omega) (by omega) (Nat.le_refl _) (by omega) (Or.inr (by omega)) (Or.inr rfl)
  · rw [if_neg hm]
    exact main a m _ rfl (Nat.le_refl _) (by omega) (Nat.le_refl _) (by omega) (by omega) (Or.inl rfl) (Or.inl rfl)
theorem symM_spec {lt T : α → α → Bool} (hT : SWO T) : ∀ (f a m b : Nat) (d : Array α), b - a ≤ f → a < m → m < b → b ≤ d.size → SortedIn T a m d → SortedIn T m b d → (∀ i j, a ≤ i → i < m → m ≤ j → j < b → lt d[j]! d[i]! = T d[j]! d[i]!) →
    PermIn a b d (symM lt f d a m b) ∧ SortedIn T a b (symM lt f d a m b)
  | 0, a, m, b, d => by intro h1 h2; omega
  | f + 1, a, m, b, d => by
    intro hf ham hmb hsz hL hR hC
    rw [symM]
    by_cases hm1 : m - a = 1
    · rw [if_pos hm1]
      obtain rfl : m = a + 1 := by omega
      obtain ⟨e1, e2, e3, e4⟩ := bs_spec (p := fun h => lt d[h]! d[a]!) b (a + 1) b (by omega) (by omega) (fun x y g1 g2 g3 g4 => by
        have g4 : lt d[y]! d[a]! = true := g4
        show lt d[x]! d[a]! = true
        rw [hC a y (by omega) (by omega) (by omega) g3] at g4
        rw [hC a x (by omega) (by omega) g1 (by omega)]
        cases hx : T d[x]! d[a]! with
        | true => rfl
        | false => rw [hT.ntrans _ _ _ (sin_get hT hR g1 g2 g3) hx] at g4; cases g4)
      obtain ⟨s, hs⟩ : ∃ s, bs (fun h => lt d[h]! d[a]!) b (a + 1) b = s := ⟨_, rfl⟩
      rw [hs] at e1 e2 e3 e4 ⊢
      have g := mvR_get d a (s - 1 - a) (by omega)
      refine ⟨mvR_perm d a _ a b (Nat.le_refl _) (by omega) hsz, fun i j h1 h2 h3 => ?_⟩
      rw [g, g]
      by_cases c1 : a ≤ i ∧ i < a + (s - 1 - a)
      · rw [if_pos c1]
        by_cases c2 : a ≤ j ∧ j < a + (s - 1 - a)
        · rw [if_pos c2]; exact hR (i + 1) (j + 1) (by omega) (by omega) (by omega)
        · rw [if_neg c2]
          by_cases c3 : j = a + (s - 1 - a)
          · rw [if_pos c3]
            have k : lt d[i + 1]! d[a]! = true := e3 (i + 1) (by omega) (by omega)
            rw [hC a (i + 1) (by omega) (by omega) (by omega) (by omega)] at k
            exact hT.asymmA k
          · rw [if_neg c3]; exact hR (i + 1) j (by omega) (by omega) h3
      · rw [if_neg c1]
        by_cases c3 : i = a + (s - 1 - a)
        · rw [if_pos c3, if_neg (by omega), if_neg (by omega)]
          have k : lt d[j]! d[a]! = false := e4 j (by omega) h3
          rw [hC a j (by omega) (by omega) (by omega) h3] at k
          exact k
        · rw [if_neg c3, if_neg (by omega), if_neg (by omega)]; exact hR i j (by omega) h2 h3
    · rw [if_neg hm1]
      by_cases hb1 : b - m = 1
      · rw [if_pos hb1]
        obtain rfl : b = m + 1 := by omega
        obtain ⟨e1, e2, e3, e4⟩ := bs_spec (p := fun h => !lt d[m]! d[h]!) m a m (by omega) (by omega) (fun x y g1 g2 g3 g4 => by
          have g4 : (!lt d[m]! d[y]!) = true := g4
          show (!lt d[m]! d[x]!) = true
          rw [hC y m (by omega) g3 (Nat.le_refl _) (by omega)] at g4
          rw [hC x m g1 (by omega) (Nat.le_refl _) (by omega)]
          have k : T d[m]! d[y]! = false := by simpa using g4
          rw [hT.ntrans _ _ _ k (sin_get hT hL g1 g2 g3)]; rfl)
        obtain ⟨s, hs⟩ : ∃ s, bs (fun h => !lt d[m]! d[h]!) m a m = s := ⟨_, rfl⟩
        rw [hs] at e1 e2 e3 e4 ⊢
        have g := mvL_get d m (m - s) (by omega) (by omega)
        refine ⟨mvL_perm d m _ a (m + 1) (by omega) (by omega) hsz, fun i j h1 h2 h3 => ?_⟩
        rw [g, g]
        by_cases c2 : m - (m - s) < j ∧ j ≤ m
        · rw [if_pos c2]
          by_cases c1 : m - (m - s) < i ∧ i ≤ m
          · rw [if_pos c1]; exact hL (i - 1) (j - 1) (by omega) (by omega) (by omega)
          · rw [if_neg c1]
            by_cases c3 : i = m - (m - s)
            · rw [if_pos c3]
              have k : (!lt d[m]! d[j - 1]!) = false := e4 (j - 1) (by omega) (by omega)
              have k : lt d[m]! d[j - 1]! = true := by simpa using k
              rw [hC (j - 1) m (by omega) (by omega) (Nat.le_refl _) (by omega)] at k
              exact hT.asymmA k
            · rw [if_neg c3]; exact hL i (j - 1) h1 (by omega) (by omega)
        · rw [if_neg c2]
          by_cases c3 : j = m - (m - s)
          · rw [if_pos c3, if_neg (by omega), if_neg (by omega)]
            have k : (!lt d[m]! d[i]!) = true := e3 i h1 (by omega)
            rw [hC i m h1 (by omega) (Nat.le_refl _) (by omega)] at k
            simpa using k
          · rw [if_neg c3, if_neg (by omega), if_neg (by omega)]; exact hL i j h1 h2 (by omega)
      · rw [if_neg hb1]
        obtain ⟨s1, s2, s3, s4, s5, s6, s7⟩ := symS_spec hT ham hmb hL hR hC
        dsimp only
        obtain ⟨s, hs⟩ : ∃ s, symS lt d a m b = s := ⟨_, rfl⟩
        rw [hs] at s1 s2 s3 s4 s5 s6 s7 ⊢
        obtain ⟨mid, hmid⟩ : ∃ mid, (a + b) / 2 = mid := ⟨_, rfl⟩
        rw [hmid] at s3 s4 s5 s6 s7 ⊢
        have hm2 : a < mid ∧ mid < b := by omega
        obtain ⟨e, he⟩ : ∃ e, mid + m - s = e := ⟨_, rfl⟩
        rw [he] at s4 s5 s6 s7 ⊢
        obtain ⟨d1, hd1⟩ : ∃ d1, (if s < m ∧ m < e then rot d m (e - s) (m - s) (e - m) else d) = d1 := ⟨_, rfl⟩
        rw [hd1]
        have z1 : d1.size = d.size := by
          rw [← hd1]; split
          · exact rot_size _ _ _ _ _
          · rfl
        have p1 : PermIn a b d d1 := by
          rw [← hd1]; split
          · exact rot_perm m a b _ _ _ d (by omega) (by omega) (by omega) (by omega) (by omega) hsz
          · exact permIn_refl _ _ _
        have g1 : ∀ k, d1[k]! = if s ≤ k ∧ k < mid then d[k + (m - s)]! else if mid ≤ k ∧ k < e then d[k - (e - m)]! else d[k]! := fun k => by
          rw [← hd1]
          by_cases hr : s < m ∧ m < e
          · rw [if_pos hr, rot_get m _ _ _ d k (by omega) (by omega) (by omega) (by omega) (by omega)]
            by_cases c1 : s ≤ k ∧ k < mid
            · rw [if_pos c1, if_pos (by omega)]
            · rw [if_neg c1, if_neg (by omega)]
              by_cases c2 : mid ≤ k ∧ k < e
              · rw [if_pos c2, if_pos (by omega)]
              · rw [if_neg c2, if_neg (by omega)]
          · rw [if_neg hr]
            by_cases c1 : s ≤ k ∧ k < mid
            · rw [if_pos c1]; congr 1; omega
            · rw [if_neg c1]
              by_cases c2 : mid ≤ k ∧ k < e
              · rw [if_pos c2]; congr 1; omega
              · rw [if_neg c2]
        have L1 : ∀ k, a ≤ k → k < s → d1[k]! = d[k]! := fun k h1 h2 => by rw [g1, if_neg (by omega), if_neg (by omega)]
        have R1 : ∀ k, s ≤ k → k < mid → d1[k]! = d[k + (m - s)]! := fun k h1 h2 => by rw [g1, if_pos ⟨h1, h2⟩]
        have L2 : ∀ k, mid ≤ k → k < e → d1[k]! = d[k - (e - m)]! := fun k h1 h2 => by rw [g1, if_neg (by omega), if_pos ⟨h1, h2⟩]
        have R2 : ∀ k, e ≤ k → k < b → d1[k]! = d[k]! := fun k h1 h2 => by rw [g1, if_neg (by omega), if_neg (by omega)]
        have cross : ∀ i j, a ≤ i → i < mid → mid ≤ j → j < b → T d1[j]! d1[i]! = false := fun i j h1 h2 h3 h4 => by
          by_cases c1 : i < s
          · rw [L1 i h1 c1]
            by_cases c2 : j < e
            · rw [L2 j h3 c2]; exact sin_get hT hL h1 (by omega) (by omega)
            · rw [R2 j (by omega) h4]; exact s6 i j h1 c1 (by omega) h4
          · rw [R1 i (by omega) h2]
            by_cases c2 : j < e
            · rw [L2 j h3 c2]; exact s7 _ _ (by omega) (by omega) (by omega) (by omega)
            · rw [R2 j (by omega) h4]; exact sin_get hT hR (by omega) (by omega) h4
        obtain ⟨d2, hd2⟩ : ∃ d2, (if a < s ∧ s < mid then symM lt f d1 a s mid else d1) = d2 := ⟨_, rfl⟩
        rw [hd2]
        have q2 : PermIn a mid d1 d2 ∧ SortedIn T a mid d2 := by
          rw [← hd2]
          by_cases hr : a < s ∧ s < mid
          · rw [if_pos hr]
            refine symM_spec hT f a s mid d1 (by omega) hr.1 hr.2 (by omega) (fun i j h1 h2 h3 => ?_) (fun i j h1 h2 h3 => ?_) (fun i j h1 h2 h3 h4 => ?_)
            · rw [L1 i h1 (by omega), L1 j (by omega) h3]; exact hL i j h1 h2 (by omega)
            · rw [R1 i h1 (by omega), R1 j (by omega) h3]; exact hR _ _ (by omega) (by omega) (by omega)
            · rw [L1 i h1 h2, R1 j h3 h4]; exact hC _ _ h1 (by omega) (by omega) (by omega)
          · rw [if_neg hr]
            refine ⟨permIn_refl _ _ _, fun i j h1 h2 h3 => ?_⟩
            by_cases c : s = a
            · rw [R1 i (by omega) (by omega), R1 j (by omega) h3]; exact hR _ _ (by omega) (by omega) (by omega)
            · rw [L1 i h1 (by omega), L1 j (by omega) (by omega)]; exact hL i j h1 h2 (by omega)
        obtain ⟨p2, o2⟩ := q2
        have z2 : d2.size = d1.size := p2.1
        have k2 : ∀ k, mid ≤ k → d2[k]! = d1[k]! := fun k hk => p2.2.1 k (Or.inr hk)
        have cross2 : ∀ i j, a ≤ i → i < mid → mid ≤ j → j < b → T d2[j]! d2[i]! = false := fun i j h1 h2 h3 h4 => by
          rw [k2 j h3]
          exact permIn_all d1 d2 a mid (fun x => T d1[j]! x = false) (by omega) p2 (fun i h1 h2 => cross i j h1 h2 h3 h4) i h1 h2
        have q3 : PermIn mid b d2 (if mid < e ∧ e < b then symM lt f d2 mid e b else d2) ∧ SortedIn T mid b (if mid < e ∧ e < b then symM lt f d2 mid e b else d2) := by
          by_cases hr : mid < e ∧ e < b
          · rw [if_pos hr]
            refine symM_spec hT f mid e b d2 (by omega) hr.1 hr.2 (by omega) (fun i j h1 h2 h3 => ?_) (fun i j h1 h2 h3 => ?_) (fun i j h1 h2 h3 h4 => ?_)
            · rw [k2 i h1, k2 j (by omega), L2 i h1 (by omega), L2 j (by omega) h3]; exact hL _ _ (by omega) (by omega) (by omega)
            · rw [k2 i (by omega), k2 j (by omega), R2 i h1 (by omega), R2 j (by omega) h3]; exact hR _ _ (by omega) h2 h3
            · rw [k2 i h1, k2 j (by omega), L2 i h1 h2, R2 j h3 h4]; exact hC _ _ (by omega) (by omega) (by omega) h4
          · rw [if_neg hr]
            refine ⟨permIn_refl _ _ _, fun i j h1 h2 h3 => ?_⟩
            rw [k2 i h1, k2 j (by omega)]
            by_cases c : e = mid
            · rw [R2 i (by omega) (by omega), R2 j (by omega) h3]; exact hR _ _ (by omega) h2 h3
            · rw [L2 i h1 (by omega), L2 j (by omega) (by omega)]; exact hL _ _ (by omega) (by omega) (by omega)
        obtain ⟨p3, o3⟩ := q3
        obtain ⟨d3, hd3⟩ : ∃ d3, (if mid < e ∧ e < b then symM lt f d2 mid e b else d2) = d3 := ⟨_, rfl⟩
        rw [hd3] at p3 o3 ⊢
        have k3 : ∀ k, k < mid → d3[k]! = d2[k]! := fun k hk => p3.2.1 k (Or.inl hk)
        refine ⟨permIn_trans _ _ _ _ _ p1 (permIn_trans _ _ _ _ _ (permIn_mono _ _ _ _ _ _ (Nat.le_refl _) (by omega) (by omega) p2) (permIn_mono _ _ _ _ _ _ (by omega) (Nat.le_refl _) (by omega) p3)), fun i j h1 h2 h3 => ?_⟩
        by_cases c1 : j < mid
        · rw [k3 i (by omega), k3 j c1]; exact o2 i j h1 h2 c1
        · by_cases c2 : mid ≤ i
          · exact o3 i j c2 h2 h3
          · rw [k3 i (by omega)]
            exact permIn_all d2 d3 mid b (fun y => T y d2[i]! = false) (by omega) p3 (fun j h3 h4 => cross2 i j h1 (by omega) h3 h4) j (by omega) h3
/-! Blocks of twenty, then merges. -/
section
variable (lt : α → α → Bool)
def insB (n : Nat) : Nat → Nat → Array α → Array α
  | 0, a, d => insertionSort lt d a n
  | f + 1, a, d => if a + 20 ≤ n then insB n f (a + 20) (insertionSort lt d a (a + 20)) else insertionSort lt d a n
def mrgB (n k : Nat) : Nat → Nat → Array α → Array α
  | 0, _, d => d
  | f + 1, a, d => if a + 2 * k ≤ n then mrgB n k f (a + 2 * k) (symM lt n d a (a + k) (a + 2 * k)) else if a + k < n then symM lt n d a (a + k) n else d
def stabB (n : Nat) : Nat → Nat → Array α → Array α
  | 0, _, d => d
  | f + 1, k, d => if k < n then stabB n f (2 * k) (mrgB lt n k n 0 d) else d
def stable (n : Nat) (d : Array α) : Array α := stabB lt n n 20 (insB lt n n 0 d)
/-- Less, or level and with the lesser mark. -/
def marked (tg : α → Nat) (x y : α) : Bool := lt x y || (!lt y x && decide (tg x < tg y))
end
section
variable {lt : α → α → Bool} {tg : α → Nat}
omit [Inhabited α] in
theorem marked_no {x y : α} : marked lt tg x y = false ↔ lt x y = false ∧ (lt y x = false → tg y ≤ tg x) := by
  unfold marked
  cases lt x y <;> cases lt y x <;> simp
omit [Inhabited α] in
theorem marked_yes {x y : α} : marked lt tg x y = true ↔ lt x y = true ∨ (lt y x = false ∧ tg x < tg y) := by
  unfold marked
  cases lt x y <;> cases lt y x <;> simp
omit [Inhabited α] in
theorem marked_of {x y : α} (h : tg x < tg y) : lt y x = marked lt tg y x := by
  unfold marked
  rw [show decide (tg y < tg x) = false from decide_eq_false (by omega)]
  simp
omit [Inhabited α] in
theorem marked_swo (h : SWO lt) : SWO (marked lt tg) where
  irrefl x := by rw [marked_no]; exact ⟨h.irrefl x, fun _ => Nat.le_refl _⟩
  trans x y z h1 h2 := by
    rw [marked_yes] at *
    cases hxz : lt x z with
    | true => exact Or.inl rfl
    | false =>
      refine Or.inr ?_
      have n1 : lt x y = false := by
        cases hxy : lt x y with
        | false => rfl
        | true =>
          exfalso
          rcases h2 with h2 | ⟨h2, -⟩
          · rw [h.trans _ _ _ hxy h2] at hxz; cases hxz
          · have := h.ntrans _ _ _ hxz h2; rw [hxy] at this; cases this
      have h1 : lt y x = false ∧ tg x < tg y := by rcases h1 with h1 | h1; · rw [n1] at h1; cases h1
                                                   · exact h1
      have n2 : lt y z = false := by
        cases hyz : lt y z with
        | false => rfl
        | true => have := h.ntrans _ _ _ h1.1 hxz; rw [hyz] at this; cases this
      have h2 : lt z y = false ∧ tg y < tg z := by rcases h2 with h2 | h2; · rw [n2] at h2; cases h2
                                                   · exact h2
      exact ⟨h.ntrans _ _ _ h2.1 h1.1, by omega⟩
  ntrans x y z h1 h2 := by
    rw [marked_no] at *
    refine ⟨h.ntrans _ _ _ h1.1 h2.1, fun h3 => ?_⟩
    have a1 := h2.2 (h.ntrans _ _ _ h3 h1.1)
    have a2 := h1.2 (h.ntrans _ _ _ h2.1 h3)
    omega
theorem insInner_size (lt : α → α → Bool) (a : Nat) : ∀ (j : Nat) (d : Array α), (insInner lt a j d).size = d.size
  | 0, d => rfl
  | j + 1, d => by
    rw [insInner]; split
    · rw [insInner_size lt a j, swp_size]
    · rfl
theorem insInner_perm (lt : α → α → Bool) (a hi : Nat) : ∀ (j : Nat) (d : Array α), j < hi → hi ≤ d.size → PermIn a hi d (insInner lt a j d)
  | 0, d => fun _ _ => permIn_refl _ _ _
  | j + 1, d => fun h1 h2 => by
    rw [insInner]; split
    · rename_i hc
      have hc : j + 1 > a := by simp at hc; omega
      exact permIn_trans _ _ _ _ _ (swp_permIn d a hi (j + 1) j (by omega) h1 (by omega) (by omega) h2) (insInner_perm lt a hi j _ (by omega) (by rw [swp_size]; exact h2))
    · exact permIn_refl _ _ _
theorem insInner_marked (a : Nat) : ∀ (j : Nat) (d : Array α), j < d.size → (∀ p, a ≤ p → p < j → tg d[p]! < tg d[j]!) → insInner lt a j d = insInner (marked lt tg) a j d
  | 0, d => fun _ _ => rfl
  | j + 1, d => fun hs hp => by
    rw [insInner, insInner]
    by_cases ha : a ≤ j
    · rw [← marked_of (hp j ha (by omega))]
      split
      · refine insInner_marked a j _ (by rw [swp_size]; omega) fun p h1 h2 => ?_
        rw [swp_other _ _ _ _ (by omega) (by omega), swp_right _ _ _ (by omega)]
        exact hp p h1 (by omega)
      · rfl
    · rw [if_neg (by simp; omega), if_neg (by simp; omega)]
theorem insOuter_marked (a b : Nat) : ∀ (f i : Nat) (d : Array α), b - i ≤ f → a ≤ i → b ≤ d.size → (∀ p q, a ≤ p → p < q → i ≤ q → q < b → tg d[p]! < tg d[q]!) → insOuter lt a b i d = insOuter (marked lt tg) a b i d
  | f, i, d => by
    intro hf hai hb hp
    by_cases hib : i < b
    · obtain ⟨f, rfl⟩ : ∃ f', f = f' + 1 := ⟨f - 1, by omega⟩
      have e1 : insOuter lt a b i d = insOuter lt a b (i + 1) (insInner lt a i d) := by rw [insOuter, if_pos hib]
      have e2 : insOuter (marked lt tg) a b i d = insOuter (marked lt tg) a b (i + 1) (insInner (marked lt tg) a i d) := by rw [insOuter, if_pos hib]
      rw [e1, e2, ← insInner_marked (tg := tg) a i d (by omega) (fun p h1 h2 => hp p i h1 h2 (Nat.le_refl _) hib)]
      have P := insInner_perm lt a (i + 1) i d (by omega) (by omega)
      refine insOuter_marked a b f (i + 1) _ (by omega) (by omega) (by rw [insInner_size]; exact hb) fun p q h1 h2 h3 h4 => ?_
      have eq : (insInner lt a i d)[q]! = d[q]! := P.2.1 q (Or.inr h3)
      rw [eq]
      by_cases hpi : p < i + 1
      · exact permIn_all _ _ a (i + 1) (fun x => tg x < tg d[q]!) (by omega) P (fun r g1 g2 => hp r q g1 (by omega) (by omega) h4) p h1 hpi
      · rw [P.2.1 p (Or.inr (by omega))]; exact hp p q h1 h2 (by omega) h4
    · have e1 : insOuter lt a b i d = d := by rw [insOuter, if_neg hib]
      have e2 : insOuter (marked lt tg) a b i d = d := by rw [insOuter, if_neg hib]
      rw [e1, e2]
/-- Where blocks of k begin. -/
def Bd (k t : Nat) : Prop := ∃ q, t = q * k
theorem bd_next {k a t : Nat} (ha : Bd k a) (ht : Bd k t) (h : a < t) : a + k ≤ t := by
  obtain ⟨q, rfl⟩ := ha
  obtain ⟨r, rfl⟩ := ht
  have : q < r := Nat.lt_of_mul_lt_mul_right h
  calc q * k + k = (q + 1) * k := by rw [Nat.add_mul, Nat.one_mul]
    _ ≤ r * k := Nat.mul_le_mul_right k this
theorem bd_add {k a : Nat} (ha : Bd k a) : Bd k (a + k) := by obtain ⟨q, rfl⟩ := ha; exact ⟨q + 1, by rw [Nat.add_mul, Nat.one_mul]⟩
theorem bd_two {k t : Nat} (h : Bd (2 * k) t) : Bd k t := by obtain ⟨q, rfl⟩ := h; exact ⟨q * 2, by rw [Nat.mul_assoc]⟩
theorem bd_one (t : Nat) : Bd 1 t := ⟨t, by omega⟩
/-- The blocks of k are in order, and their marks rise from block to block. -/
structure Blk (T : α → α → Bool) (tg : α → Nat) (n k : Nat) (d : Array α) : Prop where
  srt : ∀ t, Bd k t → SortedIn T t (min (t + k) n) d
  mks : ∀ i t j, Bd k t → i < t → t ≤ j → j < n → tg d[i]! < tg d[j]!
/-- Blocks of K up to a, blocks of k from there on. -/
structure Mid (T : α → α → Bool) (tg : α → Nat) (n k K a : Nat) (d : Array α) : Prop where
  s1 : ∀ t, Bd K t → t + K ≤ a → SortedIn T t (t + K) d
  s2 : ∀ t, Bd k t → a ≤ t → SortedIn T t (min (t + k) n) d
  m1 : ∀ i t j, Bd K t → i < t → t ≤ j → j < n → tg d[i]! < tg d[j]!
  m2 : ∀ i t j, Bd k t → a ≤ i → i < t → t ≤ j → j < n → tg d[i]! < tg d[j]!
theorem SortedIn_congr {T : α → α → Bool} {a b : Nat} {d d' : Array α} (h : SortedIn T a b d) (he : ∀ p, a ≤ p → p < b → d'[p]! = d[p]!) : SortedIn T a b d' := fun i j h1 h2 h3 => by
  rw [he i h1 (by omega), he j (by omega) h3]; exact h i j h1 h2 h3
section
variable {T : α → α → Bool} {n k K a : Nat} {d d' : Array α}
theorem Blk.mid (h : Blk T tg n k d) (hK : ∀ t, Bd K t → Bd k t) : Mid T tg n k K 0 d :=
  ⟨fun t ht h1 => by
    intro i j g1 g2 g3; omega, fun t ht _ => h.srt t ht, fun i t j ht => h.mks i t j (hK t ht), fun i t j ht _ => h.mks i t j ht⟩
theorem Mid.marks (h : Mid T tg n k K a d) (ha : Bd K a) {hi : Nat} (hh : hi = min (a + K) n) (hn : n ≤ d.size) (P : PermIn a hi d d') : ∀ i t j, Bd K t → i < t → t ≤ j → j < n → tg d'[i]! < tg d'[j]! := by
  intro i t j ht h1 h2 h3
  have ei : (i < a ∨ hi ≤ i) → d'[i]! = d[i]! := P.2.1 i
  have ej : (j < a ∨ hi ≤ j) → d'[j]! = d[j]! := P.2.1 j
  by_cases c1 : i < a
  · rw [ei (Or.inl c1)]
    by_cases c2 : j < a ∨ hi ≤ j
    · rw [ej c2]; exact h.m1 i t j ht h1 h2 h3
    · exact permIn_all _ _ a hi (fun y => tg d[i]! < tg y) (by omega) P (fun r g1 g2 => h.m1 i a r ha c1 g1 (by omega)) j (by omega) (by omega)
  · by_cases c2 : i < hi
    · have := bd_next ha ht (by omega)
      rw [ej (Or.inr (by omega))]
      exact permIn_all _ _ a hi (fun y => tg y < tg d[j]!) (by omega) P (fun r g1 g2 => h.m1 r t j ht (by omega) h2 h3) i (by omega) c2
    · rw [ei (Or.inr (by omega)), ej (Or.inr (by omega))]; exact h.m1 i t j ht h1 h2 h3
theorem Mid.step (h : Mid T tg n k K a d) (ha : Bd K a) (hK : 0 < K) (hn : n ≤ d.size) (hle : a + K ≤ n) (P : PermIn a (a + K) d d') (S : SortedIn T a (a + K) d') : Mid T tg n k K (a + K) d' := by
  refine ⟨fun t ht h1 => ?_, fun t ht h1 => ?_, h.marks ha (hi := a + K) (by omega) hn P, fun i t j ht h1 h2 h3 h4 => ?_⟩
  · by_cases e : t = a
    · rw [e]; exact S
    · have h2 : t < a := by omega
      have := bd_next ht ha h2
      exact SortedIn_congr (h.s1 t ht this) fun p g1 g2 => P.2.1 p (Or.inl (by omega))
  · exact SortedIn_congr (h.s2 t ht (by omega)) fun p g1 g2 => P.2.1 p (Or.inr (by omega))
  · rw [P.2.1 i (Or.inr h1), P.2.1 j (Or.inr (by omega))]; exact h.m2 i t j ht (by omega) h2 h3 h4
theorem Mid.last (h : Mid T tg n k K a d) (ha : Bd K a) (hn : n ≤ d.size) (han : a ≤ n) (hle : n ≤ a + K) (P : PermIn a n d d') (S : SortedIn T a n d') : Blk T tg n K d' := by
  refine ⟨fun t ht => ?_, h.marks ha (hi := n) (by omega) hn P⟩
  rcases Nat.lt_trichotomy t a with c | rfl | c
  · have := bd_next ht ha c
    rw [Nat.min_eq_left (by omega)]
    exact SortedIn_congr (h.s1 t ht this) fun p g1 g2 => P.2.1 p (Or.inl (by omega))
  · rw [Nat.min_eq_right hle]; exact S
  · have := bd_next ha ht c
    intro i j g1 g2 g3; omega
end
theorem insertion_marked (hT : SWO lt) {d : Array α} {a b : Nat} (hab : a ≤ b) (hb : b ≤ d.size) (hm : ∀ p q, a ≤ p → p < q → q < b → tg d[p]! < tg d[q]!) :
    PermIn a b d (insertionSort lt d a b) ∧ SortedIn (marked lt tg) a b (insertionSort lt d a b) := by
  have e : insertionSort lt d a b = insertionSort (marked lt tg) d a b := insOuter_marked a b b (a + 1) d (by omega) (by omega) hb (fun p q h1 h2 _ h4 => hm p q h1 h2 h4)
  rw [e]
  exact insertionSort_holds (marked_swo hT) d a b hab hb
theorem insB_spec (hT : SWO lt) (n : Nat) : ∀ (f a : Nat) (d : Array α), n - a ≤ f → n ≤ d.size → a ≤ n → Bd 20 a → Mid (marked lt tg) tg n 1 20 a d → PermIn a n d (insB lt n f a d) ∧ Blk (marked lt tg) tg n 20 (insB lt n f a d)
  | f, a, d => by
    intro hf hn han hB hM
    by_cases hle : a + 20 ≤ n
    · obtain ⟨f, rfl⟩ : ∃ f', f = f' + 1 := ⟨f - 1, by omega⟩
      rw [insB, if_pos hle]
      obtain ⟨P, S⟩ := insertion_marked (tg := tg) hT (d := d) (a := a) (b := a + 20) (by omega) (by omega) (fun p q h1 h2 h3 => hM.m2 p q q (bd_one q) h1 h2 (Nat.le_refl _) (by omega))
      obtain ⟨P2, B⟩ := insB_spec hT n f (a + 20) _ (by omega) (by rw [P.1]; exact hn) hle (bd_add hB) (hM.step hB (by decide) hn hle P S)
      exact ⟨permIn_trans _ _ _ _ _ (permIn_mono _ _ _ _ _ _ (Nat.le_refl _) hle hn P) (permIn_mono _ _ _ _ _ _ (by omega) (Nat.le_refl _) (by rw [P.1]; exact hn) P2), B⟩
    · have e : insB lt n f a d = insertionSort lt d a n := by
        cases f with
        | zero => rfl
        | succ f => rw [insB, if_neg hle]
      rw [e]
      obtain ⟨P, S⟩ := insertion_marked (tg := tg) hT (d := d) (a := a) (b := n) han hn (fun p q h1 h2 h3 => hM.m2 p q q (bd_one q) h1 h2 (Nat.le_refl _) (by omega))
      exact ⟨P, hM.last hB hn han (by omega) P S⟩
theorem mrgB_spec (hT : SWO lt) (n k : Nat) (hk : 0 < k) : ∀ (f a : Nat) (d : Array α), n - a ≤ f → n ≤ d.size → a ≤ n → Bd (2 * k) a → Mid (marked lt tg) tg n k (2 * k) a d → PermIn a n d (mrgB lt n k f a d) ∧ Blk (marked lt tg) tg n (2 * k) (mrgB lt n k f a d)
  | f, a, d => by
    intro hf hn han hB hM
    have hak : Bd k a := bd_two hB
    have hak2 : Bd k (a + k) := bd_add hak
    have s1 := hM.s2 a hak (Nat.le_refl _)
    have s2 := hM.s2 (a + k) hak2 (by omega)
    have hC : ∀ b, b ≤ n → ∀ i j, a ≤ i → i < a + k → a + k ≤ j → j < b → lt d[j]! d[i]! = marked lt tg d[j]! d[i]! := fun b hb i j h1 h2 h3 h4 => marked_of (hM.m2 i (a + k) j hak2 h1 h2 h3 (by omega))
    by_cases hle : a + 2 * k ≤ n
    · obtain ⟨f, rfl⟩ : ∃ f', f = f' + 1 := ⟨f - 1, by omega⟩
      rw [mrgB, if_pos hle]
      rw [Nat.min_eq_left (by omega)] at s1 s2
      rw [show a + k + k = a + 2 * k from by omega] at s2
      obtain ⟨P, S⟩ := symM_spec (lt := lt) (marked_swo (tg := tg) hT) n a (a + k) (a + 2 * k) d (by omega) (by omega) (by omega) (by omega) s1 s2 (hC _ hle)
      obtain ⟨P2, B⟩ := mrgB_spec hT n k hk f (a + 2 * k) _ (by omega) (by rw [P.1]; exact hn) hle (bd_add hB) (hM.step hB (by omega) hn hle P S)
      exact ⟨permIn_trans _ _ _ _ _ (permIn_mono _ _ _ _ _ _ (Nat.le_refl _) hle hn P) (permIn_mono _ _ _ _ _ _ (by omega) (Nat.le_refl _) (by rw [P.1]; exact hn) P2), B⟩
    · by_cases hlt : a + k < n
      · obtain ⟨f, rfl⟩ : ∃ f', f = f' + 1 := ⟨f - 1, by omega⟩
        rw [mrgB, if_neg hle, if_pos hlt]
        rw [Nat.min_eq_left (by omega)] at s1
        rw [Nat.min_eq_right (by omega)] at s2
        obtain ⟨P, S⟩ := symM_spec (lt := lt) (marked_swo (tg := tg) hT) n a (a + k) n d (by omega) (by omega) hlt hn s1 s2 (hC n (Nat.le_refl _))
        exact ⟨P, hM.last hB hn han (by omega) P S⟩
      · have e : mrgB lt n k f a d = d := by
          cases f with
          | zero => rfl
          | succ f => rw [mrgB, if_neg hle, if_neg hlt]
        rw [e]
        rw [Nat.min_eq_right (by omega)] at s1
        exact ⟨permIn_refl _ _ _, hM.last hB hn han (by omega) (permIn_refl _ _ _) s1⟩
theorem stabB_spec (hT : SWO lt) (n : Nat) : ∀ (f k : Nat) (d : Array α), n - k ≤ f → 0 < k → n ≤ d.size → Blk (marked lt tg) tg n k d → PermIn 0 n d (stabB lt n f k d) ∧ SortedIn (marked lt tg) 0 n (stabB lt n f k d)
  | f, k, d => by
    intro hf hk hn hB
    by_cases hlt : k < n
    · obtain ⟨f, rfl⟩ : ∃ f', f = f' + 1 := ⟨f - 1, by omega⟩
      rw [stabB, if_pos hlt]
      obtain ⟨P, B⟩ := mrgB_spec hT n k hk n 0 d (by omega) hn (Nat.zero_le _) ⟨0, by omega⟩ (hB.mid fun t => bd_two)
      obtain ⟨P2, S⟩ := stabB_spec hT n f (2 * k) _ (by omega) (by omega) (by rw [P.1]; exact hn) B
      exact ⟨permIn_trans _ _ _ _ _ P P2, S⟩
    · have e : stabB lt n f k d = d := by
        cases f with
        | zero => rfl
        | succ f => rw [stabB, if_neg hlt]
      rw [e]
      have := hB.srt 0 ⟨0, by omega⟩
      rw [Nat.min_eq_right (by omega)] at this
      exact ⟨permIn_refl _ _ _, this⟩
/-- A stable sort: by the order, and level ones by their marks. -/
theorem stable_spec (hT : SWO lt) (d : Array α) (hm : ∀ p q, p < q → q < d.size → tg d[p]! < tg d[q]!) : PermIn 0 d.size d (stable lt d.size d) ∧ SortedIn (marked lt tg) 0 d.size (stable lt d.size d) := by
  have M : Mid (marked lt tg) tg d.size 1 20 0 d := ⟨fun t ht h => by intro i j g1 g2 g3; omega, fun t ht h => by intro i j g1 g2 g3; omega, fun i t j _ h1 h2 h3 => hm i j (by omega) h3, fun i t j _ _ h1 h2 h3 => hm i j (by omega) h3⟩
  obtain ⟨P, B⟩ := insB_spec hT d.size d.size 0 d (by omega) (Nat.le_refl _) (Nat.zero_le _) ⟨0, rfl⟩ M
  obtain ⟨P2, S⟩ := stabB_spec hT d.size d.size 20 _ (by omega) (by decide) (by rw [P.1]; exact Nat.le_refl _) B
  exact ⟨permIn_trans _ _ _ _ _ P P2, S⟩
end
end
end Go.Proofs.YthejgholpkeldaaGreatDoor
