/- Plain: the comparison of codes is a total order. No program here. -/
import Derived.Test.YtjdhjnciokhbkaaGreatDoorKCmpC
namespace Go.Proofs.YtjdhjnciokhbkaaGreatDoor
open Go.RowKit
set_option maxRecDepth 100000

structure IsCmp {α : Type} (f : α → α → Int) : Prop where
  neg : ∀ x y, f y x = - f x y
  lo : ∀ x y, -1 ≤ f x y
  hi : ∀ x y, f x y ≤ 1
  tr : ∀ x y z, f x y ≤ 0 → f y z ≤ 0 → f x z ≤ 0
theorem IsCmp.lt {α : Type} {f : α → α → Int} (h : IsCmp f) {x y z : α} (h1 : f x y < 0) (h2 : f y z ≤ 0) : f x z < 0 := by
  by_cases hq : f x z < 0
  · exact hq
  · have a := h.tr y z x h2 (by rw [h.neg x z]; omega)
    rw [h.neg x y] at a
    omega
theorem IsCmp.lt' {α : Type} {f : α → α → Int} (h : IsCmp f) {x y z : α} (h1 : f x y ≤ 0) (h2 : f y z < 0) : f x z < 0 := by
  by_cases hq : f x z < 0
  · exact hq
  · have a := h.tr z x y (by rw [h.neg x z]; omega) h1
    rw [h.neg y z] at a
    omega
def lexC {α : Type} (f g : α → α → Int) (x y : α) : Int := if f x y ≠ 0 then f x y else g x y
theorem isCmp_lex {α : Type} {f g : α → α → Int} (hf : IsCmp f) (hg : IsCmp g) : IsCmp (lexC f g) := by
  refine ⟨fun x y => ?_, fun x y => ?_, fun x y => ?_, fun x y z h1 h2 => ?_⟩
  · unfold lexC
    have := hf.neg x y
    by_cases h : f x y = 0
    · rw [if_neg (by omega), if_neg (by omega)]; exact hg.neg x y
    · rw [if_pos (by omega), if_pos h]; exact this
  · unfold lexC; split
    · exact hf.lo x y
    · exact hg.lo x y
  · unfold lexC; split
    · exact hf.hi x y
    · exact hg.hi x y
  · unfold lexC at h1 h2 ⊢
    by_cases a : f x y = 0
    · rw [if_neg (by omega)] at h1
      by_cases b : f y z = 0
      · rw [if_neg (by omega)] at h2
        have c1 := hf.tr x y z (by omega) (by omega)
        have c2 := hf.tr z y x (by rw [hf.neg y z]; omega) (by rw [hf.neg x y]; omega)
        rw [hf.neg x z] at c2
        rw [if_neg (by omega)]
        exact hg.tr x y z h1 h2
      · rw [if_pos b] at h2
        have c := hf.lt' (x := x) (y := y) (z := z) (by omega) (by omega)
        rw [if_pos (by omega)]; omega
    · rw [if_pos a] at h1
      have c : f x z < 0 := by
        by_cases b : f y z = 0
        · exact hf.lt (y := y) (by omega) (by omega)
        · rw [if_pos b] at h2; exact hf.lt (y := y) (by omega) h2
      rw [if_pos (by omega)]; omega
theorem isCmp_on {α β : Type} {f : β → β → Int} (k : α → β) (h : IsCmp f) : IsCmp fun x y => f (k x) (k y) :=
  ⟨fun _ _ => h.neg _ _, fun _ _ => h.lo _ _, fun _ _ => h.hi _ _, fun _ _ _ => h.tr _ _ _⟩
theorem isCmp_of {α : Type} {f g : α → α → Int} (h : IsCmp g) (e : ∀ x y, f x y = g x y) : IsCmp f := by
  have : f = g := by funext x y; exact e x y
  rw [this]; exact h
def cmpNat (a b : Nat) : Int := if a < b then -1 else if b < a then 1 else 0
theorem isCmp_nat : IsCmp cmpNat := by
  refine ⟨fun x y => ?_, fun x y => ?_, fun x y => ?_, fun x y z => ?_⟩ <;> unfold cmpNat <;> (repeat' split) <;> omega
/-- Lists, by their elements, the shorter first. -/
def cmpL {α : Type} (f : α → α → Int) : List α → List α → Int
  | [], [] => 0
  | [], _ :: _ => -1
  | _ :: _, [] => 1
  | x :: xs, y :: ys => if f x y ≠ 0 then f x y else cmpL f xs ys
theorem cmpL_neg {α : Type} {f : α → α → Int} (h : IsCmp f) : ∀ x y, cmpL f y x = - cmpL f x y
  | [], [] => rfl
  | [], _ :: _ => rfl
  | _ :: _, [] => rfl
  | x :: xs, y :: ys => by
    rw [cmpL, cmpL]
    have := h.neg x y
    by_cases hq : f x y = 0
    · rw [if_neg (by omega), if_neg (by omega)]; exact cmpL_neg h xs ys
    · rw [if_pos (by omega), if_pos hq]; exact this
theorem cmpL_rng {α : Type} {f : α → α → Int} (h : IsCmp f) : ∀ x y, -1 ≤ cmpL f x y ∧ cmpL f x y ≤ 1
  | [], [] => by rw [cmpL]; decide
  | [], _ :: _ => by rw [cmpL]; decide
  | _ :: _, [] => by rw [cmpL]; decide
  | x :: xs, y :: ys => by
    rw [cmpL]
    split
    · exact ⟨h.lo x y, h.hi x y⟩
    · exact cmpL_rng h xs ys
theorem cmpL_tr {α : Type} {f : α → α → Int} (h : IsCmp f) : ∀ x y z, cmpL f x y ≤ 0 → cmpL f y z ≤ 0 → cmpL f x z ≤ 0
  | [], _, [], _, _ => by rw [cmpL]; exact Int.le_refl _
  | [], _, _ :: _, _, _ => by rw [cmpL]; decide
  | x :: xs, [], z, h1, _ => by rw [cmpL] at h1; omega
  | x :: xs, y :: ys, [], _, h2 => by rw [cmpL] at h2; omega
  | x :: xs, y :: ys, z :: zs, h1, h2 => by
    rw [cmpL] at h1 h2 ⊢
    by_cases a : f x y = 0
    · rw [if_neg (by omega)] at h1
      by_cases b : f y z = 0
      · rw [if_neg (by omega)] at h2
        have c1 := h.tr x y z (by omega) (by omega)
        have c2 := h.tr z y x (by rw [h.neg y z]; omega) (by rw [h.neg x y]; omega)
        rw [h.neg x z] at c2
        rw [if_neg (by omega)]
        exact cmpL_tr h xs ys zs h1 h2
      · rw [if_pos b] at h2
        have c := h.lt' (x := x) (y := y) (z := z) (by omega) (by omega)
        rw [if_pos (by omega)]; omega
    · rw [if_pos a] at h1
      have c : f x z < 0 := by
        by_cases b : f y z = 0
        · exact h.lt (y := y) (by omega) (by omega)
        · rw [if_pos b] at h2; exact h.lt (y := y) (by omega) h2
      rw [if_pos (by omega)]; omega
theorem isCmp_list {α : Type} {f : α → α → Int} (h : IsCmp f) : IsCmp (cmpL f) := ⟨cmpL_neg h, fun x y => (cmpL_rng h x y).1, fun x y => (cmpL_rng h x y).2, cmpL_tr h⟩
/-! Bytes. -/
def ordU (a b : UInt8) : Int := cmpNat a.toNat b.toNat
theorem ordL_eq : ∀ x y : List UInt8, ordL x y = cmpL ordU x y
  | [], [] => rfl
  | [], _ :: _ => rfl
  | c :: r, [] => rfl
  | c :: r, d :: s => by
    have ih := ordL_eq r s
    rw [cmpL, ← ih]
    by_cases h1 : c < d
    · have h3 : c.toNat < d.toNat := h1
      rw [show ordU c d = -1 from if_pos h3, if_pos (by decide)]
      unfold ordL
      rw [Op.bytesLess]
      simp [h1]
    · have h3 : ¬ c.toNat < d.toNat := h1
      by_cases h2 : c = d
      · subst h2
        rw [show ordU c c = 0 from (if_neg h3).trans (if_neg h3), if_neg (by decide)]
        unfold ordL
        rw [Op.bytesLess]
        simp
      · have h4 : c.toNat ≠ d.toNat := fun e => h2 (UInt8.toNat_inj.1 e)
        rw [show ordU c d = 1 from (if_neg h3).trans (if_pos (by omega)), if_pos (by decide)]
        unfold ordL
        rw [Op.bytesLess]
        simp [h1, h2]
theorem isCmp_ord : IsCmp ordL := by
  have h := isCmp_list (isCmp_on UInt8.toNat isCmp_nat)
  have e : ordL = cmpL ordU := by funext x y; exact ordL_eq x y
  rw [e]; exact h
theorem ord_eq {x y : List UInt8} (h : ordL x y = 0) : x = y := by
  unfold ordL at h
  split at h
  · cases h
  · split at h
    · rename_i hq; simpa using hq
    · cases h
/-! Elements. -/
def clsN (p : List UInt8) : Nat := if dg0 p = true then 0 else 1
def lenN (p : List UInt8) : Nat := if dg0 p = true then (bareL p).length else 0
def keyE (p : List UInt8) : List UInt8 := if dg0 p = true then bareL p else p
theorem elemC_eq (p q : List UInt8) : elemC p q = lexC (fun x y => cmpNat (clsN x) (clsN y)) (lexC (fun x y => cmpNat (lenN x) (lenN y)) (fun x y => ordL (keyE x) (keyE y))) p q := by
  unfold elemC lexC clsN lenN keyE numC cmpNat
  by_cases hp : dg0 p = true
  · by_cases hq : dg0 q = true
    · simp only [hp, hq, if_true]
      by_cases h1 : (bareL p).length < (bareL q).length
      · simp [h1]
      · by_cases h2 : (bareL q).length < (bareL p).length
        · simp [h1, h2]
        · simp [h1, h2]
    · simp [hp, hq]
  · by_cases hq : dg0 q = true
    · simp [hp, hq]
    · simp [hp, hq]
theorem isCmp_elem : IsCmp elemC := isCmp_of (isCmp_lex (isCmp_on clsN isCmp_nat) (isCmp_lex (isCmp_on lenN isCmp_nat) (isCmp_on keyE isCmp_ord))) elemC_eq
def elsN : Nat → List UInt8 → List (List UInt8)
  | 0, _ => []
  | n + 1, x => if x = [] then [] else x.take (elemN x) :: elsN n (x.drop (elemN x))
theorem cmpF_eq (a b : List UInt8) : ∀ (n m : Nat) (x y : List UInt8), x.length ≤ n → y.length ≤ m → cmpF a b n x y = if cmpL elemC (elsN n x) (elsN m y) ≠ 0 then cmpL elemC (elsN n x) (elsN m y) else ordL a b
  | 0, m, x, y, hx, hy => by
    obtain rfl : x = [] := List.eq_nil_of_length_eq_zero (by omega)
    by_cases h : y = []
    · subst h
      have e : elsN m [] = [] := by cases m <;> rfl
      rw [e]; rfl
    · obtain ⟨m', rfl⟩ : ∃ m', m = m' + 1 := ⟨m - 1, by have := List.length_pos_iff.2 h; omega⟩
      rw [cmpF, endC, if_pos rfl, if_neg h, elsN, elsN, if_neg h, cmpL]; rfl
  | n + 1, m, x, y, hx, hy => by
    by_cases h1 : x = []
    · subst h1
      rw [cmpF, if_pos (Or.inl rfl), endC, if_pos rfl, elsN, if_pos rfl]
      by_cases h : y = []
      · subst h
        have e : elsN m [] = [] := by cases m <;> rfl
        rw [e, if_pos rfl]; rfl
      · obtain ⟨m', rfl⟩ : ∃ m', m = m' + 1 := ⟨m - 1, by have := List.length_pos_iff.2 h; omega⟩
        rw [if_neg h, elsN, if_neg h, cmpL]; rfl
    · by_cases h : y = []
      · subst h
        have e : elsN m [] = [] := by cases m <;> rfl
        rw [cmpF, if_pos (Or.inr rfl), endC, if_neg h1, if_pos rfl, e, elsN, if_neg h1, cmpL]; rfl
      · obtain ⟨m', rfl⟩ : ∃ m', m = m' + 1 := ⟨m - 1, by have := List.length_pos_iff.2 h; omega⟩
        have lx := elemN_le x (List.length_pos_iff.2 h1)
        have ly := elemN_le y (List.length_pos_iff.2 h)
        have ih := cmpF_eq a b n m' (x.drop (elemN x)) (y.drop (elemN y)) (by rw [List.length_drop]; omega) (by rw [List.length_drop]; omega)
        rw [cmpF, if_neg (fun q => q.elim h1 h), elsN, if_neg h1, elsN, if_neg h, cmpL]
        by_cases hz : elemC (x.take (elemN x)) (y.take (elemN y)) = 0
        · have e2 : (if elemC (x.take (elemN x)) (y.take (elemN y)) ≠ 0 then elemC (x.take (elemN x)) (y.take (elemN y)) else cmpL elemC (elsN n (x.drop (elemN x))) (elsN m' (y.drop (elemN y)))) = cmpL elemC (elsN n (x.drop (elemN x))) (elsN m' (y.drop (elemN y))) := if_neg (fun q => q hz)
          rw [e2, if_neg (fun q => q hz)]; exact ih
        · have e2 : (if elemC (x.take (elemN x)) (y.take (elemN y)) ≠ 0 then elemC (x.take (elemN x)) (y.take (elemN y)) else cmpL elemC (elsN n (x.drop (elemN x))) (elsN m' (y.drop (elemN y)))) = elemC (x.take (elemN x)) (y.take (elemN y)) := if_pos hz
          rw [e2, if_pos hz, if_pos hz]
def keyS (s : List UInt8) : List (List UInt8) := elsN s.length s
theorem compareV_eq (a b : List UInt8) : compareV a b = lexC (fun x y => cmpL elemC (keyS x) (keyS y)) ordL a b := cmpF_eq a b a.length b.length a b (Nat.le_refl _) (Nat.le_refl _)
theorem isCmp_compare : IsCmp compareV := isCmp_of (isCmp_lex (isCmp_on keyS (isCmp_list isCmp_elem)) isCmp_ord) compareV_eq
theorem compare_zero (a b : List UInt8) : compareV a b = 0 ↔ a = b := by
  constructor
  · intro h
    rw [compareV_eq] at h
    unfold lexC at h
    split at h
    · contradiction
    · exact ord_eq h
  · intro h
    subst h
    have := isCmp_compare.neg a a
    omega
end Go.Proofs.YtjdhjnciokhbkaaGreatDoor
