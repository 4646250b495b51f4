/- Walk of Scanner.Number whose first digit is not 0, whether a problem is noted or not. Conditions: at most 18 digits. Plain: the comparison of codes is a total order. No program here. Plain: data put in order one by one, whatever the order; the same in order once only; lists without doubles. No walk. Walk of timetableref03.Digits where a first digit is not 0. Conditions: at most 18 digits. -/
import Derived.Test.YthejgholpkeldaaGreatDoorRows
import Derived.WalkKit
import Derived.WalkSpells
import Derived.WalkLawsBesides
import Derived.BigGuardPart
import Derived.Lib.Hide
import Derived.Laws.BitsAllLaws
import Derived.Laws.BitsLemmas
import Derived.Lib.LaidTab
import Derived.Test.YthejgholpkeldaaGreatDoorShelf
import Derived.Lib.ConvBytes
import Derived.Deep.QuietTactic
import Derived.BigQuiet
import Derived.Laws.ResultCell
import Derived.RegionTactic
import Derived.BigRegion
import Derived.Deep.RegionHeld3
import Derived.Deep.DeepCutAuto
import Derived.Lib.SmallJoins
import Derived.Lib.SplitLaws
import Derived.Lib.CountLaws
import Derived.Lib.IndexMore
import Derived.Lib.Split
import Derived.Lib.Join
import Derived.Test.YthejgholpkeldaaGreatDoorShelfT
import Derived.Test.YthejgholpkeldaaGreatDoorYNumber
import Derived.Test.YthejgholpkeldaaGreatDoorYSameL
import Derived.Lib.ItoaNum
import Derived.Laws.AppendOwn
import Derived.Test.YthejgholpkeldaaGreatDoorYCmpC
namespace Go.Proofs.YthejgholpkeldaaGreatDoor
open Go.RowKit
set_option maxRecDepth 100000

/-- A number of at most so many digits that does not begin with 0. -/
def zeroS (s : ByteArray) : Bool := if h : 0 < s.size then decide (s[0].toNat = 48) else false
def numS (most : Nat) (s : ByteArray) : Option Nat := if zeroS s = true then none else numE most s
def NumAnyS (most g : Nat) (line : Int) (F : Option Addr) (fs : List Fld) (c k : Nat) (pr : Option Prob) (w : World) (e : Ending) (w' : World) : Prop :=
  ∃ (k' n : Nat) (pr' : Option Prob), e = .returned (.int .i64 (n : Int)) ∧ Scan w' g line F fs.length c k' pr' ∧ Only g w w' ∧ 1 ≤ k' ∧ k' ≤ k + 1 ∧ (pr = none → k' = k + 1 ∧ n = (numE most (textAt fs k)).getD 0 ∧ pr' = numP (numS most (textAt fs k)) (line, colAt fs (k + 1), 4)) ∧ (∀ p, pr = some p → pr' = some p ∧ n = 0)
set_option maxHeartbeats 800000 in
theorem num_anyS (B g : Nat) (line : Int) (F : Option Addr) (fs : List Fld) (c k most : Nat) (pr : Option Prob) (w : World) (h : Scan w g line F fs.length c k pr) (hF : FieldsAt B w F fs) (h2 : k < fs.length) (hm : fs.length ≤ 1000) (hB : B ≤ g) (h1 : ∀ p, pr = some p → 1 ≤ k) (h18 : most ≤ 18) (hsz : (textAt fs k).size ≤ 9223372036854775807) :
    Calls Tryz.prog 65 #[.pointer (some ⟨g, 0, none⟩), .int .i64 most, .bool false] w fun e w' => NumAnyS most g line F fs c k pr w e w' := by
  have hlt := h.lt
  cases pr with
  | none =>
    obtain ⟨s, hs⟩ : ∃ s, textAt fs k = s := ⟨_, rfl⟩
    have hgo := fnext_go B g line F fs c k w h hF h2 hm hB
    have hdig := fun (V : World) => digits_walk s most h18 V (by rw [← hs]; exact hsz)
    rw [hs] at hgo
    cases ho : numE most s with
    | none =>
      have hfin : Hid (numP (numS most (textAt fs k)) (line, colAt fs (k + 1), 4) = some (line, colAt fs (k + 1), 4) ∧ (numE most (textAt fs k)).getD 0 = 0) := hide (by
        rw [hs, ho]
        refine ⟨?_, rfl⟩
        unfold numS
        split
        · rfl
        · rw [ho]; rfl)
      rw [ho] at hdig
      replace hdig := hide hdig
      replace hs := hide hs
      replace ho := hide ho
      go_enter Tryz.func65, Tryz.ntmps65
      go_wp2_with fail
      refine hgo.mono ?_
      rintro e w1 ⟨rfl, hs1, ho1⟩
      go_wp2_with fail
      refine (hdig.out w1).mono ?_
      rintro e w2 ⟨rfl, hb2⟩
      rw [show digV none = .tuple #[.int .i64 0, .bool false] from rfl]
      have hs2 := hs1.later hb2
      have ho2 := ho1.later hb2
      go_wp2_with fail
      refine (fail_walk B g line F fs c (k + 1) none 4 w2 hs2 (hF.only ho2 hB (by omega)) (by omega) (by omega) hm).mono ?_
      rintro e w3 ⟨rfl, hs3, ho3⟩
      go_wp2
      go_ret
      exact ⟨k + 1, 0, _, rfl, hs3, ho2.trans ho3, by omega, Nat.le_refl _, fun _ => ⟨rfl, hfin.out.2.symm, hfin.out.1.symm⟩, fun p hp => by cases hp⟩
    | some n =>
      have hpos : 0 < s.size := by
        apply Classical.byContradiction
        intro hn
        unfold numE at ho
        rw [if_neg (fun h => hn h.1)] at ho
        cases ho
      have h0 : (0 : Int) < (s.size : Int) := by omega
      rw [ho] at hdig
      by_cases hz : s[0].toNat = 48
      · have hzi : ((s[0].toNat : Nat) : Int) = 48 := by omega
        have hfin : Hid (numP (numS most (textAt fs k)) (line, colAt fs (k + 1), 4) = some (line, colAt fs (k + 1), 4) ∧ (numE most (textAt fs k)).getD 0 = n) := hide (by
          rw [hs, ho]
          refine ⟨?_, rfl⟩
          unfold numS
          rw [if_pos (by unfold zeroS; rw [dif_pos hpos]; simpa using hz)]; rfl)
        replace hdig := hide hdig
        replace hs := hide hs
        replace ho := hide ho
        go_enter Tryz.func65, Tryz.ntmps65
        go_wp2_with fail
        refine hgo.mono ?_
        rintro e w1 ⟨rfl, hs1, ho1⟩
        go_wp2_with fail
        refine (hdig.out w1).mono ?_
        rintro e w2 ⟨rfl, hb2⟩
        rw [show digV (some n) = .tuple #[.int .i64 n, .bool true] from rfl]
        have hs2 := hs1.later hb2
        have ho2 := ho1.later hb2
        go_wp2_with fail
        refine (fail_walk B g line F fs c (k + 1) none 4 w2 hs2 (hF.only ho2 hB (by omega)) (by omega) (by omega) hm).mono ?_
        rintro e w3 ⟨rfl, hs3, ho3⟩
        go_wp2
        go_ret
        exact ⟨k + 1, n, _, rfl, hs3, ho2.trans ho3, by omega, Nat.le_refl _, fun _ => ⟨rfl, hfin.out.2.symm, hfin.out.1.symm⟩, fun p hp => by cases hp⟩
      · have hzi : ¬ ((s[0].toNat : Nat) : Int) = 48 := by omega
        have hfin : Hid (numP (numS most (textAt fs k)) (line, colAt fs (k + 1), 4) = none ∧ (numE most (textAt fs k)).getD 0 = n) := hide (by
          rw [hs, ho]
          refine ⟨?_, rfl⟩
          unfold numS
          rw [if_neg (by unfold zeroS; rw [dif_pos hpos]; simpa using hz), ho]; rfl)
        replace hdig := hide hdig
        replace hs := hide hs
        replace ho := hide ho
        go_enter Tryz.func65, Tryz.ntmps65
        go_wp2_with fail
        refine hgo.mono ?_
        rintro e w1 ⟨rfl, hs1, ho1⟩
        go_wp2_with fail
        refine (hdig.out w1).mono ?_
        rintro e w2 ⟨rfl, hb2⟩
        rw [show digV (some n) = .tuple #[.int .i64 n, .bool true] from rfl]
        have hs2 := hs1.later hb2
        have ho2 := ho1.later hb2
        go_wp2_with fail
        go_ret
        exact ⟨k + 1, n, _, rfl, hs2, ho2, by omega, Nat.le_refl _, fun _ => ⟨rfl, hfin.out.2.symm, hfin.out.1.symm⟩, fun p hp => by cases hp⟩
  | some p =>
    have hk := h1 p rfl
    go_enter Tryz.func65, Tryz.ntmps65
    go_wp2_with fail
    refine (fnext_stop g line F fs.length c k p w h).mono ?_
    rintro e w1 ⟨rfl, rfl⟩
    go_wp2_with fail
    refine (digits_walk ⟨#[]⟩ most h18 w (by decide)).mono ?_
    rintro e w2 ⟨rfl, hb2⟩
    rw [numE_none, show digV none = .tuple #[.int .i64 0, .bool false] from rfl]
    have hs2 := h.later hb2
    have ho2 := (Only.refl g w).later hb2
    go_wp2_with fail
    refine (fail_walk B g line F fs c k (some p) 4 w2 hs2 (hF.only ho2 hB (by omega)) hk (by omega) hm).mono ?_
    rintro e w3 ⟨rfl, hs3, ho3⟩
    go_wp2
    go_ret
    exact ⟨k, 0, _, rfl, hs3, ho2.trans ho3, hk, by omega, (fun hp => by cases hp), fun q hq => ⟨hq, rfl⟩⟩
end Go.Proofs.YthejgholpkeldaaGreatDoor

namespace Go.Proofs.YthejgholpkeldaaGreatDoor
open Go.RowKit
set_option maxRecDepth 100000

structure IsCmp {α : Type} (f : α → α → Int) : Prop where
  neg : ∀ x y, f y x = - f x y
  lo : ∀ x y, -1 ≤ f x y
  hi : ∀ x y, f x y ≤ 1
  tr : ∀ x y z, f x y ≤ 0 → f y z ≤ 0 → f x z ≤ 0
theorem IsCmp.lt {α : Type} {f : α → α → Int} (h : IsCmp f) {x y z : α} (h1 : f x y < 0) (h2 : f y z ≤ 0) : f x z < 0 := by
  by_cases hq : f x z < 0
  · exact hq
  · have a := h.tr y z x h2 (by rw [h.neg x z]; omega)
    rw [h.neg x y] at a
    omega
theorem IsCmp.lt' {α : Type} {f : α → α → Int} (h : IsCmp f) {x y z : α} (h1 : f x y ≤ 0) (h2 : f y z < 0) : f x z < 0 := by
  by_cases hq : f x z < 0
  · exact hq
  · have a := h.tr z x y (by rw [h.neg x z]; omega) h1
    rw [h.neg y z] at a
    omega
def lexC {α : Type} (f g : α → α → Int) (x y : α) : Int := if f x y ≠ 0 then f x y else g x y
theorem isCmp_lex {α : Type} {f g : α → α → Int} (hf : IsCmp f) (hg : IsCmp g) : IsCmp (lexC f g) := by
  refine ⟨fun x y => ?_, fun x y => ?_, fun x y => ?_, fun x y z h1 h2 => ?_⟩
  · unfold lexC
    have := hf.neg x y
    by_cases h : f x y = 0
    · rw [if_neg (by omega), if_neg (by omega)]; exact hg.neg x y
    · rw [if_pos (by omega), if_pos h]; exact this
  · unfold lexC; split
    · exact hf.lo x y
    · exact hg.lo x y
  · unfold lexC; split
    · exact hf.hi x y
    · exact hg.hi x y
  · unfold lexC at h1 h2 ⊢
    by_cases a : f x y = 0
    · rw [if_neg (by omega)] at h1
      by_cases b : f y z = 0
      · rw [if_neg (by omega)] at h2
        have c1 := hf.tr x y z (by omega) (by omega)
        have c2 := hf.tr z y x (by rw [hf.neg y z]; omega) (by rw [hf.neg x y]; omega)
        rw [hf.neg x z] at c2
        rw [if_neg (by omega)]
        exact hg.tr x y z h1 h2
      · rw [if_pos b] at h2
        have c := hf.lt' (x := x) (y := y) (z := z) (by omega) (by omega)
        rw [if_pos (by omega)]; omega
    · rw [if_pos a] at h1
      have c : f x z < 0 := by
        by_cases b : f y z = 0
        · exact hf.lt (y := y) (by omega) (by omega)
        · rw [if_pos b] at h2; exact hf.lt (y := y) (by omega) h2
      rw [if_pos (by omega)]; omega
theorem isCmp_on {α β : Type} {f : β → β → Int} (k : α → β) (h : IsCmp f) : IsCmp fun x y => f (k x) (k y) :=
  ⟨fun _ _ => h.neg _ _, fun _ _ => h.lo _ _, fun _ _ => h.hi _ _, fun _ _ _ => h.tr _ _ _⟩
theorem isCmp_of {α : Type} {f g : α → α → Int} (h : IsCmp g) (e : ∀ x y, f x y = g x y) : IsCmp f := by
  have : f = g := by funext x y; exact e x y
  rw [this]; exact h
def cmpNat (a b : Nat) : Int := if a < b then -1 else if b < a then 1 else 0
theorem isCmp_nat : IsCmp cmpNat := by
  refine ⟨fun x y => ?_, fun x y => ?_, fun x y => ?_, fun x y z => ?_⟩ <;> unfold cmpNat <;> (repeat' split) <;> omega
/-- Lists, by their elements, the shorter first. -/
def cmpL {α : Type} (f : α → α → Int) : List α → List α → Int
  | [], [] => 0
  | [], _ :: _ => -1
  | _ :: _, [] => 1
  | x :: xs, y :: ys => if f x y ≠ 0 then f x y else cmpL f xs ys
theorem cmpL_neg {α : Type} {f : α → α → Int} (h : IsCmp f) : ∀ x y, cmpL f y x = - cmpL f x y
  | [], [] => rfl
  | [], _ :: _ => rfl
  | _ :: _, [] => rfl
  | x :: xs, y :: ys => by
    rw [cmpL, cmpL]
    have := h.neg x y
    by_cases hq : f x y = 0
    · rw [if_neg (by omega), if_neg (by omega)]; exact cmpL_neg h xs ys
    · rw [if_pos (by omega), if_pos hq]; exact this
theorem cmpL_rng {α : Type} {f : α → α → Int} (h : IsCmp f) : ∀ x y, -1 ≤ cmpL f x y ∧ cmpL f x y ≤ 1
  | [], [] => by rw [cmpL]; decide
  | [], _ :: _ => by rw [cmpL]; decide
  | _ :: _, [] => by rw [cmpL]; decide
  | x :: xs, y :: ys => by
    rw [cmpL]
    split
    · exact ⟨h.lo x y, h.hi x y⟩
    · exact cmpL_rng h xs ys
theorem cmpL_tr {α : Type} {f : α → α → Int} (h : IsCmp f) : ∀ x y z, cmpL f x y ≤ 0 → cmpL f y z ≤ 0 → cmpL f x z ≤ 0
  | [], _, [], _, _ => by rw [cmpL]; exact Int.le_refl _
  | [], _, _ :: _, _, _ => by rw [cmpL]; decide
  | x :: xs, [], z, h1, _ => by rw [cmpL] at h1; omega
  | x :: xs, y :: ys, [], _, h2 => by rw [cmpL] at h2; omega
  | x :: xs, y :: ys, z :: zs, h1, h2 => by
    rw [cmpL] at h1 h2 ⊢
    by_cases a : f x y = 0
    · rw [if_neg (by omega)] at h1
      by_cases b : f y z = 0
      · rw [if_neg (by omega)] at h2
        have c1 := h.tr x y z (by omega) (by omega)
        have c2 := h.tr z y x (by rw [h.neg y z]; omega) (by rw [h.neg x y]; omega)
        rw [h.neg x z] at c2
        rw [if_neg (by omega)]
        exact cmpL_tr h xs ys zs h1 h2
      · rw [if_pos b] at h2
        have c := h.lt' (x := x) (y := y) (z := z) (by omega) (by omega)
        rw [if_pos (by omega)]; omega
    · rw [if_pos a] at h1
      have c : f x z < 0 := by
        by_cases b : f y z = 0
        · exact h.lt (y := y) (by omega) (by omega)
        · rw [if_pos b] at h2; exact h.lt (y := y) (by omega) h2
      rw [if_pos (by omega)]; omega
theorem isCmp_list {α : Type} {f : α → α → Int} (h : IsCmp f) : IsCmp (cmpL f) := ⟨cmpL_neg h, fun x y => (cmpL_rng h x y).1, fun x y => (cmpL_rng h x y).2, cmpL_tr h⟩
/-! Bytes. -/
def ordU (a b : UInt8) : Int := cmpNat a.toNat b.toNat
theorem ordL_eq : ∀ x y : List UInt8, ordL x y = cmpL ordU x y
  | [], [] => rfl
  | [], _ :: _ => rfl
  | c :: r, [] => rfl
  | c :: r, d :: s => by
    have ih := ordL_eq r s
    rw [cmpL, ← ih]
    by_cases h1 : c < d
    · have h3 : c.toNat < d.toNat := h1
      rw [show ordU c d = -1 from if_pos h3, if_pos (by decide)]
      unfold ordL
      rw [Op.bytesLess]
      simp [h1]
    · have h3 : ¬ c.toNat < d.toNat := h1
      by_cases h2 : c = d
      · subst h2
        rw [show ordU c c = 0 from (if_neg h3).trans (if_neg h3), if_neg (by decide)]
        unfold ordL
        rw [Op.bytesLess]
        simp
      · have h4 : c.toNat ≠ d.toNat := fun e => h2 (UInt8.toNat_inj.1 e)
        rw [show ordU c d = 1 from (if_neg h3).trans (if_pos (by omega)), if_pos (by decide)]
        unfold ordL
        rw [Op.bytesLess]
        simp [h1, h2]
theorem isCmp_ord : IsCmp ordL := by
  have h := isCmp_list (isCmp_on UInt8.toNat isCmp_nat)
  have e : ordL = cmpL ordU := by funext x y; exact ordL_eq x y
  rw [e]; exact h
theorem ord_eq {x y : List UInt8} (h : ordL x y = 0) : x = y := by
  unfold ordL at h
  split at h
  · cases h
  · split at h
    · rename_i hq; simpa using hq
    · cases h
/-! Elements. -/
def clsN (p : List UInt8) : Nat := if dg0 p = true then 0 else 1
def lenN (p : List UInt8) : Nat := if dg0 p = true then (bareL p).length else 0
def keyE (p : List UInt8) : List UInt8 := if dg0 p = true then bareL p else p
theorem elemC_eq (p q : List UInt8) : elemC p q = lexC (fun x y => cmpNat (clsN x) (clsN y)) (lexC (fun x y => cmpNat (lenN x) (lenN y)) (fun x y => ordL (keyE x) (keyE y))) p q := by
  unfold elemC lexC clsN lenN keyE numC cmpNat
  by_cases hp : dg0 p = true
  · by_cases hq : dg0 q = true
    · simp only [hp, hq, if_true]
      by_cases h1 : (bareL p).length < (bareL q).length
      · simp [h1]
      · by_cases h2 : (bareL q).length < (bareL p).length
        · simp [h1, h2]
        · simp [h1, h2]
    · simp [hp, hq]
  · by_cases hq : dg0 q = true
    · simp [hp, hq]
    · simp [hp, hq]
theorem isCmp_elem : IsCmp elemC := isCmp_of (isCmp_lex (isCmp_on clsN isCmp_nat) (isCmp_lex (isCmp_on lenN isCmp_nat) (isCmp_on keyE isCmp_ord))) elemC_eq
def elsN : Nat → List UInt8 → List (List UInt8)
  | 0, _ => []
  | n + 1, x => if x = [] then [] else x.take (elemN x) :: elsN n (x.drop (elemN x))
theorem cmpF_eq (a b : List UInt8) : ∀ (n m : Nat) (x y : List UInt8), x.length ≤ n → y.length ≤ m → cmpF a b n x y = if cmpL elemC (elsN n x) (elsN m y) ≠ 0 then cmpL elemC (elsN n x) (elsN m y) else ordL a b
  | 0, m, x, y, hx, hy => by
    obtain rfl : x = [] := List.eq_nil_of_length_eq_zero (by omega)
    by_cases h : y = []
    · subst h
      have e : elsN m [] = [] := by cases m <;> rfl
      rw [e]; rfl
    · obtain ⟨m', rfl⟩ : ∃ m', m = m' + 1 := ⟨m - 1, by have := List.length_pos_iff.2 h; omega⟩
      rw [cmpF, endC, if_pos rfl, if_neg h, elsN, elsN, if_neg h, cmpL]; rfl
  | n + 1, m, x, y, hx, hy => by
    by_cases h1 : x = []
    · subst h1
      rw [cmpF, if_pos (Or.inl rfl), endC, if_pos rfl, elsN, if_pos rfl]
      by_cases h : y = []
      · subst h
        have e : elsN m [] = [] := by cases m <;> rfl
        rw [e, if_pos rfl]; rfl
      · obtain ⟨m', rfl⟩ : ∃ m', m = m' + 1 := ⟨m - 1, by have := List.length_pos_iff.2 h; omega⟩
        rw [if_neg h, elsN, if_neg h, cmpL]; rfl
    · by_cases h : y = []
      · subst h
        have e : elsN m [] = [] := by cases m <;> rfl
        rw [cmpF, if_pos (Or.inr rfl), endC, if_neg h1, if_pos rfl, e, elsN, if_neg h1, cmpL]; rfl
      · obtain ⟨m', rfl⟩ : ∃ m', m = m' + 1 := ⟨m - 1, by have := List.length_pos_iff.2 h; omega⟩
        have lx := elemN_le x (List.length_pos_iff.2 h1)
        have ly := elemN_le y (List.length_pos_iff.2 h)
        have ih := cmpF_eq a b n m' (x.drop (elemN x)) (y.drop (elemN y)) (by rw [List.length_drop]; omega) (by rw [List.length_drop]; omega)
        rw [cmpF, if_neg (fun q => q.elim h1 h), elsN, if_neg h1, elsN, if_neg h, cmpL]
        by_cases hz : elemC (x.take (elemN x)) (y.take (elemN y)) = 0
        · have e2 : (if elemC (x.take (elemN x)) (y.take (elemN y)) ≠ 0 then elemC (x.take (elemN x)) (y.take (elemN y)) else cmpL elemC (elsN n (x.drop (elemN x))) (elsN m' (y.drop (elemN y)))) = cmpL elemC (elsN n (x.drop (elemN x))) (elsN m' (y.drop (elemN y))) := if_neg (fun q => q hz)
          rw [e2, if_neg (fun q => q hz)]; exact ih
        · have e2 : (if elemC (x.take (elemN x)) (y.take (elemN y)) ≠ 0 then elemC (x.take (elemN x)) (y.take (elemN y)) else cmpL elemC (elsN n (x.drop (elemN x))) (elsN m' (y.drop (elemN y)))) = elemC (x.take (elemN x)) (y.take (elemN y)) := if_pos hz
          rw [e2, if_pos hz, if_pos hz]
def keyS (s : List UInt8) : List (List UInt8) := elsN s.length s
theorem compareV_eq (a b : List UInt8) : compareV a b = lexC (fun x y => cmpL elemC (keyS x) (keyS y)) ordL a b := cmpF_eq a b a.length b.length a b (Nat.le_refl _) (Nat.le_refl _)
theorem isCmp_compare : IsCmp compareV := isCmp_of (isCmp_lex (isCmp_on keyS (isCmp_list isCmp_elem)) isCmp_ord) compareV_eq
theorem compare_zero (a b : List UInt8) : compareV a b = 0 ↔ a = b := by
  constructor
  · intro h
    rw [compareV_eq] at h
    unfold lexC at h
    split at h
    · contradiction
    · exact ord_eq h
  · intro h
    subst h
    have := isCmp_compare.neg a a
    omega
end Go.Proofs.YthejgholpkeldaaGreatDoor

namespace Go.Proofs.YthejgholpkeldaaGreatDoor
open Go.RowKit
set_option maxRecDepth 100000

section
variable {α : Type} (less : α → α → Bool) (dflt : α)
/-- Where x goes among the first k. -/
def posG (x : α) (out : List α) : Nat → Nat
  | 0 => 0
  | k + 1 => if less x (out.getD k dflt) = true then posG x out k else k + 1
def insG (out : List α) (x : α) : List α := out.take (posG less dflt x out out.length) ++ x :: out.drop (posG less dflt x out out.length)
def ascG (zs : List α) : List α := zs.foldl (insG less dflt) []
end
section
variable {α : Type} {less : α → α → Bool} {dflt : α}
theorem posG_le (x : α) (out : List α) : ∀ k, posG less dflt x out k ≤ k
  | 0 => Nat.le_refl _
  | k + 1 => by rw [posG]; split; exact Nat.le_trans (posG_le x out k) (Nat.le_succ k); exact Nat.le_refl _
theorem posG_above (x : α) (out : List α) : ∀ k j, posG less dflt x out k ≤ j → j < k → less x (out.getD j dflt) = true
  | 0, j, _, h => by omega
  | k + 1, j, h1, h2 => by
    rw [posG] at h1
    by_cases hl : less x (out.getD k dflt) = true
    · rw [if_pos hl] at h1
      by_cases e : j = k
      · rw [e]; exact hl
      · exact posG_above x out k j h1 (by omega)
    · rw [if_neg hl] at h1; omega
theorem posG_below (x : α) (out : List α) : ∀ k, 0 < posG less dflt x out k → less x (out.getD (posG less dflt x out k - 1) dflt) = false
  | 0, h => by simp [posG] at h
  | k + 1, h => by
    rw [posG] at h ⊢
    by_cases hl : less x (out.getD k dflt) = true
    · rw [if_pos hl] at h ⊢; exact posG_below x out k h
    · rw [if_neg hl] at h ⊢; simpa using hl
theorem insG_len (out : List α) (x : α) : (insG less dflt out x).length = out.length + 1 := by
  unfold insG
  have := posG_le (less := less) (dflt := dflt) x out out.length
  simp only [List.length_append, List.length_take, List.length_cons, List.length_drop]
  omega
theorem ascG_len (zs : List α) : (ascG less dflt zs).length = zs.length := by
  unfold ascG
  have key : ∀ (zs out : List α), (zs.foldl (insG less dflt) out).length = out.length + zs.length := by
    intro zs
    induction zs with
    | nil => intro out; rfl
    | cons z zs ih => intro out; rw [List.foldl_cons, ih, insG_len, List.length_cons]; omega
  simpa using key zs []
theorem ascG_snoc (zs : List α) (x : α) : ascG less dflt (zs ++ [x]) = insG less dflt (ascG less dflt zs) x := by
  unfold ascG
  rw [List.foldl_append]; rfl
theorem insG_perm (out : List α) (x : α) : (insG less dflt out x).Perm (x :: out) := by
  unfold insG
  refine List.perm_middle.trans ?_
  rw [List.take_append_drop]
theorem getD_atG {out : List α} {j : Nat} (h : j < out.length) : out.getD j dflt = out[j] := by rw [List.getD_eq_getElem?_getD, List.getElem?_eq_getElem h]; rfl
/-- x does not come behind y. -/
def LeG (less : α → α → Bool) (x y : α) : Prop := less y x = false
theorem insG_sorted (htr : ∀ x y z, less y x = false → less z y = false → less z x = false) (hof : ∀ x y, less x y = true → less y x = false) {out : List α} {x : α} (h : out.Pairwise (LeG less)) : (insG less dflt out x).Pairwise (LeG less) := by
  obtain ⟨k, hk⟩ : ∃ k, posG less dflt x out out.length = k := ⟨_, rfl⟩
  have hkl : k ≤ out.length := by rw [← hk]; exact posG_le _ _ _
  unfold insG
  rw [hk, List.pairwise_append, List.pairwise_cons]
  have hlow : ∀ y ∈ out.take k, LeG less y x := by
    intro y hy
    obtain ⟨j, hj⟩ := List.getElem?_of_mem hy
    rw [List.getElem?_take] at hj
    split at hj
    · rename_i hjk
      obtain ⟨hjl, e⟩ := List.getElem?_eq_some_iff.1 hj
      have hb := posG_below (less := less) (dflt := dflt) x out out.length (by rw [hk]; omega)
      rw [hk, getD_atG (by omega)] at hb
      by_cases e2 : j = k - 1
      · subst e2; rw [← e]; exact hb
      · refine htr y _ x (?_ : LeG less y _) hb
        rw [← e]
        exact List.pairwise_iff_getElem.1 h j (k - 1) hjl (by omega) (by omega)
    · cases hj
  refine ⟨h.sublist (List.take_sublist _ _), ⟨fun y hy => ?_, h.sublist (List.drop_sublist _ _)⟩, fun a ha b hb => ?_⟩
  · obtain ⟨j, hj⟩ := List.getElem?_of_mem hy
    rw [List.getElem?_drop] at hj
    obtain ⟨hjl, e⟩ := List.getElem?_eq_some_iff.1 hj
    have ha := posG_above (less := less) (dflt := dflt) x out out.length (k + j) (by rw [hk]; omega) hjl
    rw [getD_atG hjl, e] at ha
    exact hof _ _ ha
  · rcases List.mem_cons.1 hb with rfl | hb
    · exact hlow a ha
    · rw [← List.take_append_drop k out, List.pairwise_append] at h
      exact h.2.2 a ha b hb
theorem ascG_perm (zs : List α) : (ascG less dflt zs).Perm zs := by
  have key : ∀ (zs out : List α), (zs.foldl (insG less dflt) out).Perm (zs ++ out) := by
    intro zs
    induction zs with
    | nil => intro out; exact List.Perm.refl _
    | cons z zs ih =>
      intro out
      rw [List.foldl_cons]
      refine (ih _).trans ?_
      exact ((insG_perm out z).append_left zs).trans List.perm_middle
  have := key zs []
  rwa [List.append_nil] at this
theorem ascG_sorted (htr : ∀ x y z, less y x = false → less z y = false → less z x = false) (hof : ∀ x y, less x y = true → less y x = false) (zs : List α) : (ascG less dflt zs).Pairwise (LeG less) := by
  have key : ∀ (zs out : List α), out.Pairwise (LeG less) → (zs.foldl (insG less dflt) out).Pairwise (LeG less) := by
    intro zs
    induction zs with
    | nil => intro out h; exact h
    | cons z zs ih => intro out h; rw [List.foldl_cons]; exact ih _ (insG_sorted htr hof h)
  exact key zs [] .nil
/-- Two lists of the same data in order are one, where nothing but itself is level with a datum. -/
theorem sorted_eqG (ha : ∀ x y, less y x = false → less x y = false → x = y) {l m : List α} (hp : l.Perm m) (hl : l.Pairwise (LeG less)) (hm : m.Pairwise (LeG less)) : l = m :=
  List.Perm.eq_of_pairwise (le := LeG less) (fun a b _ _ h1 h2 => ha a b h1 h2) hl hm hp
end
/-! Lists without doubles. -/
section
variable {α : Type} [DecidableEq α] (dflt : α)
variable {dflt}
end
end Go.Proofs.YthejgholpkeldaaGreatDoor

namespace Go.Proofs.YthejgholpkeldaaGreatDoor
open Go.RowKit
set_option maxRecDepth 100000

theorem numS_numE {most n : Nat} {s : ByteArray} (h : numS most s = some n) : numE most s = some n := by
  unfold numS at h
  split at h
  · cases h
  · exact h
end Go.Proofs.YthejgholpkeldaaGreatDoor
