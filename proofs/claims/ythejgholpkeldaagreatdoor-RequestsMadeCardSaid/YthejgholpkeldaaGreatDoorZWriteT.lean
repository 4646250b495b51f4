/- The text of times (plain), and what it is read as. No walk. Walks of fields.Times and timetableref07.WriteTimes: the text of times. Conditions: the cells; at most 1000 times; what the program's variables hold. -/
import Derived.Test.YthejgholpkeldaaGreatDoorRows
import Derived.WalkKit
import Derived.WalkSpells
import Derived.WalkLawsBesides
import Derived.BigGuardPart
import Derived.Lib.Hide
import Derived.Laws.BitsAllLaws
import Derived.Laws.BitsLemmas
import Derived.Lib.LaidTab
import Derived.Test.YthejgholpkeldaaGreatDoorShelf
import Derived.Lib.ConvBytes
import Derived.Deep.QuietTactic
import Derived.BigQuiet
import Derived.Lib.SmallJoins
import Derived.Lib.SplitLaws
import Derived.Lib.CountLaws
import Derived.Lib.IndexMore
import Derived.Lib.Split
import Derived.Lib.Join
import Derived.Lib.ItoaNum
import Derived.Laws.AppendOwn
import Derived.Laws.ResultCell
import Derived.RegionTactic
import Derived.BigRegion
import Derived.Deep.RegionHeld3
import Derived.Deep.DeepCutAuto
import Derived.Deep.AppendLies
import Derived.Test.YthejgholpkeldaaGreatDoorZWsF
import Derived.Test.YthejgholpkeldaaGreatDoorZSameL
import Derived.Lib.PathFns
namespace Go.Proofs.YthejgholpkeldaaGreatDoor
set_option maxRecDepth 100000

theorem join_snoc59 (x : List UInt8) : ∀ (xs : List (List UInt8)), Lib.join (xs ++ [x]) [59] = if xs = [] then x else Lib.join xs [59] ++ 59 :: x
  | [] => by simp [Lib.join_one]
  | y :: r => by
    rw [if_neg (by simp), ← join_two (y :: r) [x] 59 (by simp) (by simp), Lib.join_one]
theorem lens59 (m : Nat) : ∀ (l : List (List UInt8)), (∀ x ∈ l, x.length ≤ m) → (Lib.join l [59]).length ≤ (m + 1) * l.length
  | [], _ => by simp [Lib.join_nil]
  | [x], h => by
    rw [Lib.join_one]
    have := h x (by simp)
    simp; omega
  | x :: y :: r, h => by
    have ih := lens59 m (y :: r) (fun z hz => h z (by simp [hz]))
    have h1 := h x (by simp)
    have : Lib.join (x :: y :: r) [59] = x ++ 59 :: Lib.join (y :: r) [59] := by simp [Lib.join, List.intercalate]
    rw [this]
    simp only [List.length_append, List.length_cons, Nat.mul_add] at ih ⊢
    omega
/-! What it is read as. -/
end Go.Proofs.YthejgholpkeldaaGreatDoor

namespace Go.Proofs.YthejgholpkeldaaGreatDoor
open Go.RowKit
set_option maxRecDepth 100000

theorem strs_flat : ∀ (zs : List ByteArray) (vss : List (List Value)), vss.length = zs.length → (∀ (j : Nat) (x : ByteArray) (vs : List Value), zs[j]? = some x → vss[j]? = some vs → vs = [Value.string x]) → vss.flatten = zs.map Value.string
  | [], [], _, _ => rfl
  | [], _ :: _, h, _ => by simp at h
  | _ :: _, [], h, _ => by simp at h
  | z :: zs, vs :: vss, h, hk => by
    have h0 := hk 0 z vs rfl rfl
    subst h0
    have ih := strs_flat zs vss (by simpa using h) (fun j x us hx hu => hk (j + 1) x us (by simpa using hx) (by simpa using hu))
    simp [ih]
theorem strs_of_own {t : TypeId} {ts : List TypeId} {B0 B : Nat} {w : World} {v : Value} {zs : List ByteArray} (h : Own kStr t ts B0 B w v zs) : w.ownsRow B t 1 v zs.length (zs.map Value.string) := by
  obtain ⟨vss, e1, e2, e3⟩ := h
  rw [strs_flat zs vss e1 (fun j x vs hx hv => rep_str.1 (e3 j x vs hx hv))] at e2
  exact e2
theorem joinC_walk (c : UInt8) {ts : List TypeId} {B0 B : Nat} (w : World) (v : Value) (zs : List ByteArray) (h : Own kStr 9 ts B0 B w v zs) (hl : zs.length ≤ 1000000) (hj : (Lib.join (zs.map (·.data.toList)) [c]).length ≤ 1000000000) :
    Calls Tryz.prog 89 #[v, .string ⟨#[c]⟩] w fun e w' => e = .returned (.string ⟨(Lib.join (zs.map (·.data.toList)) [c]).toArray⟩) ∧ Below w.heap.size w w' := by
  obtain ⟨h1, h2⟩ := strs_of_own h
  rcases h2 with ⟨rfl, h0⟩ | ⟨g, cap, cur, rfl, hb, hg, hn, hm, hs, ht⟩
  · obtain rfl := List.eq_nil_of_length_eq_zero h0
    exact (Tryz.strings_Join_none none 0 _ w).mono fun e w' ⟨he, hw⟩ => ⟨he, by rw [hw]; exact Below.refl _ _⟩
  · exact Tryz.strings_Join g 0 cap zs ⟨#[c]⟩ w (by
      intro j x hx
      have e : (cur.toList.take (zs.length * 1))[j]? = (zs.map Value.string)[j]? := by rw [ht]
      have hjl := (List.getElem?_eq_some_iff.1 hx).1
      rw [List.getElem?_take, if_pos (by omega), List.getElem?_map, hx] at e
      rw [Nat.zero_add, cell_of_row w g j _ _ _ hg, ← Array.getElem?_toList, e]; rfl)
      (Array.getElem?_eq_some_iff.1 hg).1 (by omega) hn (by show (Lib.join (zs.map (·.data.toList)) [c]).length ≤ _; omega)
end Go.Proofs.YthejgholpkeldaaGreatDoor
