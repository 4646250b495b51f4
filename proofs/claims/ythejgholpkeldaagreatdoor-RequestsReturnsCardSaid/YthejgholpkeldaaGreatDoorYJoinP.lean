/- Plain: a number written in a width is read again; what a list that is one range says. No condition. Plain: what a list of codes is joined to, and that it is listed again. No condition. -/
import Derived.Test.YthejgholpkeldaaGreatDoorShelfS
import Derived.Test.YthejgholpkeldaaGreatDoorRows
import Derived.WalkKit
import Derived.WalkSpells
import Derived.WalkLawsBesides
import Derived.BigGuardPart
import Derived.Lib.Hide
import Derived.Laws.BitsAllLaws
import Derived.Laws.BitsLemmas
import Derived.Lib.LaidTab
import Derived.Test.YthejgholpkeldaaGreatDoorShelf
import Derived.Lib.ConvBytes
import Derived.Deep.QuietTactic
import Derived.BigQuiet
import Derived.Laws.ResultCell
import Derived.RegionTactic
import Derived.BigRegion
import Derived.Deep.RegionHeld3
import Derived.Deep.DeepCutAuto
import Derived.Lib.SmallJoins
import Derived.Lib.SplitLaws
import Derived.Lib.CountLaws
import Derived.Lib.IndexMore
import Derived.Lib.Split
import Derived.Lib.Join
import Derived.Lib.ItoaNum
import Derived.Laws.AppendOwn
import Derived.Test.YthejgholpkeldaaGreatDoorShelfT
import Derived.Lib.ItoaLen
import Derived.Lib.AppendIntMem
import Derived.Deep.AppendLies
import Derived.Lib.PathFns
import Derived.Maps.Range
import Derived.Lib.OwnBridge
import Derived.Sort.OwnSorted
import Derived.Test.YthejgholpkeldaaGreatDoorYListC
import Derived.Test.YthejgholpkeldaaGreatDoorYSameL
import Derived.Test.YthejgholpkeldaaGreatDoorYIdxS
namespace Go.Proofs.YthejgholpkeldaaGreatDoor
open Go.RowKit
set_option maxRecDepth 100000

/-! Where the last number begins. -/
/-! Cutting at the first two dots. -/
/-! What a code's bytes are. -/
theorem dat_inj {X Y : ByteArray} (h : X.data.toList = Y.data.toList) : X = Y := by rw [mkB_of h]; rfl
end Go.Proofs.YthejgholpkeldaaGreatDoor

namespace Go.Proofs.YthejgholpkeldaaGreatDoor
open Go.RowKit
set_option maxRecDepth 100000

/-! Digits written in their own width are themselves. -/
/-! Runs of codes. -/
/-- How many of the codes behind the first one go on with its range, from number j on. -/
def runC (a : ByteArray) : Nat → List ByteArray → Nat
  | _, [] => 0
  | j, b :: r => if b = ranF a j then runC a (j + 1) r + 1 else 0
def runV : List ByteArray → Nat
  | [] => 0
  | a :: r => if tailAt a < a.size then runC a 1 r + 1 else 1
theorem runC_le (a : ByteArray) : ∀ (l : List ByteArray) (j : Nat), runC a j l ≤ l.length
  | [], _ => Nat.le_refl _
  | b :: r, j => by
    rw [runC]
    split
    · exact Nat.succ_le_succ (runC_le a r (j + 1))
    · exact Nat.zero_le _
/-- Step by step: the codes so far go on, the next one too or not. -/
theorem runC_next {a : ByteArray} : ∀ {l : List ByteArray} {j k : Nat}, k < runC a j l → l[k]? = some (ranF a (j + k))
  | [], _, k, h => by simp [runC] at h
  | b :: r, j, k, h => by
    rw [runC] at h
    split at h
    · rename_i hb
      cases k with
      | zero => rw [hb]; rfl
      | succ k =>
        have ih := runC_next (a := a) (l := r) (j := j + 1) (k := k) (by omega)
        rw [List.getElem?_cons_succ, ih, show j + 1 + k = j + (k + 1) from by omega]
    · omega
theorem runC_stop {a : ByteArray} : ∀ {l : List ByteArray} {j : Nat} {x : ByteArray}, l[runC a j l]? = some x → x ≠ ranF a (j + runC a j l)
  | [], _, _, h => by simp at h
  | b :: r, j, x, h => by
    rw [runC] at h ⊢
    split at h
    · rename_i hb
      rw [if_pos hb]
      rw [List.getElem?_cons_succ] at h
      have := runC_stop h
      rw [show j + (runC a (j + 1) r + 1) = j + 1 + runC a (j + 1) r from by omega]
      exact this
    · rename_i hb
      rw [if_neg hb]
      obtain rfl := Option.some.inj h
      exact hb
theorem runV_pos {a : ByteArray} {r : List ByteArray} : 1 ≤ runV (a :: r) := by
  rw [runV]; split
  · omega
  · exact Nat.le_refl _
theorem runV_le (l : List ByteArray) : runV l ≤ l.length := by
  match l with
  | [] => exact Nat.le_refl _
  | a :: r =>
    rw [runV]
    split
    · exact Nat.succ_le_succ (runC_le a r 1)
    · simp
/-- The text of a range: its two ends. -/
def rangeT (a b : ByteArray) : ByteArray := mkB (a.data.toList ++ 46 :: 46 :: b.data.toList)
/-- The parts of the text of a list, behind some codes that are left out. -/
def pieceS : Nat → List ByteArray → List ByteArray
  | _, [] => []
  | k + 1, _ :: r => pieceS k r
  | 0, a :: r => if 3 ≤ runV (a :: r) then rangeT a ((a :: r).getD (runV (a :: r) - 1) ⟨#[]⟩) :: pieceS (runV (a :: r) - 1) r else a :: pieceS 0 r
theorem pieceS_drop : ∀ (k : Nat) (l : List ByteArray), pieceS k l = pieceS 0 (l.drop k)
  | 0, _ => rfl
  | k + 1, [] => by simp [pieceS]
  | k + 1, _ :: r => by rw [pieceS, List.drop_succ_cons]; exact pieceS_drop k r
theorem piece_run {a : ByteArray} {r : List ByteArray} (h : 3 ≤ runV (a :: r)) : pieceS 0 (a :: r) = rangeT a ((a :: r).getD (runV (a :: r) - 1) ⟨#[]⟩) :: pieceS 0 ((a :: r).drop (runV (a :: r))) := by
  rw [pieceS, if_pos h, pieceS_drop]
  congr 2
  obtain ⟨k, hk⟩ : ∃ k, runV (a :: r) = k + 1 := ⟨runV (a :: r) - 1, by omega⟩
  rw [hk]; rfl
theorem piece_one {a : ByteArray} {r : List ByteArray} (h : ¬ 3 ≤ runV (a :: r)) : pieceS 0 (a :: r) = a :: pieceS 0 r := by rw [pieceS, if_neg h]
/-- What is wrong with code j of a list. -/
def jE (l : List ByteArray) (j : Nat) : Nat := if codeB (l.getD j ⟨#[]⟩) = false then 10 else if 0 ≤ idxS (l.getD j ⟨#[]⟩) (l.take j) then 11 else 0
def jErr (l : List ByteArray) : Nat → Nat
  | 0 => 0
  | n + 1 => if jErr l n ≠ 0 then jErr l n else jE l n
theorem jErr_next {l : List ByteArray} {j : Nat} (h0 : jErr l j = 0) : jErr l (j + 1) = jE l j := by rw [jErr, if_neg (by rw [h0]; simp)]
theorem jErr_hit {l : List ByteArray} {j : Nat} (h0 : jErr l j = 0) (h : jE l j ≠ 0) : ∀ n, j < n → jErr l n = jE l j
  | 0, hj => by omega
  | n + 1, hj => by
    by_cases e : j = n
    · subst e; exact jErr_next h0
    · have ih := jErr_hit h0 h n (by omega)
      rw [jErr, if_pos (by rw [ih]; exact h), ih]
theorem jErr_all {l : List ByteArray} : ∀ {n : Nat}, jErr l n = 0 → ∀ j, j < n → jE l j = 0
  | 0, _, j, hj => by omega
  | n + 1, h, j, hj => by
    by_cases h0 : jErr l n = 0
    · by_cases e : j = n
      · subst e; rw [← jErr_next h0]; exact h
      · exact jErr_all h0 j (by omega)
    · rw [jErr, if_pos h0] at h; exact absurd h h0
/-- What a list of codes is joined to: the error's number, the text. -/
def joinV (l : List ByteArray) : Nat × ByteArray := if 64 < l.length then (2, ⟨#[]⟩) else if jErr l l.length ≠ 0 then (jErr l l.length, ⟨#[]⟩) else (0, mkB (Lib.join ((pieceS 0 l).map (·.data.toList)) [59]))
theorem jErr_code {l : List ByteArray} (h : jErr l l.length = 0) : ∀ x ∈ l, codeB x = true := by
  intro x hx
  obtain ⟨j, hj⟩ := List.getElem?_of_mem hx
  have hl := (List.getElem?_eq_some_iff.1 hj).1
  have := jErr_all h j hl
  unfold jE at this
  rw [List.getD_eq_getElem?_getD, hj] at this
  cases hc : codeB x with
  | true => rfl
  | false => rw [show (some x).getD (⟨#[]⟩ : ByteArray) = x from rfl, hc, if_pos rfl] at this; cases this
/-! Listed again. -/
end Go.Proofs.YthejgholpkeldaaGreatDoor
