/- Plain: what a list of codes says. No condition. -/
import Derived.Test.YtnbcaklnpflihaaGreatDoorKWritten
import Derived.Test.YtnbcaklnpflihaaGreatDoorKR9A
namespace Go.Proofs.YtnbcaklnpflihaaGreatDoor
open Go.RowKit
set_option maxRecDepth 100000

def mkB (l : List UInt8) : ByteArray := ⟨l.toArray⟩
theorem mkB_list (l : List UInt8) : (mkB l).data.toList = l := by simp [mkB]
theorem mkB_size (l : List UInt8) : (mkB l).size = l.length := by rw [← len_size, mkB_list]
theorem mkB_of {X : ByteArray} {l : List UInt8} (h : X.data.toList = l) : X = mkB l := by subst h; rfl
theorem mkB_inj {a b : List UInt8} (h : mkB a = mkB b) : a = b := by rw [← mkB_list a, h, mkB_list]
/-- The prefix of a code, its last number, and that number's width. -/
def preL (a : ByteArray) : List UInt8 := a.data.toList.take (tailAt a)
def numT (a : ByteArray) : Nat := valL (a.data.toList.drop (tailAt a))
def widT (a : ByteArray) : Nat := a.size - tailAt a
/-- Are two codes the ends of a range. -/
def endsB (a b : ByteArray) : Bool := decide (tailAt a < a.size ∧ tailAt b < b.size ∧ preL a = preL b ∧ numT a ≤ numT b ∧ preL a ++ wrL (numT b) (widT a) = b.data.toList)
def ranF (a : ByteArray) (k : Nat) : ByteArray := mkB (preL a ++ wrL (numT a + k) (widT a))
/-- The codes of a range, if there is room for them. -/
def rangeV (a b : ByteArray) (room : Nat) : Nat × List ByteArray :=
  if codeB a = true ∧ codeB b = true then
    if endsB a b = true then
      if room ≤ numT b - numT a then (2, []) else (0, (List.range (numT b - numT a + 1)).map (ranF a))
    else (3, [])
  else (10, [])
theorem code_size {a : ByteArray} (h : codeB a = true) : 1 ≤ a.size ∧ a.size ≤ 16 := by
  unfold codeB at h
  simp only [Bool.and_eq_true, decide_eq_true_eq] at h
  exact h.1
/-- What a part of a list says, if there is room for so many codes. -/
def partV (p : ByteArray) (room : Nat) : Nat × List ByteArray :=
  if p.size = 0 ∨ Lib.contains (Lib.cut p.data.toList [46, 46]).2.1 [46, 46] = true then (4, [])
  else if (Lib.cut p.data.toList [46, 46]).2.2 = true then rangeV (mkB (Lib.cut p.data.toList [46, 46]).1) (mkB (Lib.cut p.data.toList [46, 46]).2.1) room
  else if codeB p = true then (0, [p]) else (10, [])
/-- Reading the parts of a list behind what was read. -/
def listF (out : List ByteArray) : List ByteArray → Nat × List ByteArray
  | [] => if out.Nodup then (0, out) else (11, [])
  | p :: ps =>
    if (partV p (64 - out.length)).1 ≠ 0 then ((partV p (64 - out.length)).1, [])
    else if 64 < (out ++ (partV p (64 - out.length)).2).length then (2, []) else listF (out ++ (partV p (64 - out.length)).2) ps
/-- What a list of codes says: the error's number, the codes. -/
def listV (s : ByteArray) : Nat × List ByteArray := if s.size = 0 then (0, []) else listF [] (partsOf s)
theorem rangeV_len (a b : ByteArray) (room : Nat) : (rangeV a b room).2.length ≤ room := by
  unfold rangeV
  by_cases h1 : codeB a = true ∧ codeB b = true
  · rw [if_pos h1]
    by_cases h2 : endsB a b = true
    · rw [if_pos h2]
      by_cases h3 : room ≤ numT b - numT a
      · rw [if_pos h3]; exact Nat.zero_le _
      · rw [if_neg h3]; simp only [List.length_map, List.length_range]; omega
    · rw [if_neg h2]; exact Nat.zero_le _
  · rw [if_neg h1]; exact Nat.zero_le _
theorem rangeV_err (a b : ByteArray) (room : Nat) (h : (rangeV a b room).1 ≠ 0) : (rangeV a b room).2 = [] := by
  revert h
  unfold rangeV
  repeat (first | split | simp)
theorem partV_len (p : ByteArray) (room : Nat) : (partV p room).2.length ≤ room + 1 := by
  unfold partV
  split
  · exact Nat.zero_le _
  · split
    · exact Nat.le_trans (rangeV_len _ _ _) (Nat.le_succ _)
    · split
      · exact Nat.succ_le_succ (Nat.zero_le _)
      · exact Nat.zero_le _
end Go.Proofs.YtnbcaklnpflihaaGreatDoor
