/- Plain facts on sets of weeks: runs of weeks, their texts, and what these are read as. No walk. Walks of weekset.Weeks and timetableref05.Weeks, and of SameInts: the weeks of a set. No condition. Walk of weekset.Format. No condition. -/
import Derived.Test.YthejgholpkeldaaGreatDoorRows
import Derived.WalkKit
import Derived.WalkSpells
import Derived.WalkLawsBesides
import Derived.BigGuardPart
import Derived.Lib.Hide
import Derived.Laws.BitsAllLaws
import Derived.Laws.BitsLemmas
import Derived.Lib.LaidTab
import Derived.Test.YthejgholpkeldaaGreatDoorShelf
import Derived.Lib.ConvBytes
import Derived.Deep.QuietTactic
import Derived.BigQuiet
import Derived.Lib.SmallJoins
import Derived.Lib.SplitLaws
import Derived.Lib.CountLaws
import Derived.Lib.IndexMore
import Derived.Lib.Split
import Derived.Lib.Join
import Derived.Lib.ItoaNum
import Derived.Test.YthejgholpkeldaaGreatDoorZTwo
import Derived.Laws.AppendOwn
import Derived.Test.YthejgholpkeldaaGreatDoorZSameL
namespace Go.Proofs.YthejgholpkeldaaGreatDoor

/-- A number below 100 in decimal. -/
def dec2 (k : Nat) : List UInt8 := if k < 10 then [UInt8.ofNat (48 + k)] else [UInt8.ofNat (48 + k / 10), UInt8.ofNat (48 + k % 10)]
theorem join_two (xs ys : List (List UInt8)) (c : UInt8) (hy : ys ≠ []) : xs ≠ [] → Lib.join xs [c] ++ c :: Lib.join ys [c] = Lib.join (xs ++ ys) [c] := by
  induction xs with
  | nil => intro h; exact absurd rfl h
  | cons x r ih =>
    intro _
    cases r with
    | nil =>
      cases ys with
      | nil => exact absurd rfl hy
      | cons y q => simp [Lib.join, List.intercalate]
    | cons z q =>
      have h1 := ih (by simp)
      have e1 : ∀ (l : List (List UInt8)), Lib.join (x :: z :: l) [c] = x ++ c :: Lib.join (z :: l) [c] := fun l => by simp [Lib.join, List.intercalate]
      rw [List.cons_append, List.cons_append, e1, e1, List.append_assoc, List.cons_append, h1, List.cons_append]
theorem dec2_len (k : Nat) : (dec2 k).length ≤ 2 := by unfold dec2; split <;> simp
end Go.Proofs.YthejgholpkeldaaGreatDoor

namespace Go.Proofs.YthejgholpkeldaaGreatDoor
open Go.RowKit

theorem new_one (w : World) (x : Value) (t : TypeId) : ∀ (j : Nat) (u : Value), [x][j]? = some u → (w.alloc (.cells #[x] t)).cell? ((⟨w.heap.size, 0, none⟩ : Addr).add j) = some u := by
  intro j u hu
  match j, hu with
  | 0, hu => simp at hu; subst hu; simp [Addr.add]
theorem one_str {x : ByteArray} : ∀ u ∈ [Value.string x], u.oneCell' = true := by
  intro u hu; simp at hu; subst hu; rfl
end Go.Proofs.YthejgholpkeldaaGreatDoor

namespace Go.Proofs.YthejgholpkeldaaGreatDoor
open Go.RowKit
set_option maxRecDepth 100000

theorem infoStr : (Tryz.prog.info? 9).map (fun i => (i.zero, i.size, i.bytes)) = some (some (.string ⟨#[]⟩), 1, 16) := by kernel_rfl
/-- The texts of a list, in memory of their own. -/
def StrsAt (B : Nat) (W : World) (v : Value) (xs : List (List UInt8)) : Prop := W.ownsRow B 9 1 v xs.length (xs.map fun x => Value.string ⟨x.toArray⟩)
theorem StrsAt.nil (B : Nat) (W : World) : StrsAt B W (.slice none 0 0) [] := World.ownsRow_nil _ _ _ _
end Go.Proofs.YthejgholpkeldaaGreatDoor
