/- Walk of timegrid.Format. No condition. The plain law of TimegridReturns: the text of a time is read as the time. No walk. -/
import Derived.Test.YtimcdikeajbabaaGreatDoorRows
import Derived.WalkKit
import Derived.WalkSpells
import Derived.WalkLawsBesides
import Derived.BigGuardPart
import Derived.Lib.Hide
import Derived.Laws.BitsAllLaws
import Derived.Laws.BitsLemmas
import Derived.Lib.LaidTab
import Derived.Test.YtimcdikeajbabaaGreatDoorShelf
import Derived.Lib.ConvBytes
import Derived.Deep.QuietTactic
import Derived.BigQuiet
import Derived.Lib.SmallJoins
import Derived.Lib.SplitLaws
import Derived.Lib.CountLaws
import Derived.Lib.IndexMore
import Derived.Lib.Split
import Derived.Lib.Join
import Derived.Lib.ItoaNum
import Derived.Laws.AppendOwn
import Derived.Laws.ResultCell
import Derived.RegionTactic
import Derived.BigRegion
import Derived.Deep.RegionHeld3
import Derived.Deep.DeepCutAuto
import Derived.Test.YtimcdikeajbabaaGreatDoorYWsF
import Derived.Test.YtimcdikeajbabaaGreatDoorYSameL
namespace Go.Proofs.YtimcdikeajbabaaGreatDoor
open Go.RowKit
set_option maxRecDepth 100000

def dayB (k : Nat) : ByteArray := dayNames.getD k ByteArray.empty
theorem dayB_size (k : Nat) : (dayB k).size ≤ 2 := by
  unfold dayB
  match k with
  | 0 | 1 | 2 | 3 | 4 | 5 | 6 => decide
  | k + 7 => simp [dayNames]
/-- The text of a time: day and slots. -/
def slotT (p q : Nat) : List UInt8 := dec2 (p + 1) ++ if 1 < q then 45 :: dec2 (p + q) else []
theorem nameB_walk (k : Nat) (hk : k < 7) (w : World) :
    Calls Tryz.prog 45 #[.int .i64 (k : Int)] w fun e w' => e = .returned (.string (dayB k)) ∧ Below w.heap.size w w' := name_walk k hk w
end Go.Proofs.YtimcdikeajbabaaGreatDoor

namespace Go.Proofs.YtimcdikeajbabaaGreatDoor

theorem dec2_all : ∀ k : Nat, k < 30 → 1 ≤ k → numL (dec2 k) = some k ∧ 45 ∉ dec2 k ∧ 32 ∉ dec2 k := by decide +kernel
theorem slotT_facts {p q : Nat} (hq : 1 ≤ q) (hpq : p + q ≤ 24) : 32 ∉ slotT p q ∧ slotsFrom (slotT p q) = p + 1 ∧ slotsTo (slotT p q) = p + q ∧ slotsOk (slotT p q) = true := by
  obtain ⟨a1, a2, a3⟩ := dec2_all (p + 1) (by omega) (by omega)
  obtain ⟨b1, b2, b3⟩ := dec2_all (p + q) (by omega) (by omega)
  have va : numV (dec2 (p + 1)) = p + 1 := by simp [numV, a1]
  have oa : numOk (dec2 (p + 1)) = true := by simp [numOk, a1]
  have vb : numV (dec2 (p + q)) = p + q := by simp [numV, b1]
  have ob : numOk (dec2 (p + q)) = true := by simp [numOk, b1]
  unfold slotsFrom slotsTo slotsOk slotsZ slotT
  by_cases h : 1 < q
  · rw [if_pos h, cut_eq, cut1_of 45 _ a2]
    refine ⟨?_, va, vb, by simp [oa, ob]⟩
    simp only [List.mem_append, List.mem_cons, not_or]
    exact ⟨a3, by decide, b3⟩
  · have : q = 1 := by omega
    subst this
    rw [if_neg (by omega), List.append_nil, cut_eq, cut1_miss 45 _ a2]
    exact ⟨a3, va, va, by simp [oa]⟩
theorem join_notin (c : UInt8) : ∀ (xs : List (List UInt8)), c ≠ 44 → (∀ x ∈ xs, c ∉ x) → c ∉ Lib.join xs [44]
  | [], _, _ => by simp [Lib.join_nil]
  | [x], _, h => by rw [Lib.join_one]; exact h x (by simp)
  | x :: y :: r, hc, h => by
    have : Lib.join (x :: y :: r) [44] = x ++ 44 :: Lib.join (y :: r) [44] := by simp [Lib.join, List.intercalate]
    rw [this]
    simp only [List.mem_append, List.mem_cons, not_or]
    exact ⟨h x (by simp), hc, join_notin c (y :: r) hc (fun z hz => h z (by simp [hz]))⟩
theorem map_data_inj : ∀ {xs ys : List ByteArray}, xs.map (·.data.toList) = ys.map (·.data.toList) → xs = ys
  | [], [], _ => rfl
  | [], _ :: _, h => by simp at h
  | _ :: _, [], h => by simp at h
  | x :: xs, y :: ys, h => by
    simp only [List.map_cons, List.cons.injEq] at h
    rw [map_data_inj h.2]
    congr 1
    apply ByteArray.ext
    exact Array.toList_inj.1 h.1
end Go.Proofs.YtimcdikeajbabaaGreatDoor
