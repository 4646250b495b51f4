/- Walks of timetableref06.Format and Weekday. The listed variables hold their words. Walks of timetableref06.Weekday and Parse. Conditions: texts shorter than 2^30 bytes; the listed variables hold their words. -/
import Derived.Test.YtimcdikeajbabaaGreatDoorRows
import Derived.WalkKit
import Derived.WalkSpells
import Derived.WalkLawsBesides
import Derived.BigGuardPart
import Derived.Lib.Hide
import Derived.Laws.BitsAllLaws
import Derived.Laws.BitsLemmas
import Derived.Lib.LaidTab
import Derived.Test.YtimcdikeajbabaaGreatDoorShelf
import Derived.Lib.ConvBytes
import Derived.Deep.QuietTactic
import Derived.BigQuiet
import Derived.Lib.SmallJoins
import Derived.Lib.SplitLaws
import Derived.Lib.CountLaws
import Derived.Lib.IndexMore
import Derived.Lib.Split
import Derived.Lib.Join
import Derived.Lib.ItoaNum
import Derived.Laws.AppendOwn
import Derived.Laws.ResultCell
import Derived.RegionTactic
import Derived.BigRegion
import Derived.Deep.RegionHeld3
import Derived.Deep.DeepCutAuto
import Derived.Lib.PathFns
import Derived.Test.YtimcdikeajbabaaGreatDoorZHasK
namespace Go.Proofs.YtimcdikeajbabaaGreatDoor
open Go.RowKit
set_option maxRecDepth 100000

theorem Dys.cell {w : World} (h : Dys w) (k : Nat) (hk : k < 7) : w.cell? ⟨3, k, none⟩ = some (.string (dayB k)) := by
  obtain ⟨t, r, hr⟩ := h
  rw [cell_of_row w _ k _ _ _ hr]
  match k, hk with
  | 0, _ | 1, _ | 2, _ | 3, _ | 4, _ | 5, _ | 6, _ => rfl
end Go.Proofs.YtimcdikeajbabaaGreatDoor

namespace Go.Proofs.YtimcdikeajbabaaGreatDoor
open Go.RowKit
set_option maxRecDepth 100000

theorem idx_hit (x : ByteArray) : ∀ (zs : List ByteArray) (i k : Nat), (∀ j, j < k → zs[j]? ≠ some x) → zs[k]? = some x → Lib.idxFromS zs x i = ((i + k : Nat) : Int)
  | [], i, k, _, h => by simp at h
  | z :: zs, i, 0, _, h => by
    simp at h
    unfold Lib.idxFromS
    rw [if_pos h]; rfl
  | z :: zs, i, k + 1, hm, h => by
    have h0 := hm 0 (by omega)
    simp at h0 h
    unfold Lib.idxFromS
    rw [if_neg h0, idx_hit x zs (i + 1) k (fun j hj => by have := hm (j + 1) (by omega); simpa using this) h]
    congr 1
    omega
theorem idx_miss (x : ByteArray) : ∀ (zs : List ByteArray) (i : Nat), (∀ j : Nat, zs[j]? ≠ some x) → Lib.idxFromS zs x i = -1
  | [], _, _ => rfl
  | z :: zs, i, hm => by
    have h0 := hm 0
    simp at h0
    unfold Lib.idxFromS
    rw [if_neg h0]
    exact idx_miss x zs (i + 1) (fun j => by have := hm (j + 1); simpa using this)
theorem dayNames_get (k : Nat) (hk : k < 7) : dayNames[k]? = some (dayB k) := by
  match k, hk with
  | 0, _ | 1, _ | 2, _ | 3, _ | 4, _ | 5, _ | 6, _ => rfl
theorem dayI_hit {x : ByteArray} {k : Nat} (hk : k < 7) (hm : ∀ j, j < k → dayB j ≠ x) (h : dayB k = x) : dayI x = (k : Int) := by
  have := idx_hit x dayNames 0 k (fun j hj e => hm j hj (Option.some.inj ((dayNames_get j (by omega)).symm.trans e))) ((dayNames_get k hk).trans (congrArg some h))
  rw [Nat.zero_add] at this
  exact this
theorem dayI_miss {x : ByteArray} (hm : ∀ j, j < 7 → dayB j ≠ x) : dayI x = -1 :=
  idx_miss x dayNames 0 (fun j e => by
    by_cases hj : j < 7
    · exact hm j hj (Option.some.inj ((dayNames_get j hj).symm.trans e))
    · rw [List.getElem?_eq_none (by show 7 ≤ j; omega)] at e; cases e)
theorem toList_inj {a b : ByteArray} : (a.toList == b.toList) = decide (a = b) := by
  rw [Bool.eq_iff_iff, beq_iff_eq, decide_eq_true_eq, Lib.toList_data, Lib.toList_data]
  constructor
  · intro h; apply ByteArray.ext; exact Array.toList_inj.1 h
  · rintro rfl; rfl
set_option maxHeartbeats 800000 in
theorem weekday_walk (x : ByteArray) (w : World) (hDy : Dys w) :
    Calls Tryz.prog 160 #[.string x] w fun e w' => e = .returned (.int .i64 (dayI x)) ∧ w = w' := by
  go_enter Tryz.func160, Tryz.ntmps160
  go_wp2
  go_loop [3] (fun i => ∃ k : Nat, k ≤ 7 ∧ i = .int .i64 k ∧ ∀ j, j < k → dayB j ≠ x) (fun i => (7 - intOf i).toNat)
  case atStart => exact ⟨0, by omega, rfl, fun j hj => by omega⟩
  case round =>
    obtain ⟨k, hk, rfl, hm⟩ := hrel
    replace hm := hide hm
    by_cases hlt : k < 7
    · have c0 := hDy.cell k hlt
      have k0 : (0 : Int) ≤ k := by omega
      have k1 : (k : Int) < 7 := by omega
      by_cases he : dayB k = x
      · have hb : ((dayB k).toList == x.toList) = true := by rw [toList_inj]; simpa using he
        have hfin := hide (dayI_hit hlt hm.out he)
        replace he := hide he
        go_wp2
        go_ret
        exact ⟨ret_int hfin.out.symm, rfl⟩
      · have hb : ((dayB k).toList == x.toList) = false := by rw [toList_inj]; simpa using he
        replace he := hide he
        go_wp2
        go_round
        case rel => exact ⟨k + 1, by omega, by go_num, fun j hj => by
          by_cases e : j = k
          · subst e; exact he.out
          · exact hm.out j (by omega)⟩
        case measure => simp [intOf]; omega
    · have hk7 : k = 7 := by omega
      have hfin := hide (dayI_miss (x := x) (fun j hj => hm.out j (by omega)))
      clear hk7
      go_wp2
      go_ret
      exact ⟨ret_int hfin.out.symm, rfl⟩
end Go.Proofs.YtimcdikeajbabaaGreatDoor
