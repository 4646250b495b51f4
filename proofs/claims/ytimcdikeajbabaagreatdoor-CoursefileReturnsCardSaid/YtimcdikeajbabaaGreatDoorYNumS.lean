/- Walk of Scanner.Number whose first digit is not 0, whether a problem is noted or not. Conditions: at most 18 digits. -/
import Derived.Test.YtimcdikeajbabaaGreatDoorRows
import Derived.WalkKit
import Derived.WalkSpells
import Derived.WalkLawsBesides
import Derived.BigGuardPart
import Derived.Lib.Hide
import Derived.Laws.BitsAllLaws
import Derived.Laws.BitsLemmas
import Derived.Lib.LaidTab
import Derived.Test.YtimcdikeajbabaaGreatDoorShelf
import Derived.Lib.ConvBytes
import Derived.Deep.QuietTactic
import Derived.BigQuiet
import Derived.Laws.ResultCell
import Derived.RegionTactic
import Derived.BigRegion
import Derived.Deep.RegionHeld3
import Derived.Deep.DeepCutAuto
import Derived.Lib.SmallJoins
import Derived.Lib.SplitLaws
import Derived.Lib.CountLaws
import Derived.Lib.IndexMore
import Derived.Lib.Split
import Derived.Lib.Join
import Derived.Test.YtimcdikeajbabaaGreatDoorShelfT
import Derived.Test.YtimcdikeajbabaaGreatDoorYNumber
import Derived.Test.YtimcdikeajbabaaGreatDoorYSameL
namespace Go.Proofs.YtimcdikeajbabaaGreatDoor
open Go.RowKit
set_option maxRecDepth 100000

/-- A number of at most so many digits that does not begin with 0. -/
def zeroS (s : ByteArray) : Bool := if h : 0 < s.size then decide (s[0].toNat = 48) else false
def numS (most : Nat) (s : ByteArray) : Option Nat := if zeroS s = true then none else numE most s
def NumAnyS (most g : Nat) (line : Int) (F : Option Addr) (fs : List Fld) (c k : Nat) (pr : Option Prob) (w : World) (e : Ending) (w' : World) : Prop :=
  ∃ (k' n : Nat) (pr' : Option Prob), e = .returned (.int .i64 (n : Int)) ∧ Scan w' g line F fs.length c k' pr' ∧ Only g w w' ∧ 1 ≤ k' ∧ k' ≤ k + 1 ∧ (pr = none → k' = k + 1 ∧ n = (numE most (textAt fs k)).getD 0 ∧ pr' = numP (numS most (textAt fs k)) (line, colAt fs (k + 1), 4)) ∧ (∀ p, pr = some p → pr' = some p ∧ n = 0)
set_option maxHeartbeats 800000 in
theorem num_anyS (B g : Nat) (line : Int) (F : Option Addr) (fs : List Fld) (c k most : Nat) (pr : Option Prob) (w : World) (h : Scan w g line F fs.length c k pr) (hF : FieldsAt B w F fs) (h2 : k < fs.length) (hm : fs.length ≤ 1000) (hB : B ≤ g) (h1 : ∀ p, pr = some p → 1 ≤ k) (h18 : most ≤ 18) (hsz : (textAt fs k).size ≤ 9223372036854775807) :
    Calls Tryz.prog 67 #[.pointer (some ⟨g, 0, none⟩), .int .i64 most, .bool false] w fun e w' => NumAnyS most g line F fs c k pr w e w' := by
  have hlt := h.lt
  cases pr with
  | none =>
    obtain ⟨s, hs⟩ : ∃ s, textAt fs k = s := ⟨_, rfl⟩
    have hgo := fnext_go B g line F fs c k w h hF h2 hm hB
    have hdig := fun (V : World) => digits_walk s most h18 V (by rw [← hs]; exact hsz)
    rw [hs] at hgo
    cases ho : numE most s with
    | none =>
      have hfin : Hid (numP (numS most (textAt fs k)) (line, colAt fs (k + 1), 4) = some (line, colAt fs (k + 1), 4) ∧ (numE most (textAt fs k)).getD 0 = 0) := hide (by
        rw [hs, ho]
        refine ⟨?_, rfl⟩
        unfold numS
        split
        · rfl
        · rw [ho]; rfl)
      rw [ho] at hdig
      replace hdig := hide hdig
      replace hs := hide hs
      replace ho := hide ho
      go_enter Tryz.func67, Tryz.ntmps67
      go_wp2_with fail
      refine hgo.mono ?_
      rintro e w1 ⟨rfl, hs1, ho1⟩
      go_wp2_with fail
      refine (hdig.out w1).mono ?_
      rintro e w2 ⟨rfl, hb2⟩
      rw [show digV none = .tuple #[.int .i64 0, .bool false] from rfl]
      have hs2 := hs1.later hb2
      have ho2 := ho1.later hb2
      go_wp2_with fail
      refine (fail_walk B g line F fs c (k + 1) none 4 w2 hs2 (hF.only ho2 hB (by omega)) (by omega) (by omega) hm).mono ?_
      rintro e w3 ⟨rfl, hs3, ho3⟩
      go_wp2
      go_ret
      exact ⟨k + 1, 0, _, rfl, hs3, ho2.trans ho3, by omega, Nat.le_refl _, fun _ => ⟨rfl, hfin.out.2.symm, hfin.out.1.symm⟩, fun p hp => by cases hp⟩
    | some n =>
      have hpos : 0 < s.size := by
        apply Classical.byContradiction
        intro hn
        unfold numE at ho
        rw [if_neg (fun h => hn h.1)] at ho
        cases ho
      have h0 : (0 : Int) < (s.size : Int) := by omega
      rw [ho] at hdig
      by_cases hz : s[0].toNat = 48
      · have hzi : ((s[0].toNat : Nat) : Int) = 48 := by omega
        have hfin : Hid (numP (numS most (textAt fs k)) (line, colAt fs (k + 1), 4) = some (line, colAt fs (k + 1), 4) ∧ (numE most (textAt fs k)).getD 0 = n) := hide (by
          rw [hs, ho]
          refine ⟨?_, rfl⟩
          unfold numS
          rw [if_pos (by unfold zeroS; rw [dif_pos hpos]; simpa using hz)]; rfl)
        replace hdig := hide hdig
        replace hs := hide hs
        replace ho := hide ho
        go_enter Tryz.func67, Tryz.ntmps67
        go_wp2_with fail
        refine hgo.mono ?_
        rintro e w1 ⟨rfl, hs1, ho1⟩
        go_wp2_with fail
        refine (hdig.out w1).mono ?_
        rintro e w2 ⟨rfl, hb2⟩
        rw [show digV (some n) = .tuple #[.int .i64 n, .bool true] from rfl]
        have hs2 := hs1.later hb2
        have ho2 := ho1.later hb2
        go_wp2_with fail
        refine (fail_walk B g line F fs c (k + 1) none 4 w2 hs2 (hF.only ho2 hB (by omega)) (by omega) (by omega) hm).mono ?_
        rintro e w3 ⟨rfl, hs3, ho3⟩
        go_wp2
        go_ret
        exact ⟨k + 1, n, _, rfl, hs3, ho2.trans ho3, by omega, Nat.le_refl _, fun _ => ⟨rfl, hfin.out.2.symm, hfin.out.1.symm⟩, fun p hp => by cases hp⟩
      · have hzi : ¬ ((s[0].toNat : Nat) : Int) = 48 := by omega
        have hfin : Hid (numP (numS most (textAt fs k)) (line, colAt fs (k + 1), 4) = none ∧ (numE most (textAt fs k)).getD 0 = n) := hide (by
          rw [hs, ho]
          refine ⟨?_, rfl⟩
          unfold numS
          rw [if_neg (by unfold zeroS; rw [dif_pos hpos]; simpa using hz), ho]; rfl)
        replace hdig := hide hdig
        replace hs := hide hs
        replace ho := hide ho
        go_enter Tryz.func67, Tryz.ntmps67
        go_wp2_with fail
        refine hgo.mono ?_
        rintro e w1 ⟨rfl, hs1, ho1⟩
        go_wp2_with fail
        refine (hdig.out w1).mono ?_
        rintro e w2 ⟨rfl, hb2⟩
        rw [show digV (some n) = .tuple #[.int .i64 n, .bool true] from rfl]
        have hs2 := hs1.later hb2
        have ho2 := ho1.later hb2
        go_wp2_with fail
        go_ret
        exact ⟨k + 1, n, _, rfl, hs2, ho2, by omega, Nat.le_refl _, fun _ => ⟨rfl, hfin.out.2.symm, hfin.out.1.symm⟩, fun p hp => by cases hp⟩
  | some p =>
    have hk := h1 p rfl
    go_enter Tryz.func67, Tryz.ntmps67
    go_wp2_with fail
    refine (fnext_stop g line F fs.length c k p w h).mono ?_
    rintro e w1 ⟨rfl, rfl⟩
    go_wp2_with fail
    refine (digits_walk ⟨#[]⟩ most h18 w (by decide)).mono ?_
    rintro e w2 ⟨rfl, hb2⟩
    rw [numE_none, show digV none = .tuple #[.int .i64 0, .bool false] from rfl]
    have hs2 := h.later hb2
    have ho2 := (Only.refl g w).later hb2
    go_wp2_with fail
    refine (fail_walk B g line F fs c k (some p) 4 w2 hs2 (hF.only ho2 hB (by omega)) hk (by omega) hm).mono ?_
    rintro e w3 ⟨rfl, hs3, ho3⟩
    go_wp2
    go_ret
    exact ⟨k, 0, _, rfl, hs3, ho2.trans ho3, hk, by omega, (fun hp => by cases hp), fun q hq => ⟨hq, rfl⟩⟩
end Go.Proofs.YtimcdikeajbabaaGreatDoor
