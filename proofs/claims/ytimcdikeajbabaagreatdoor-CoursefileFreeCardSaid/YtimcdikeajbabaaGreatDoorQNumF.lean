/- Walks of Scanner.Number, whether a problem is noted or not: at most so many digits, of which the first may be 0; and the bound of a length. Conditions: at most 18 digits. -/
import Derived.Test.YtimcdikeajbabaaGreatDoorRows
import Derived.WalkKit
import Derived.WalkSpells
import Derived.WalkLawsBesides
import Derived.BigGuardPart
import Derived.Lib.Hide
import Derived.Laws.BitsAllLaws
import Derived.Laws.BitsLemmas
import Derived.Lib.LaidTab
import Derived.Test.YtimcdikeajbabaaGreatDoorShelf
import Derived.Lib.ConvBytes
import Derived.Deep.QuietTactic
import Derived.BigQuiet
import Derived.Laws.ResultCell
import Derived.RegionTactic
import Derived.BigRegion
import Derived.Deep.RegionHeld3
import Derived.Deep.DeepCutAuto
import Derived.Lib.SmallJoins
import Derived.Lib.SplitLaws
import Derived.Lib.CountLaws
import Derived.Lib.IndexMore
import Derived.Lib.Split
import Derived.Lib.Join
import Derived.Test.YtimcdikeajbabaaGreatDoorShelfT
import Derived.Test.YtimcdikeajbabaaGreatDoorQNumS
namespace Go.Proofs.YtimcdikeajbabaaGreatDoor
open Go.RowKit
set_option maxRecDepth 100000

def NumAnyF (most g : Nat) (line : Int) (F : Option Addr) (fs : List Fld) (c k : Nat) (pr : Option Prob) (w : World) (e : Ending) (w' : World) : Prop :=
  ∃ (k' n : Nat) (pr' : Option Prob), e = .returned (.int .i64 (n : Int)) ∧ Scan w' g line F fs.length c k' pr' ∧ Only g w w' ∧ 1 ≤ k' ∧ k' ≤ k + 1 ∧ (pr = none → k' = k + 1 ∧ n = (numE most (textAt fs k)).getD 0 ∧ pr' = numP (numE most (textAt fs k)) (line, colAt fs (k + 1), 4)) ∧ (∀ p, pr = some p → pr' = some p ∧ n = 0)
theorem num_anyF (B g : Nat) (line : Int) (F : Option Addr) (fs : List Fld) (c k most : Nat) (pr : Option Prob) (w : World) (h : Scan w g line F fs.length c k pr) (hF : FieldsAt B w F fs) (h2 : k < fs.length) (hm : fs.length ≤ 1000) (hB : B ≤ g) (h1 : ∀ p, pr = some p → 1 ≤ k) (h18 : most ≤ 18) (hsz : (textAt fs k).size ≤ 9223372036854775807) :
    Calls Tryz.prog 67 #[.pointer (some ⟨g, 0, none⟩), .int .i64 most, .bool true] w fun e w' => NumAnyF most g line F fs c k pr w e w' := by
  cases pr with
  | none =>
    refine (fnum_walk B g line F fs c k most w h hF h2 hm hB h18 hsz).mono ?_
    rintro e w' ⟨rfl, hs, ho⟩
    exact ⟨k + 1, _, _, rfl, hs, ho, by omega, Nat.le_refl _, fun _ => ⟨rfl, rfl, rfl⟩, fun p hp => by cases hp⟩
  | some p =>
    have hk := h1 p rfl
    refine (fnum_stop B g line F fs c k most p w h hF hk (by omega) hm hB h18).mono ?_
    rintro e w' ⟨rfl, hs, ho⟩
    exact ⟨k, 0, _, rfl, hs, ho, hk, by omega, (fun hp => by cases hp), fun q hq => ⟨hq, rfl⟩⟩
/-- A number of at most two digits. -/
theorem numE_99 (s : ByteArray) : (numE 2 s).getD 0 ≤ 99 := by
  unfold numE
  split
  · rename_i h
    have h2 := (dig_val h.2.2).2
    have h3 : 10 ^ s.size ≤ 10 ^ 2 := Nat.pow_le_pow_right (by omega) h.2.1
    have : (10 : Nat) ^ 2 = 100 := rfl
    show valS s ≤ 99
    omega
  · exact Nat.zero_le _
theorem num_99 {n : Nat} {pr : Option Prob} {s : ByteArray} (h1 : pr = none → n = (numE 2 s).getD 0) (h2 : ∀ p, pr = some p → n = 0) : n ≤ 99 := by
  cases pr with
  | none => rw [h1 rfl]; exact numE_99 s
  | some p => rw [h2 p rfl]; omega
end Go.Proofs.YtimcdikeajbabaaGreatDoor
