/- Lecturers and times as kinds of data. No condition. Rooms as data; what is wrong with rooms (plain). No walk. Walks of fields.Ascending, timetableref02.Rises, timetableref07.Codes. Conditions: the cells. What the reading of a room gives (plain). No walk. -/
import Derived.Test.YtimcdikeajbabaaGreatDoorRows
import Derived.WalkKit
import Derived.WalkSpells
import Derived.WalkLawsBesides
import Derived.BigGuardPart
import Derived.Lib.Hide
import Derived.Laws.BitsAllLaws
import Derived.Laws.BitsLemmas
import Derived.Lib.LaidTab
import Derived.Test.YtimcdikeajbabaaGreatDoorShelf
import Derived.Lib.ConvBytes
import Derived.Deep.QuietTactic
import Derived.BigQuiet
import Derived.Test.YtimcdikeajbabaaGreatDoorCards
import Derived.Test.YtimcdikeajbabaaGreatDoorTie
import Derived.ProofKit
import Derived.OpenShut
import Derived.LaidMore
import Derived.Lay
import Derived.SevenTiedAt
import Derived.Stop.Joined
import Derived.Stop.LaidErr
import Derived.Deep.DeepHandedRow
import Derived.Lib.LaidU8
import Derived.LaidSub
import Derived.Laws.ResultCell
import Derived.RegionTactic
import Derived.BigRegion
import Derived.Deep.RegionHeld3
import Derived.Deep.DeepCutAuto
import Derived.Lib.SmallJoins
import Derived.Lib.SplitLaws
import Derived.Lib.CountLaws
import Derived.Lib.IndexMore
import Derived.Lib.Split
import Derived.Lib.Join
import Derived.Lib.ItoaNum
import Derived.Laws.AppendOwn
import Derived.Deep.Slices
import Derived.Deep.Fields
import Derived.ChangeSame
import Derived.Deep.AppendLies
import Derived.Test.YtimcdikeajbabaaGreatDoorYPlainA
import Derived.Test.YtimcdikeajbabaaGreatDoorYSameL
import Derived.Test.YtimcdikeajbabaaGreatDoorShelfS
import Derived.Test.YtimcdikeajbabaaGreatDoorShelfT
import Derived.Lib.ItoaLen
import Derived.Lib.AppendIntMem
import Derived.Lib.PathFns
import Derived.Maps.Range
import Derived.Lib.OwnBridge
import Derived.Sort.OwnSorted
import Derived.Sort.Walk0
namespace Go.Proofs.YtimcdikeajbabaaGreatDoor
open Go.RowKit
set_option maxRecDepth 100000

def kTime : Kind T4 := kPair kInt (kPair kInt (kPair kInt kInt))
def kLect : Kind Lect := kPair kStr (kSlice kTime)
theorem rep_time {S : Nat → Prop} {w : World} {t : T4} {vs : List Value} (h : kTime.rep S w t vs) : vs = encT t := by
  obtain ⟨us1, ts1, rfl, h1, us2, ts2, rfl, h2, us3, ts3, rfl, h3, h4⟩ := h
  rw [rep_int] at h1 h2 h3 h4
  subst h1 h2 h3 h4
  rfl
theorem cells_of_at {B : Nat} {w : World} {A : Option Addr} {ts : List T4} (h : At kTime (· < B) w A ts) : CellsAt B w A 4 ts.length fun k => encT (ts.getD k (0, 0, 0, 0)) := by
  intro hn
  obtain ⟨b, off, e, hb, hlt, hc⟩ := h hn
  refine ⟨b, off, e, hb, fun j hj i u hu => ?_⟩
  have hx : ts[j]? = some (ts.getD j (0, 0, 0, 0)) := by rw [List.getD_eq_getElem?_getD, List.getElem?_eq_getElem hj]; rfl
  obtain ⟨vs, hr, hcell⟩ := hc j _ hx
  rw [rep_time hr] at hcell
  exact hcell i u hu
end Go.Proofs.YtimcdikeajbabaaGreatDoor

namespace Go.Proofs.YtimcdikeajbabaaGreatDoor
open Go.RowKit
set_option maxRecDepth 100000

/-! Ascending codes. -/
/-- x is not behind y. -/
def leqS (x y : ByteArray) : Bool := Op.bytesLess x.toList y.toList || x.toList == y.toList
def ascTo (l : List ByteArray) : Nat → Bool
  | 0 => true
  | n + 1 => ascTo l n && (codeB (l.getD n ⟨#[]⟩) && (decide (n = 0) || !leqS (l.getD n ⟨#[]⟩) (l.getD (n - 1) ⟨#[]⟩)))
def codesTo (l : List ByteArray) : Nat → Bool
  | 0 => true
  | n + 1 => codesTo l n && codeB (l.getD n ⟨#[]⟩)
def risesTo (l : List ByteArray) : Nat → Bool
  | 0 => true
  | n + 1 => risesTo l n && (decide (n = 0) || !leqS (l.getD n ⟨#[]⟩) (l.getD (n - 1) ⟨#[]⟩))
theorem asc_both (l : List ByteArray) : ∀ n, ascTo l n = (codesTo l n && risesTo l n)
  | 0 => rfl
  | n + 1 => by
    rw [ascTo, codesTo, risesTo, asc_both l n]
    cases codesTo l n <;> cases risesTo l n <;> cases codeB (l.getD n ⟨#[]⟩) <;> simp
theorem ascTo_false {l : List ByteArray} {k : Nat} (h : ascTo l k = false) : ∀ n, k ≤ n → ascTo l n = false
  | 0, hk => by
    have e : k = 0 := by omega
    rw [e] at h; exact h
  | n + 1, hk => by
    by_cases e : k = n + 1
    · rw [← e]; exact h
    · rw [ascTo, ascTo_false h n (by omega), Bool.false_and]
theorem codesTo_false {l : List ByteArray} {k : Nat} (h : codesTo l k = false) : ∀ n, k ≤ n → codesTo l n = false
  | 0, hk => by
    have e : k = 0 := by omega
    rw [e] at h; exact h
  | n + 1, hk => by
    by_cases e : k = n + 1
    · rw [← e]; exact h
    · rw [codesTo, codesTo_false h n (by omega), Bool.false_and]
/-! What is wrong. -/
end Go.Proofs.YtimcdikeajbabaaGreatDoor

namespace Go.Proofs.YtimcdikeajbabaaGreatDoor
open Go.RowKit
set_option maxRecDepth 100000

theorem getD_atS {l : List ByteArray} {i : Nat} {x : ByteArray} (hx : l[i]? = some x) : l.getD i ⟨#[]⟩ = x := by rw [List.getD_eq_getElem?_getD, hx]; rfl
theorem ascTo_bad {l : List ByteArray} {i n : Nat} {x : ByteArray} (hx : l[i]? = some x) (hi : i < n) (h : codeB x = false) : ascTo l n = false := ascTo_false (k := i + 1) (by rw [ascTo, getD_atS hx, h, Bool.false_and, Bool.and_false]) n hi
theorem ascTo_low {l : List ByteArray} {k n : Nat} {x y : ByteArray} (hx : l[k + 1]? = some x) (hy : l[k]? = some y) (hi : k + 1 < n) (h : leqS x y = true) : ascTo l n = false := ascTo_false (k := k + 1 + 1) (by rw [ascTo, getD_atS hx, show k + 1 - 1 = k from rfl, getD_atS hy, h]; simp) n hi
theorem ascTo_first {l : List ByteArray} {x : ByteArray} (hx : l[0]? = some x) (h : codeB x = true) : ascTo l (0 + 1) = true := by rw [ascTo, getD_atS hx, h]; rfl
theorem ascTo_more {l : List ByteArray} {k : Nat} {x y : ByteArray} (h0 : ascTo l (k + 1) = true) (hx : l[k + 1]? = some x) (hy : l[k]? = some y) (hc : codeB x = true) (h : leqS x y = false) : ascTo l (k + 1 + 1) = true := by rw [ascTo, h0, getD_atS hx, show k + 1 - 1 = k from rfl, getD_atS hy, h, hc]; simp
set_option maxHeartbeats 4000000 in
theorem fasc_walk (A : Option Addr) (l : List ByteArray) (c : Nat) (w : World) (hl : l.length ≤ 9223372036854775807) (h : At kStr AnyB w A l) :
    Calls Tryz.prog 93 #[.slice A l.length c] w fun e w' => e = .returned (.bool (ascTo l l.length)) ∧ w' = w := by
  have cv := hide (fun (s : ByteArray) => cvalid_walk s w)
  obtain ⟨n, hnn⟩ : ∃ n, l.length = n := ⟨_, rfl⟩
  rw [hnn] at hl ⊢
  obtain ⟨V, hV⟩ : ∃ V, ascTo l n = V := ⟨_, rfl⟩
  rw [hV]
  replace hV := hide hV
  replace hnn := hide hnn
  go_enter Tryz.func93, Tryz.ntmps93
  go_wp2_with fail
  go_loopw [7] (fun v wr => ∃ i : Nat, i ≤ n ∧ v = .int .i64 i ∧ Hid (ascTo l i = true) ∧ wr = w) (fun v _ => n - (intOf v).toNat)
  case atStart => exact ⟨0, Nat.zero_le _, rfl, hide rfl, rfl⟩
  case round =>
    obtain ⟨i, hi, rfl, hs, rfl⟩ := hrel
    by_cases hlt : i < n
    · obtain ⟨x, hx⟩ : ∃ x, l[i]? = some x := ⟨_, List.getElem?_eq_getElem (by rw [hnn.out]; exact hlt)⟩
      obtain ⟨zb, zo, rfl, -, hzl, z0⟩ := h.str hx
      have hi0 : (0 : Int) ≤ (i : Int) := by omega
      have hi1 : (i : Int) < (n : Int) := by omega
      cases hc : codeB x with
      | false =>
        have e : V = false := by rw [← hV.out]; exact ascTo_bad hx hlt hc
        subst e
        clear hx
        go_wp2_with (go_at_call 91; (with_reducible refine (cv.out _).mono ?_); rintro e w7 ⟨rfl, rfl⟩; rw [hc])
        go_ret
        exact ⟨rfl, rfl⟩
      | true =>
        cases i with
        | zero =>
          rw [Nat.add_zero] at z0
          have hs' := hide (ascTo_first hx hc)
          clear hx
          go_wp2_with (go_at_call 91; (with_reducible refine (cv.out _).mono ?_); rintro e w7 ⟨rfl, rfl⟩; rw [hc])
          go_roundw
          case rel => exact ⟨0 + 1, by omega, by go_num, hs', trivial⟩
          case measure => first | (simp [intOf]; done) | (simp [intOf]; omega)
        | succ k =>
          obtain ⟨y, hy⟩ : ∃ y, l[k]? = some y := ⟨_, List.getElem?_eq_getElem (by rw [hnn.out]; omega)⟩
          obtain ⟨zb', zo', e', -, -, y0⟩ := h.str hy
          injection e' with e'
          injection e' with e1 e2
          subst e1 e2
          have hk1 : (0 : Int) < ((k + 1 : Nat) : Int) := by omega
          have hkw : IntKind.i64.wrap (((k + 1 : Nat) : Int) - 1) = (k : Int) := by rw [IntKind.wrap_i64]; omega
          have hkk : ((k + 1 : Nat) : Int) - 1 = (k : Int) := by omega
          have hk2 : (0 : Int) ≤ (k : Int) := by omega
          have hk3 : (k : Int) < (n : Int) := by omega
          cases hb : Op.bytesLess x.toList y.toList with
          | true =>
            have e : V = false := by rw [← hV.out]; exact ascTo_low hx hy hlt (by unfold leqS; rw [hb]; rfl)
            subst e
            clear hx hy
            go_wp2_with (go_at_call 91; (with_reducible refine (cv.out _).mono ?_); rintro e w7 ⟨rfl, rfl⟩; rw [hc])
            go_ret
            exact ⟨rfl, rfl⟩
          | false =>
            by_cases hxy : x.toList = y.toList
            · have hbe : (x.toList == y.toList) = true := by rw [hxy]; simp
              have e : V = false := by rw [← hV.out]; exact ascTo_low hx hy hlt (by unfold leqS; rw [hb, hbe]; rfl)
              subst e
              clear hx hy
              go_wp2_with (go_at_call 91; (with_reducible refine (cv.out _).mono ?_); rintro e w7 ⟨rfl, rfl⟩; rw [hc])
              go_ret
              exact ⟨rfl, rfl⟩
            · have hbe : (x.toList == y.toList) = false := by simp [hxy]
              have hs' := hide (ascTo_more hs.out hx hy hc (by unfold leqS; rw [hb, hbe]; rfl))
              clear hx hy
              go_wp2_with (go_at_call 91; (with_reducible refine (cv.out _).mono ?_); rintro e w7 ⟨rfl, rfl⟩; rw [hc])
              go_roundw
              case rel => exact ⟨k + 1 + 1, by omega, by go_num, hs', trivial⟩
              case measure => first | (simp [intOf]; done) | (simp [intOf]; omega)
    · obtain rfl : i = n := by omega
      have e : V = true := by rw [← hV.out]; exact hs.out
      subst e
      go_wp2
      go_ret
      exact ⟨rfl, rfl⟩
end Go.Proofs.YtimcdikeajbabaaGreatDoor

namespace Go.Proofs.YtimcdikeajbabaaGreatDoor
open Go.RowKit
set_option maxRecDepth 100000

def orP (a b : Option Prob) : Option Prob := match a with
  | some p => some p
  | none => b
theorem noted_no {a : Option Prob} {wr : Bool} {p : Prob} (h : noted a wr p = none) : a = none := by
  cases a with
  | none => rfl
  | some q => cases h
end Go.Proofs.YtimcdikeajbabaaGreatDoor
