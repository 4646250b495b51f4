/- Plain: the pairs of a list of numbers; two ways to find them; walk of timetableref02.Has. Condition: the cells. A region that draws its order and holds calls that make memory, walked once, in the order of the text: the class of worlds is 'whatever keeps what there was'. No condition. -/
import Derived.Test.YtpojkgfckepoeaaGreatDoorShelfS
import Derived.Test.YtpojkgfckepoeaaGreatDoorRows
import Derived.WalkKit
import Derived.WalkSpells
import Derived.WalkLawsBesides
import Derived.BigGuardPart
import Derived.Lib.Hide
import Derived.Laws.BitsAllLaws
import Derived.Laws.BitsLemmas
import Derived.Lib.LaidTab
import Derived.Test.YtpojkgfckepoeaaGreatDoorShelf
import Derived.Lib.ConvBytes
import Derived.Deep.QuietTactic
import Derived.BigQuiet
import Derived.Laws.ResultCell
import Derived.RegionTactic
import Derived.BigRegion
import Derived.Deep.RegionHeld3
import Derived.Deep.DeepCutAuto
import Derived.Lib.SmallJoins
import Derived.Lib.SplitLaws
import Derived.Lib.CountLaws
import Derived.Lib.IndexMore
import Derived.Lib.Split
import Derived.Lib.Join
import Derived.Lib.ItoaNum
import Derived.Laws.AppendOwn
import Derived.Test.YtpojkgfckepoeaaGreatDoorShelfT
import Derived.Lib.ItoaLen
import Derived.Lib.AppendIntMem
import Derived.Deep.AppendLies
import Derived.Lib.PathFns
import Derived.Maps.Range
import Derived.Lib.OwnBridge
import Derived.Sort.OwnSorted
import Derived.Test.YtpojkgfckepoeaaGreatDoorXIdxS
import Derived.Test.YtpojkgfckepoeaaGreatDoorXSameL
namespace Go.Proofs.YtpojkgfckepoeaaGreatDoor
open Go.RowKit
set_option maxRecDepth 100000

set_option maxHeartbeats 2000000 in
theorem r2has_walk (A : Option Addr) (xs : List ByteArray) (c : Nat) (z : ByteArray) (w : World) (hn : xs.length ≤ 9223372036854775807) (h : At kStr AnyB w A xs) :
    Calls Tryz.prog 43 #[.slice A xs.length c, .string z] w fun e w' => e = .returned (.bool (decide (0 ≤ idxS z xs))) ∧ w = w' := by
  obtain ⟨n, hnn⟩ : ∃ n, xs.length = n := ⟨_, rfl⟩
  rw [hnn] at hn ⊢
  replace hnn := hide hnn
  go_enter Tryz.func43, Tryz.ntmps43
  go_wp2
  go_loop [5] (fun i => ∃ j : Nat, j ≤ n ∧ i = .int .i64 j ∧ Hid (∀ y ∈ xs.take j, (y.toList == z.toList) = false)) (fun i => n - (intOf i).toNat)
  case atStart => exact ⟨0, Nat.zero_le _, rfl, hide (fun y hy => by simp at hy)⟩
  case round =>
    obtain ⟨j, hj, rfl, ho⟩ := hrel
    by_cases hlt : j < n
    · obtain ⟨x, hx⟩ : ∃ x, xs[j]? = some x := ⟨_, List.getElem?_eq_getElem (by rw [hnn.out]; exact hlt)⟩
      obtain ⟨b, off, rfl, -, hb, k0⟩ := h.str hx
      have hj0 : (0 : Int) ≤ (j : Int) := by omega
      have hj1 : (j : Int) < (n : Int) := by omega
      cases hq : (x.toList == z.toList) with
      | true =>
        have hit := hide (idxS_hit hx ho.out hq)
        clear hx h ho
        go_wp2
        go_ret
        exact ⟨ret_bool (by rw [hit.out]; simp), rfl⟩
      | false =>
        have miss := hide (take_miss hx ho.out hq)
        clear hx h ho
        go_wp2
        go_round
        case rel => exact ⟨j + 1, by omega, by go_num, miss⟩
        case measure => simp [intOf]; omega
    · obtain rfl : j = n := by omega
      have hall : Hid (idxS z xs = -1) := hide (idxS_none fun y hy => ho.out y (by rw [← hnn.out, List.take_length]; exact hy))
      go_wp2
      go_ret
      exact ⟨by rw [hall.out]; rfl, rfl⟩
end Go.Proofs.YtpojkgfckepoeaaGreatDoor

namespace Go.Proofs.YtpojkgfckepoeaaGreatDoor
open Go.RowKit
set_option maxRecDepth 100000

/-- A world that keeps all that w has. -/
structure Later (w : World) where
  val : World
  keeps : Below w.heap.size w val
theorem later_any (w : World) : Nonempty (Later w) := ⟨⟨w, Below.refl _ _⟩⟩
theorem wp_region_later {P : Program} {id : Nat} {Q : Exit → Act → World → Prop} {a : Act} {w : World} {l : List Oper} (hm : P.follows .mixedOrders = true) (hB : Region.lexB .any l.toArray = true)
    (h : wpQuiet P l.toArray (fun w' => ∃ n : Later w, w' = n.val) (fun a' => ∀ w', (∃ n : Later w, w' = n.val) → Q .normal a' w') l a) : (Code.region id l.toArray true).wp P Q a w :=
  wp_region_quiet (C := fun w' => ∃ n : Later w, w' = n.val) hm hB ⟨⟨w.drew, ext_drew (Below.refl _ _)⟩, rfl⟩ (by simpa using h)
theorem calls_later {P : Program} {f : FuncId} {args : Array Value} {w : World} {n : Later w} {v : Value} (h : Calls P f args n.val fun e w' => e = .returned v ∧ Below n.val.heap.size n.val w') :
    Calls P f args n.val fun e w'' => e = .returned v ∧ ∃ m : Later w, w'' = m.val := h.mono fun _ w' ⟨he, hb⟩ => ⟨he, ⟨w', ext_trans n.2 hb⟩, rfl⟩
theorem calls_same {P : Program} {f : FuncId} {args : Array Value} {w : World} {n : Later w} {v : Value} (h : Calls P f args n.val fun e w' => e = .returned v ∧ n.val = w') :
    Calls P f args n.val fun e w'' => e = .returned v ∧ ∃ m : Later w, w'' = m.val := h.mono fun _ _ ⟨he, hb⟩ => ⟨he, n, hb.symm⟩
end Go.Proofs.YtpojkgfckepoeaaGreatDoor
