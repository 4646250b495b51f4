/- Walks of coursefile.Parallel and timetableref10.Parallel; what a class holds. No condition. A region that draws its order and holds calls that make memory, walked once, in the order of the text: the class of worlds is 'whatever keeps what there was'. No condition. -/
import Derived.Test.YtimcdikeajbabaaGreatDoorShelfS
import Derived.Test.YtimcdikeajbabaaGreatDoorRows
import Derived.WalkKit
import Derived.WalkSpells
import Derived.WalkLawsBesides
import Derived.BigGuardPart
import Derived.Lib.Hide
import Derived.Laws.BitsAllLaws
import Derived.Laws.BitsLemmas
import Derived.Lib.LaidTab
import Derived.Test.YtimcdikeajbabaaGreatDoorShelf
import Derived.Lib.ConvBytes
import Derived.Deep.QuietTactic
import Derived.BigQuiet
import Derived.Laws.ResultCell
import Derived.RegionTactic
import Derived.BigRegion
import Derived.Deep.RegionHeld3
import Derived.Deep.DeepCutAuto
import Derived.Lib.SmallJoins
import Derived.Lib.SplitLaws
import Derived.Lib.CountLaws
import Derived.Lib.IndexMore
import Derived.Lib.Split
import Derived.Lib.Join
import Derived.Lib.ItoaNum
import Derived.Laws.AppendOwn
import Derived.Test.YtimcdikeajbabaaGreatDoorShelfT
import Derived.Lib.ItoaLen
import Derived.Lib.AppendIntMem
import Derived.Deep.AppendLies
import Derived.Lib.PathFns
import Derived.Maps.Range
import Derived.Lib.OwnBridge
import Derived.Sort.OwnSorted
import Derived.Test.YtimcdikeajbabaaGreatDoorUListC
import Derived.Test.YtimcdikeajbabaaGreatDoorUWide
import Derived.Test.YtimcdikeajbabaaGreatDoorUSameL
namespace Go.Proofs.YtimcdikeajbabaaGreatDoor
open Go.RowKit
set_option maxRecDepth 100000

/-- A class: code, course, part, length, patterns, seats, features, staff, starts. -/
abbrev Cls := ByteArray × ByteArray × ByteArray × Int × List Int × Int × List ByteArray × List ByteArray × List (Int × Int)
def kStart : Kind (Int × Int) := kPair kInt kInt
def kCls : Kind Cls := kPair kStr (kPair kStr (kPair kStr (kPair kInt (kPair (kSlice kInt) (kPair kInt (kPair (kSlice kStr) (kPair (kSlice kStr) (kSlice kStart))))))))
/-- The nine values of a class. -/
structure Nine where
  z : ByteArray
  co : ByteArray
  pa : ByteArray
  n : Int
  A4 : Option Addr
  n4 : Nat
  c4 : Nat
  m : Int
  A6 : Option Addr
  n6 : Nat
  c6 : Nat
  A7 : Option Addr
  n7 : Nat
  c7 : Nat
  A8 : Option Addr
  n8 : Nat
  c8 : Nat
/-- A class's cells from a place on. -/
def NineAt (w : World) (b o : Nat) (q : Nine) : Prop :=
  w.cell? ⟨b, o, none⟩ = some (.string q.z) ∧ w.cell? ⟨b, o + 1, none⟩ = some (.string q.co) ∧ w.cell? ⟨b, o + 2, none⟩ = some (.string q.pa) ∧ w.cell? ⟨b, o + 3, none⟩ = some (.int .i64 q.n) ∧ w.cell? ⟨b, o + 4, none⟩ = some (.slice q.A4 q.n4 q.c4) ∧ w.cell? ⟨b, o + 5, none⟩ = some (.int .i64 q.m) ∧ w.cell? ⟨b, o + 6, none⟩ = some (.slice q.A6 q.n6 q.c6) ∧ w.cell? ⟨b, o + 7, none⟩ = some (.slice q.A7 q.n7 q.c7) ∧ w.cell? ⟨b, o + 8, none⟩ = some (.slice q.A8 q.n8 q.c8)
theorem toList_noP {X Y : ByteArray} (h : ¬ X = Y) : (X.toList == Y.toList) = false := toList_no fun e => h (dat_inj e)
def Nine.val (q : Nine) : Value := .agg #[.string q.z, .string q.co, .string q.pa, .int .i64 q.n, .slice q.A4 q.n4 q.c4, .int .i64 q.m, .slice q.A6 q.n6 q.c6, .slice q.A7 q.n7 q.c7, .slice q.A8 q.n8 q.c8]
-- <par>
set_option maxHeartbeats 4000000 in
theorem cpar_walk (q r : Nine) (w : World) :
    Calls Tryz.prog 27 #[q.val, r.val] w fun e w' => e = .returned (.bool (decide (q.co = r.co ∧ q.pa = r.pa))) ∧ Below w.heap.size w w' := by
  obtain ⟨z, co, pa, n, A4, n4, c4, m, A6, n6, c6, A7, n7, c7, A8, n8, c8⟩ := q
  obtain ⟨z', co', pa', n', A4', n4', c4', m', A6', n6', c6', A7', n7', c7', A8', n8', c8'⟩ := r
  unfold Nine.val
  dsimp only
  by_cases h1 : co = co'
  · subst h1
    by_cases h2 : pa = pa'
    · subst h2
      rw [decide_eq_true ⟨rfl, rfl⟩]
      go_enter Tryz.func27, Tryz.ntmps27
      go_wp2
      go_ret
      exact ⟨rfl, (by repeat (first | exact Below.refl _ _ | refine ext_alloc ?_ _ | refine ext_drewN ?_ _ | refine ext_drew ?_ | refine ext_trans ?_ (by assumption)))⟩
    · rw [decide_eq_false fun h => h2 h.2]
      have hne := toList_noP h2
      clear h2
      go_enter Tryz.func27, Tryz.ntmps27
      go_wp2
      go_ret
      exact ⟨rfl, (by repeat (first | exact Below.refl _ _ | refine ext_alloc ?_ _ | refine ext_drewN ?_ _ | refine ext_drew ?_ | refine ext_trans ?_ (by assumption)))⟩
  · rw [decide_eq_false fun h => h1 h.1]
    have hne := toList_noP h1
    clear h1
    go_enter Tryz.func27, Tryz.ntmps27
    go_wp2
    go_ret
    exact ⟨rfl, (by repeat (first | exact Below.refl _ _ | refine ext_alloc ?_ _ | refine ext_drewN ?_ _ | refine ext_drew ?_ | refine ext_trans ?_ (by assumption)))⟩
-- </par>
set_option maxHeartbeats 4000000 in
theorem r10par_walk (q r : Nine) (w : World) :
    Calls Tryz.prog 28 #[q.val, r.val] w fun e w' => e = .returned (.bool (decide (q.co = r.co ∧ q.pa = r.pa))) ∧ Below w.heap.size w w' := by
  obtain ⟨z, co, pa, n, A4, n4, c4, m, A6, n6, c6, A7, n7, c7, A8, n8, c8⟩ := q
  obtain ⟨z', co', pa', n', A4', n4', c4', m', A6', n6', c6', A7', n7', c7', A8', n8', c8'⟩ := r
  unfold Nine.val
  dsimp only
  by_cases h1 : co = co'
  · subst h1
    by_cases h2 : pa = pa'
    · subst h2
      rw [decide_eq_true ⟨rfl, rfl⟩]
      go_enter Tryz.func28, Tryz.ntmps28
      go_wp2
      go_ret
      exact ⟨rfl, (by repeat (first | exact Below.refl _ _ | refine ext_alloc ?_ _ | refine ext_drewN ?_ _ | refine ext_drew ?_ | refine ext_trans ?_ (by assumption)))⟩
    · rw [decide_eq_false fun h => h2 h.2]
      have hne := toList_noP h2
      clear h2
      go_enter Tryz.func28, Tryz.ntmps28
      go_wp2
      go_ret
      exact ⟨rfl, (by repeat (first | exact Below.refl _ _ | refine ext_alloc ?_ _ | refine ext_drewN ?_ _ | refine ext_drew ?_ | refine ext_trans ?_ (by assumption)))⟩
  · rw [decide_eq_false fun h => h1 h.1]
    have hne := toList_noP h1
    clear h1
    go_enter Tryz.func28, Tryz.ntmps28
    go_wp2
    go_ret
    exact ⟨rfl, (by repeat (first | exact Below.refl _ _ | refine ext_alloc ?_ _ | refine ext_drewN ?_ _ | refine ext_drew ?_ | refine ext_trans ?_ (by assumption)))⟩

end Go.Proofs.YtimcdikeajbabaaGreatDoor

namespace Go.Proofs.YtimcdikeajbabaaGreatDoor
open Go.RowKit
set_option maxRecDepth 100000

/-- A world that keeps all that w has. -/
structure Later (w : World) where
  val : World
  keeps : Below w.heap.size w val
theorem later_any (w : World) : Nonempty (Later w) := ⟨⟨w, Below.refl _ _⟩⟩
theorem wp_region_later {P : Program} {id : Nat} {Q : Exit → Act → World → Prop} {a : Act} {w : World} {l : List Oper} (hm : P.follows .mixedOrders = true) (hB : Region.lexB .any l.toArray = true)
    (h : wpQuiet P l.toArray (fun w' => ∃ n : Later w, w' = n.val) (fun a' => ∀ w', (∃ n : Later w, w' = n.val) → Q .normal a' w') l a) : (Code.region id l.toArray true).wp P Q a w :=
  wp_region_quiet (C := fun w' => ∃ n : Later w, w' = n.val) hm hB ⟨⟨w.drew, ext_drew (Below.refl _ _)⟩, rfl⟩ (by simpa using h)
theorem calls_later {P : Program} {f : FuncId} {args : Array Value} {w : World} {n : Later w} {v : Value} (h : Calls P f args n.val fun e w' => e = .returned v ∧ Below n.val.heap.size n.val w') :
    Calls P f args n.val fun e w'' => e = .returned v ∧ ∃ m : Later w, w'' = m.val := h.mono fun _ w' ⟨he, hb⟩ => ⟨he, ⟨w', ext_trans n.2 hb⟩, rfl⟩
theorem calls_same {P : Program} {f : FuncId} {args : Array Value} {w : World} {n : Later w} {v : Value} (h : Calls P f args n.val fun e w' => e = .returned v ∧ n.val = w') :
    Calls P f args n.val fun e w'' => e = .returned v ∧ ∃ m : Later w, w'' = m.val := h.mono fun _ _ ⟨he, hb⟩ => ⟨he, n, hb.symm⟩
end Go.Proofs.YtimcdikeajbabaaGreatDoor
