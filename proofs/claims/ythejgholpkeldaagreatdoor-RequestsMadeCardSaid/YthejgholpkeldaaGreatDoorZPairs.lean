/- Walks of coursefile.Parallel and timetableref10.Parallel; what a class holds. No condition. Plain: the pairs of a list of numbers; two ways to find them; walk of timetableref02.Has. Condition: the cells. A region that draws its order and holds calls that make memory, walked once, in the order of the text: the class of worlds is 'whatever keeps what there was'. No condition. Walk of curriculum.Pairs. Conditions: the cells; at most 1000 classes. -/
import Derived.Test.YthejgholpkeldaaGreatDoorShelfS
import Derived.Test.YthejgholpkeldaaGreatDoorRows
import Derived.WalkKit
import Derived.WalkSpells
import Derived.WalkLawsBesides
import Derived.BigGuardPart
import Derived.Lib.Hide
import Derived.Laws.BitsAllLaws
import Derived.Laws.BitsLemmas
import Derived.Lib.LaidTab
import Derived.Test.YthejgholpkeldaaGreatDoorShelf
import Derived.Lib.ConvBytes
import Derived.Deep.QuietTactic
import Derived.BigQuiet
import Derived.Laws.ResultCell
import Derived.RegionTactic
import Derived.BigRegion
import Derived.Deep.RegionHeld3
import Derived.Deep.DeepCutAuto
import Derived.Lib.SmallJoins
import Derived.Lib.SplitLaws
import Derived.Lib.CountLaws
import Derived.Lib.IndexMore
import Derived.Lib.Split
import Derived.Lib.Join
import Derived.Lib.ItoaNum
import Derived.Laws.AppendOwn
import Derived.Test.YthejgholpkeldaaGreatDoorShelfT
import Derived.Lib.ItoaLen
import Derived.Lib.AppendIntMem
import Derived.Deep.AppendLies
import Derived.Lib.PathFns
import Derived.Maps.Range
import Derived.Lib.OwnBridge
import Derived.Sort.OwnSorted
import Derived.Test.YthejgholpkeldaaGreatDoorZSameL
import Derived.Test.YthejgholpkeldaaGreatDoorZIdxS
namespace Go.Proofs.YthejgholpkeldaaGreatDoor
open Go.RowKit
set_option maxRecDepth 100000

/-- A class: code, course, part, length, patterns, seats, features, staff, starts. -/
abbrev Cls := ByteArray × ByteArray × ByteArray × Int × List Int × Int × List ByteArray × List ByteArray × List (Int × Int)
def kStart : Kind (Int × Int) := kPair kInt kInt
def kCls : Kind Cls := kPair kStr (kPair kStr (kPair kStr (kPair kInt (kPair (kSlice kInt) (kPair kInt (kPair (kSlice kStr) (kPair (kSlice kStr) (kSlice kStart))))))))
/-- The nine values of a class. -/
structure Nine where
  z : ByteArray
  co : ByteArray
  pa : ByteArray
  n : Int
  A4 : Option Addr
  n4 : Nat
  c4 : Nat
  m : Int
  A6 : Option Addr
  n6 : Nat
  c6 : Nat
  A7 : Option Addr
  n7 : Nat
  c7 : Nat
  A8 : Option Addr
  n8 : Nat
  c8 : Nat
/-- A class's cells from a place on. -/
def NineAt (w : World) (b o : Nat) (q : Nine) : Prop :=
  w.cell? ⟨b, o, none⟩ = some (.string q.z) ∧ w.cell? ⟨b, o + 1, none⟩ = some (.string q.co) ∧ w.cell? ⟨b, o + 2, none⟩ = some (.string q.pa) ∧ w.cell? ⟨b, o + 3, none⟩ = some (.int .i64 q.n) ∧ w.cell? ⟨b, o + 4, none⟩ = some (.slice q.A4 q.n4 q.c4) ∧ w.cell? ⟨b, o + 5, none⟩ = some (.int .i64 q.m) ∧ w.cell? ⟨b, o + 6, none⟩ = some (.slice q.A6 q.n6 q.c6) ∧ w.cell? ⟨b, o + 7, none⟩ = some (.slice q.A7 q.n7 q.c7) ∧ w.cell? ⟨b, o + 8, none⟩ = some (.slice q.A8 q.n8 q.c8)
theorem At.cls {S : Nat → Prop} {w : World} {A : Option Addr} {l : List Cls} {j : Nat} {x : Cls} (h : At kCls S w A l) (hj : l[j]? = some x) :
    ∃ b off q, A = some ⟨b, off, none⟩ ∧ S b ∧ b < w.heap.size ∧ NineAt w b (off + j * 9) q ∧ q.co = x.2.1 ∧ q.pa = x.2.2.1 := by
  obtain ⟨b, off, vs, e, hs, hlt, hr, hc⟩ := h.get hj
  obtain ⟨u0, r0, e0, h0, hr⟩ := hr
  obtain ⟨u1, r1, e1, h1, hr⟩ := hr
  obtain ⟨u2, r2, e2, h2, hr⟩ := hr
  obtain ⟨u3, r3, e3, h3, hr⟩ := hr
  obtain ⟨u4, r4, e4, h4, hr⟩ := hr
  obtain ⟨u5, r5, e5, h5, hr⟩ := hr
  obtain ⟨u6, r6, e6, h6, hr⟩ := hr
  obtain ⟨u7, u8, e7, h7, h8⟩ := hr
  obtain ⟨A4, c4, rfl, -, -⟩ := h4
  obtain ⟨A6, c6, rfl, -, -⟩ := h6
  obtain ⟨A7, c7, rfl, -, -⟩ := h7
  obtain ⟨A8, c8, rfl, -, -⟩ := h8
  have h0 : u0 = [.string x.1] := h0
  have h1 : u1 = [.string x.2.1] := h1
  have h2 : u2 = [.string x.2.2.1] := h2
  have h3 : u3 = [.int .i64 x.2.2.2.1] := h3
  have h5 : u5 = [.int .i64 x.2.2.2.2.2.1] := h5
  subst h0 h1 h2 h3 h5 e7 e6 e5 e4 e3 e2 e1 e0
  have hk : ∀ i u, ([Value.string x.1, .string x.2.1, .string x.2.2.1, .int .i64 x.2.2.2.1, .slice A4 x.2.2.2.2.1.length c4, .int .i64 x.2.2.2.2.2.1, .slice A6 x.2.2.2.2.2.2.1.length c6, .slice A7 x.2.2.2.2.2.2.2.1.length c7, .slice A8 x.2.2.2.2.2.2.2.2.length c8] : List Value)[i]? = some u → w.cell? ⟨b, off + j * 9 + i, none⟩ = some u := hc
  exact ⟨b, off, ⟨x.1, x.2.1, x.2.2.1, x.2.2.2.1, A4, x.2.2.2.2.1.length, c4, x.2.2.2.2.2.1, A6, x.2.2.2.2.2.2.1.length, c6, A7, x.2.2.2.2.2.2.2.1.length, c7, A8, x.2.2.2.2.2.2.2.2.length, c8⟩, e, hs, hlt,
    ⟨hk 0 _ rfl, hk 1 _ rfl, hk 2 _ rfl, hk 3 _ rfl, hk 4 _ rfl, hk 5 _ rfl, hk 6 _ rfl, hk 7 _ rfl, hk 8 _ rfl⟩, rfl, rfl⟩
end Go.Proofs.YthejgholpkeldaaGreatDoor

namespace Go.Proofs.YthejgholpkeldaaGreatDoor
open Go.RowKit
set_option maxRecDepth 100000

set_option maxHeartbeats 2000000 in
theorem r2has_walk (A : Option Addr) (xs : List ByteArray) (c : Nat) (z : ByteArray) (w : World) (hn : xs.length ≤ 9223372036854775807) (h : At kStr AnyB w A xs) :
    Calls Tryz.prog 53 #[.slice A xs.length c, .string z] w fun e w' => e = .returned (.bool (decide (0 ≤ idxS z xs))) ∧ w = w' := by
  obtain ⟨n, hnn⟩ : ∃ n, xs.length = n := ⟨_, rfl⟩
  rw [hnn] at hn ⊢
  replace hnn := hide hnn
  go_enter Tryz.func53, Tryz.ntmps53
  go_wp2
  go_loop [5] (fun i => ∃ j : Nat, j ≤ n ∧ i = .int .i64 j ∧ Hid (∀ y ∈ xs.take j, (y.toList == z.toList) = false)) (fun i => n - (intOf i).toNat)
  case atStart => exact ⟨0, Nat.zero_le _, rfl, hide (fun y hy => by simp at hy)⟩
  case round =>
    obtain ⟨j, hj, rfl, ho⟩ := hrel
    by_cases hlt : j < n
    · obtain ⟨x, hx⟩ : ∃ x, xs[j]? = some x := ⟨_, List.getElem?_eq_getElem (by rw [hnn.out]; exact hlt)⟩
      obtain ⟨b, off, rfl, -, hb, k0⟩ := h.str hx
      have hj0 : (0 : Int) ≤ (j : Int) := by omega
      have hj1 : (j : Int) < (n : Int) := by omega
      cases hq : (x.toList == z.toList) with
      | true =>
        have hit := hide (idxS_hit hx ho.out hq)
        clear hx h ho
        go_wp2
        go_ret
        exact ⟨ret_bool (by rw [hit.out]; simp), rfl⟩
      | false =>
        have miss := hide (take_miss hx ho.out hq)
        clear hx h ho
        go_wp2
        go_round
        case rel => exact ⟨j + 1, by omega, by go_num, miss⟩
        case measure => simp [intOf]; omega
    · obtain rfl : j = n := by omega
      have hall : Hid (idxS z xs = -1) := hide (idxS_none fun y hy => ho.out y (by rw [← hnn.out, List.take_length]; exact hy))
      go_wp2
      go_ret
      exact ⟨by rw [hall.out]; rfl, rfl⟩
end Go.Proofs.YthejgholpkeldaaGreatDoor

namespace Go.Proofs.YthejgholpkeldaaGreatDoor
open Go.RowKit
set_option maxRecDepth 100000

/-- A world that keeps all that w has. -/
structure Later (w : World) where
  val : World
  keeps : Below w.heap.size w val
theorem later_any (w : World) : Nonempty (Later w) := ⟨⟨w, Below.refl _ _⟩⟩
theorem wp_region_later {P : Program} {id : Nat} {Q : Exit → Act → World → Prop} {a : Act} {w : World} {l : List Oper} (hm : P.follows .mixedOrders = true) (hB : Region.lexB .any l.toArray = true)
    (h : wpQuiet P l.toArray (fun w' => ∃ n : Later w, w' = n.val) (fun a' => ∀ w', (∃ n : Later w, w' = n.val) → Q .normal a' w') l a) : (Code.region id l.toArray true).wp P Q a w :=
  wp_region_quiet (C := fun w' => ∃ n : Later w, w' = n.val) hm hB ⟨⟨w.drew, ext_drew (Below.refl _ _)⟩, rfl⟩ (by simpa using h)
theorem calls_later {P : Program} {f : FuncId} {args : Array Value} {w : World} {n : Later w} {v : Value} (h : Calls P f args n.val fun e w' => e = .returned v ∧ Below n.val.heap.size n.val w') :
    Calls P f args n.val fun e w'' => e = .returned v ∧ ∃ m : Later w, w'' = m.val := h.mono fun _ w' ⟨he, hb⟩ => ⟨he, ⟨w', ext_trans n.2 hb⟩, rfl⟩
theorem calls_same {P : Program} {f : FuncId} {args : Array Value} {w : World} {n : Later w} {v : Value} (h : Calls P f args n.val fun e w' => e = .returned v ∧ n.val = w') :
    Calls P f args n.val fun e w'' => e = .returned v ∧ ∃ m : Later w, w'' = m.val := h.mono fun _ _ ⟨he, hb⟩ => ⟨he, n, hb.symm⟩
end Go.Proofs.YthejgholpkeldaaGreatDoor

namespace Go.Proofs.YthejgholpkeldaaGreatDoor
open Go.RowKit
set_option maxRecDepth 100000

theorem apd_nums : Apd Tryz.prog 22 3 1 8 := apd Tryz.underlying22 (z := .int .i64 0) (by kernel_rfl) rfl
end Go.Proofs.YthejgholpkeldaaGreatDoor
