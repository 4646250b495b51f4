/- Walks of timetablemade.has and Dice.Codes: what is made, told by bounds. Conditions: the dice's cells. Walk of Dice.some: some of a list of strings. Conditions: the dice's cells; the strings'. -/
import Derived.Test.YthejgholpkeldaaGreatDoorShelfS
import Derived.Test.YthejgholpkeldaaGreatDoorRows
import Derived.WalkKit
import Derived.WalkSpells
import Derived.WalkLawsBesides
import Derived.BigGuardPart
import Derived.Lib.Hide
import Derived.Laws.BitsAllLaws
import Derived.Laws.BitsLemmas
import Derived.Lib.LaidTab
import Derived.Test.YthejgholpkeldaaGreatDoorShelf
import Derived.Lib.ConvBytes
import Derived.Deep.QuietTactic
import Derived.BigQuiet
import Derived.Laws.ResultCell
import Derived.RegionTactic
import Derived.BigRegion
import Derived.Deep.RegionHeld3
import Derived.Deep.DeepCutAuto
import Derived.Lib.SmallJoins
import Derived.Lib.SplitLaws
import Derived.Lib.CountLaws
import Derived.Lib.IndexMore
import Derived.Lib.Split
import Derived.Lib.Join
import Derived.Lib.ItoaNum
import Derived.Laws.AppendOwn
import Derived.Test.YthejgholpkeldaaGreatDoorShelfT
import Derived.Lib.ItoaLen
import Derived.Lib.AppendIntMem
import Derived.Deep.AppendLies
import Derived.Lib.PathFns
import Derived.Maps.Range
import Derived.Lib.OwnBridge
import Derived.Sort.OwnSorted
import Derived.Deep.RegionLaw
import Derived.Deep.RegionLawGrows
import Derived.Test.YthejgholpkeldaaGreatDoorZCmpC
import Derived.Test.YthejgholpkeldaaGreatDoorZIdxS
import Derived.Test.YthejgholpkeldaaGreatDoorZWide
import Derived.Test.YthejgholpkeldaaGreatDoorZSpoilB
namespace Go.Proofs.YthejgholpkeldaaGreatDoor
open Go.RowKit
set_option maxRecDepth 100000

set_option maxHeartbeats 2000000 in
theorem mhas_walk (A : Option Addr) (xs : List ByteArray) (c : Nat) (z : ByteArray) (w : World) (hn : xs.length ≤ 9223372036854775807) (h : At kStr AnyB w A xs) :
    Calls Tryz.prog 50 #[.slice A xs.length c, .string z] w fun e w' => e = .returned (.bool (decide (0 ≤ idxS z xs))) ∧ w = w' := by
  obtain ⟨n, hnn⟩ : ∃ n, xs.length = n := ⟨_, rfl⟩
  rw [hnn] at hn ⊢
  replace hnn := hide hnn
  go_enter Tryz.func50, Tryz.ntmps50
  go_wp2
  go_loop [5] (fun i => ∃ j : Nat, j ≤ n ∧ i = .int .i64 j ∧ Hid (∀ y ∈ xs.take j, (y.toList == z.toList) = false)) (fun i => n - (intOf i).toNat)
  case atStart => exact ⟨0, Nat.zero_le _, rfl, hide (fun y hy => by simp at hy)⟩
  case round =>
    obtain ⟨j, hj, rfl, ho⟩ := hrel
    by_cases hlt : j < n
    · obtain ⟨x, hx⟩ : ∃ x, xs[j]? = some x := ⟨_, List.getElem?_eq_getElem (by rw [hnn.out]; exact hlt)⟩
      obtain ⟨b, off, rfl, -, hb, k0⟩ := h.str hx
      have hj0 : (0 : Int) ≤ (j : Int) := by omega
      have hj1 : (j : Int) < (n : Int) := by omega
      cases hq : (x.toList == z.toList) with
      | true =>
        have hit := hide (idxS_hit hx ho.out hq)
        clear hx h ho
        go_wp2
        go_ret
        exact ⟨ret_bool (by rw [hit.out]; simp), rfl⟩
      | false =>
        have miss := hide (take_miss hx ho.out hq)
        clear hx h ho
        go_wp2
        go_round
        case rel => exact ⟨j + 1, by omega, by go_num, miss⟩
        case measure => simp [intOf]; omega
    · obtain rfl : j = n := by omega
      have hall : Hid (idxS z xs = -1) := hide (idxS_none fun y hy => ho.out y (by rw [← hnn.out, List.take_length]; exact hy))
      go_wp2
      go_ret
      exact ⟨by rw [hall.out]; rfl, rfl⟩
/-- A text stands in a list, told in two ways. -/
theorem idx_mem {z : ByteArray} {xs : List ByteArray} : 0 ≤ idxS z xs ↔ z ∈ xs := by
  constructor
  · intro h
    apply Classical.byContradiction
    intro hz
    rw [idxS_none (fun y hy => by rw [toList_dataL, toList_dataL]; exact beq_false_of_ne fun e => hz (dat_inj e ▸ hy))] at h
    exact absurd h (by decide)
  · intro hz
    apply Classical.byContradiction
    intro h
    have hall : ∀ n, n ≤ xs.length → ∀ y ∈ xs.take n, (y.toList == z.toList) = false := by
      intro n
      induction n with
      | zero => intro _ y hy; simp at hy
      | succ n ih =>
        intro hn y hy
        have hx : xs[n]? = some xs[n] := List.getElem?_eq_getElem (by omega)
        cases hq : (xs[n].toList == z.toList) with
        | false => exact take_miss hx (ih (by omega)) hq y hy
        | true => rw [idxS_hit hx (ih (by omega)) hq] at h; exact absurd (by omega) h
    have := hall xs.length (Nat.le_refl _) z (by rw [List.take_length]; exact hz)
    simp at this
theorem Thrown.appended {B : Nat} {a b c : World} {g : Nat} {v : Value} (h : Thrown B a g b) (hg : b.grownBy c v.ownBlock) (hv : ∀ y, v.ownBlock = some y → a.heap.size ≤ y) : Thrown B a g c :=
  h.far (Below.grown (Below.refl a.heap.size b) hg h.size hv)
theorem Own.tossed {α : Type} {K : Kind α} {t : TypeId} {B C g : Nat} {a b : World} {v : Value} {l : List α} (h : Own K t [] 0 C a v l) (T : Thrown B a g b) (hg : g < C) : Own K t [] 0 C b v l :=
  h.kept T.only (by
    cases hv : v.ownBlock with
    | none => exact .inl rfl
    | some y => exact .inr fun e => by injection e with e; have := (h.lt y hv).1; omega) (fun y _ => ⟨Nat.zero_le _, fun h => by obtain ⟨-, cs, t', -, ht⟩ := h; simp at ht⟩)
end Go.Proofs.YthejgholpkeldaaGreatDoor

namespace Go.Proofs.YthejgholpkeldaaGreatDoor
open Go.RowKit
set_option maxRecDepth 100000

def DSome (B : Nat) (l : List ByteArray) (w : World) (g : Nat) (e : Ending) (w' : World) : Prop :=
  ∃ v L, e = .returned v ∧ L.Sublist l ∧ Own kStr 9 [] 0 w.heap.size w' v L ∧ Thrown B w g w'
/-- Data that lie elsewhere stay when the dice are thrown. -/
theorem At.tossed {α : Type} {K : Kind α} {S : Nat → Prop} {B g : Nat} {a b : World} {A : Option Addr} {l : List α} (h : At K S a A l) (hS : ∀ x, S x → x ≠ g) (T : Thrown B a g b) : At K S b A l :=
  h.kept fun x hx hlt => ⟨hx, Nat.lt_of_lt_of_le hlt T.size, T.only.block x hlt (fun e => hS x hx (by injection e))⟩
theorem At.grownK {α : Type} {K : Kind α} {S : Nat → Prop} {a b : World} {A : Option Addr} {l : List α} {row : Option Nat} (h : At K S a A l) (hg : a.grownBy b row) (hS : ∀ x, S x → row ≠ some x) : At K S b A l :=
  h.kept fun x hx hlt => ⟨hx, Nat.lt_of_lt_of_le hlt hg.size, hg.block x hlt (fun e => hS x hx e.symm)⟩
def SmSt (B : Nat) (w : World) (g : Nat) (A : Option Addr) (l : List ByteArray) (n : Nat) (v i : Value) (wr : World) : Prop :=
  ∃ (j : Nat) (L : List ByteArray), j ≤ n ∧ i = .int .i64 j ∧ L.Sublist (l.take j) ∧ Own kStr 9 [] 0 w.heap.size wr v L ∧ Thrown B w g wr ∧ At kStr (fun b => b ≠ g ∧ b < w.heap.size) wr A l
set_option maxHeartbeats 4000000 in
theorem some_walk (B g : Nat) (A : Option Addr) (l : List ByteArray) (c m : Nat) (hm1 : 1 ≤ m) (hm : m ≤ 1000) (w : World) (h : DiceOk B w g) (hl : l.length ≤ 1000000) (hA : At kStr (fun b => b ≠ g) w A l) :
    Calls Tryz.prog 26 #[.pointer (some ⟨g, 0, none⟩), .slice A l.length c, .int .i64 m] w fun e w' => DSome B l w g e w' := by
  have hA0 : At kStr (fun b => b ≠ g ∧ b < w.heap.size) w A l := hA.kept fun b h1 h2 => ⟨⟨h1, h2⟩, h2, rfl⟩
  obtain ⟨n, hnn⟩ : ∃ n, l.length = n := ⟨_, rfl⟩
  rw [hnn] at hl ⊢
  replace hnn := hide hnn
  clear hA
  go_enter Tryz.func26, Tryz.ntmps26
  go_wp2
  go_loopw [7, 8] (fun v i wr => SmSt B w g A l n v i wr) (fun _ i _ => n - (intOf i).toNat)
  case atStart => exact ⟨0, [], Nat.zero_le _, rfl, by simp, Own.nil, Thrown.refl h, hA0⟩
  case round =>
    obtain ⟨j, L, hj, rfl, hsub, hown, T, hat⟩ := hrel
    have hgz : g < w.heap.size := T.lt
    have hLn : L.length ≤ n := by have := hsub.length_le; rw [List.length_take] at this; omega
    by_cases hlt : j < n
    · obtain ⟨x, hx⟩ : ∃ x, l[j]? = some x := ⟨_, List.getElem?_eq_getElem (by rw [hnn.out]; exact hlt)⟩
      have hj0 : (0 : Int) ≤ (j : Int) := by omega
      have hj1 : (j : Int) < (n : Int) := by omega
      have ht : l.take (j + 1) = l.take j ++ [x] := by rw [List.take_add_one, hx]; rfl
      have hs0 : L.Sublist (l.take (j + 1)) := by rw [ht]; exact hsub.trans (List.sublist_append_left _ _)
      have hs1 : (L ++ [x]).Sublist (l.take (j + 1)) := by rw [ht]; exact hsub.append (List.Sublist.refl _)
      replace hs0 := hide hs0
      replace hs1 := hide hs1
      clear ht hsub
      go_wp2_with fail
      refine (one_walk B g m (by omega) (by omega) wr T.dice).mono ?_
      rintro e w2 ⟨q, rfl, T2⟩
      have hown2 := hown.tossed T2 hgz
      have hat2 := hat.tossed (fun b hb => hb.1) T2
      have TT := T.trans T2
      obtain ⟨A6, c6, rfl⟩ := hown2.form
      clear hown hat T T2
      cases q with
      | false =>
        go_wp2
        go_roundw
        case rel => exact ⟨j + 1, L, by omega, by go_num, hs0.out, hown2, TT, hat2⟩
        case measure => simp [intOf]; omega
      | true =>
        obtain ⟨b, off, rfl, hbS, hbl, k0⟩ := hat2.str hx
        have hzz := TT.size
        clear hx
        go_wp2_with (at_builtin; refine wpList_own rfl _ _ rfl apd_strs (by decide) rfl (hown2.alloc _) ?d1 (by decide) ⟨w2.heap.size, 0, none⟩ 1 rfl x [.string x] rfl (World.news_of_block (cs := #[.string x]) (t := 9) (fr := (0, 0)) (heap_alloc_new _ _)) (by decide) (Nat.zero_le _) ?d2 ?_)
        case d1 => omega
        case d2 => rw [World.size_alloc]; omega
        intro v4 w4 hown4 hgrow
        have T4 : Thrown B w g w4 := (TT.alloc _).appended hgrow (fun y hy => (hown2.lt y hy).1)
        have hat4 : At kStr (fun b => b ≠ g ∧ b < w.heap.size) w4 (some ⟨b, off, none⟩) l := (hat2.later (ext_alloc (Below.refl _ _) _)).grownK hgrow (fun y hy e => by have := (hown2.lt y e).1; omega)
        clear hown2 hgrow TT hat2 k0
        go_wp2
        go_roundw
        case rel => exact ⟨j + 1, L ++ [x], by omega, by go_num, hs1.out, hown4, T4, hat4⟩
        case measure => simp [intOf]; omega
    · obtain rfl : j = n := by omega
      have hfin : Hid (L.Sublist l) := hide (hsub.trans (List.take_sublist _ _))
      clear hat hsub
      go_wp2
      go_ret
      exact ⟨u7, L, rfl, hfin.out, hown, T⟩
end Go.Proofs.YthejgholpkeldaaGreatDoor
