/- Plain: a list of at most eight codes. No condition. A block that holds a class, known as a whole. No condition. Plain: a list says at most 64 codes. No condition. Classes in rows of their own. No condition. -/
import Derived.Test.YtimcdikeajbabaaGreatDoorShelfS
import Derived.Test.YtimcdikeajbabaaGreatDoorRows
import Derived.WalkKit
import Derived.WalkSpells
import Derived.WalkLawsBesides
import Derived.BigGuardPart
import Derived.Lib.Hide
import Derived.Laws.BitsAllLaws
import Derived.Laws.BitsLemmas
import Derived.Lib.LaidTab
import Derived.Test.YtimcdikeajbabaaGreatDoorShelf
import Derived.Lib.ConvBytes
import Derived.Deep.QuietTactic
import Derived.BigQuiet
import Derived.Laws.ResultCell
import Derived.RegionTactic
import Derived.BigRegion
import Derived.Deep.RegionHeld3
import Derived.Deep.DeepCutAuto
import Derived.Lib.SmallJoins
import Derived.Lib.SplitLaws
import Derived.Lib.CountLaws
import Derived.Lib.IndexMore
import Derived.Lib.Split
import Derived.Lib.Join
import Derived.Lib.ItoaNum
import Derived.Laws.AppendOwn
import Derived.Test.YtimcdikeajbabaaGreatDoorShelfT
import Derived.Lib.ItoaLen
import Derived.Lib.AppendIntMem
import Derived.Deep.AppendLies
import Derived.Lib.PathFns
import Derived.Maps.Range
import Derived.Lib.OwnBridge
import Derived.Sort.OwnSorted
import Derived.Test.YtimcdikeajbabaaGreatDoorQFound
import Derived.Test.YtimcdikeajbabaaGreatDoorQLater
import Derived.Test.YtimcdikeajbabaaGreatDoorQListC
namespace Go.Proofs.YtimcdikeajbabaaGreatDoor
open Go.RowKit
set_option maxRecDepth 100000

/-- A list of at most eight codes. -/
def shortV (s : ByteArray) : Nat × List ByteArray := if (listV s).1 = 0 ∧ 8 < (listV s).2.length then (2, []) else listV s
theorem short_codes (line col : Int) (t : ByteArray) : codesP 8 line col t = if (shortV t).1 = 0 then none else some (line, col, ((shortV t).1 : Int)) := by
  unfold codesP shortV
  obtain ⟨⟨en, l⟩, hlv⟩ : ∃ r, listV t = r := ⟨_, rfl⟩
  rw [hlv]
  dsimp only
  by_cases he : en = 0
  · subst he
    by_cases h8 : 8 < l.length
    · simp [h8, noted]
    · simp [h8, noted]
  · simp [he, noted]
theorem short_ok {t : ByteArray} (h : (shortV t).1 = 0) : (shortV t).2 = (listV t).2 := by
  unfold shortV at h ⊢
  split at h
  · cases h
  · rename_i hh
    rw [if_neg hh]
theorem short_len (t : ByteArray) (h : (shortV t).1 = 0) : (shortV t).2.length ≤ 8 := by
  unfold shortV at h ⊢
  split at h
  · cases h
  · rename_i hh
    rw [if_neg hh]
    have : ¬ (8 < (listV t).2.length) := fun h8 => hh ⟨h, h8⟩
    omega
end Go.Proofs.YtimcdikeajbabaaGreatDoor

namespace Go.Proofs.YtimcdikeajbabaaGreatDoor
open Go.RowKit
set_option maxRecDepth 100000

def cboxV (q : Nine) : Array Value := #[.string q.z, .string q.co, .string q.pa, .int .i64 q.n, .slice q.A4 q.n4 q.c4, .int .i64 q.m, .slice q.A6 q.n6 q.c6, .slice q.A7 q.n7 q.c7, .slice q.A8 q.n8 q.c8]
def CBox (W : World) (g : Nat) (q : Nine) : Prop := W.heap[g]? = some (.cells (cboxV q) 47 (0, 0))
section
variable {W W' : World} {g : Nat} {q : Nine}
theorem cbox_new (W : World) (q : Nine) : CBox (W.alloc (.cells (cboxV q) 47)) W.heap.size q := heap_alloc_new _ _
theorem CBox.lt (h : CBox W g q) : g < W.heap.size := blk_lt h
theorem CBox.nine (h : CBox W g q) : NineAt W g 0 q := by
  have hc : ∀ i u, (cboxV q)[i]? = some u → W.cell? ⟨g, 0 + i, none⟩ = some u := fun i u hu => by rw [Nat.zero_add, cell_of_row _ _ _ _ _ _ h]; exact hu
  exact ⟨hc 0 _ rfl, hc 1 _ rfl, hc 2 _ rfl, hc 3 _ rfl, hc 4 _ rfl, hc 5 _ rfl, hc 6 _ rfl, hc 7 _ rfl, hc 8 _ rfl⟩
theorem CBox.c0 (h : CBox W g q) : W.cell? ⟨g, 0, none⟩ = some (.string q.z) := by rw [cell_of_row _ _ _ _ _ _ h]; rfl
theorem CBox.c1 (h : CBox W g q) : W.cell? ⟨g, 1, none⟩ = some (.string q.co) := by rw [cell_of_row _ _ _ _ _ _ h]; rfl
theorem CBox.c2 (h : CBox W g q) : W.cell? ⟨g, 2, none⟩ = some (.string q.pa) := by rw [cell_of_row _ _ _ _ _ _ h]; rfl
theorem CBox.c3 (h : CBox W g q) : W.cell? ⟨g, 3, none⟩ = some (.int .i64 q.n) := by rw [cell_of_row _ _ _ _ _ _ h]; rfl
theorem CBox.c4 (h : CBox W g q) : W.cell? ⟨g, 4, none⟩ = some (.slice q.A4 q.n4 q.c4) := by rw [cell_of_row _ _ _ _ _ _ h]; rfl
theorem CBox.c5 (h : CBox W g q) : W.cell? ⟨g, 5, none⟩ = some (.int .i64 q.m) := by rw [cell_of_row _ _ _ _ _ _ h]; rfl
theorem CBox.c6 (h : CBox W g q) : W.cell? ⟨g, 6, none⟩ = some (.slice q.A6 q.n6 q.c6) := by rw [cell_of_row _ _ _ _ _ _ h]; rfl
theorem CBox.c7 (h : CBox W g q) : W.cell? ⟨g, 7, none⟩ = some (.slice q.A7 q.n7 q.c7) := by rw [cell_of_row _ _ _ _ _ _ h]; rfl
theorem CBox.c8 (h : CBox W g q) : W.cell? ⟨g, 8, none⟩ = some (.slice q.A8 q.n8 q.c8) := by rw [cell_of_row _ _ _ _ _ _ h]; rfl
theorem CBox.free (h : CBox W g q) (j : Nat) : W.frozen? ⟨g, j, none⟩ = false := by unfold CBox at h; simp [World.frozen?, h]
theorem CBox.later (h : CBox W g q) (hb : Below W.heap.size W W') : CBox W' g q := (hb.block _ h.lt).trans h
theorem CBox.alloc (h : CBox W g q) (o : Obj) : CBox (W.alloc o) g q := h.later (ext_alloc (Below.refl _ _) _)
theorem CBox.drew (h : CBox W g q) : CBox W.drew g q := h
theorem CBox.grown {row : Option Nat} (h : CBox W g q) (hg : W.grownBy W' row) (hne : row ≠ some g) : CBox W' g q := (hg.block _ h.lt (fun e => hne e.symm)).trans h
theorem CBox.thrown {B d : Nat} (h : CBox W g q) (T : Thrown B W d W') (hne : g ≠ d) : CBox W' g q := h.grown T.only (fun e => hne (by injection e with e; exact e.symm))
theorem CBox.set_other {b : Nat} (h : CBox W g q) (hne : b ≠ g) (j : Nat) (u : Value) : CBox (W.setCell ⟨b, j, none⟩ u) g q := by
  unfold CBox at h ⊢
  rw [← h]
  exact heap_setCell_other W ⟨b, j, none⟩ g u (fun e => hne e.symm)
theorem CBox.set0 (h : CBox W g q) (u : ByteArray) : CBox (W.setCell ⟨g, 0, none⟩ (.string u)) g { q with z := u } := (heap_setCell_same _ _ _ _ _ _ h).trans rfl
theorem CBox.set1 (h : CBox W g q) (u : ByteArray) : CBox (W.setCell ⟨g, 1, none⟩ (.string u)) g { q with co := u } := (heap_setCell_same _ _ _ _ _ _ h).trans rfl
theorem CBox.set2 (h : CBox W g q) (u : ByteArray) : CBox (W.setCell ⟨g, 2, none⟩ (.string u)) g { q with pa := u } := (heap_setCell_same _ _ _ _ _ _ h).trans rfl
theorem CBox.set3 (h : CBox W g q) (u : Int) : CBox (W.setCell ⟨g, 3, none⟩ (.int .i64 u)) g { q with n := u } := (heap_setCell_same _ _ _ _ _ _ h).trans rfl
theorem CBox.set4 (h : CBox W g q) (A : Option Addr) (n c : Nat) : CBox (W.setCell ⟨g, 4, none⟩ (.slice A n c)) g { q with A4 := A, n4 := n, c4 := c } := (heap_setCell_same _ _ _ _ _ _ h).trans rfl
theorem CBox.set5 (h : CBox W g q) (u : Int) : CBox (W.setCell ⟨g, 5, none⟩ (.int .i64 u)) g { q with m := u } := (heap_setCell_same _ _ _ _ _ _ h).trans rfl
theorem CBox.set6 (h : CBox W g q) (A : Option Addr) (n c : Nat) : CBox (W.setCell ⟨g, 6, none⟩ (.slice A n c)) g { q with A6 := A, n6 := n, c6 := c } := (heap_setCell_same _ _ _ _ _ _ h).trans rfl
theorem CBox.set7 (h : CBox W g q) (A : Option Addr) (n c : Nat) : CBox (W.setCell ⟨g, 7, none⟩ (.slice A n c)) g { q with A7 := A, n7 := n, c7 := c } := (heap_setCell_same _ _ _ _ _ _ h).trans rfl
theorem CBox.set8 (h : CBox W g q) (A : Option Addr) (n c : Nat) : CBox (W.setCell ⟨g, 8, none⟩ (.slice A n c)) g { q with A8 := A, n8 := n, c8 := c } := (heap_setCell_same _ _ _ _ _ _ h).trans rfl
end
end Go.Proofs.YtimcdikeajbabaaGreatDoor

namespace Go.Proofs.YtimcdikeajbabaaGreatDoor
open Go.RowKit
set_option maxRecDepth 100000

theorem listF_len64 : ∀ (ps out : List ByteArray), out.length ≤ 64 → (listF out ps).2.length ≤ 64
  | [], out, h => by
    rw [listF]
    split
    · exact h
    · exact Nat.zero_le _
  | p :: ps, out, h => by
    by_cases h1 : (partV p (64 - out.length)).1 ≠ 0
    · rw [listF_err h1]; exact Nat.zero_le _
    · obtain ⟨more, hm⟩ : ∃ more, partV p (64 - out.length) = (0, more) := ⟨_, Prod.ext (by omega) rfl⟩
      rw [listF_ok hm]
      by_cases h2 : 64 < (out ++ more).length
      · rw [if_pos h2]; exact Nat.zero_le _
      · rw [if_neg h2]; exact listF_len64 ps _ (by omega)
theorem listV_len64 (s : ByteArray) : (listV s).2.length ≤ 64 := by
  unfold listV
  split
  · exact Nat.zero_le _
  · exact listF_len64 _ _ (Nat.zero_le _)
end Go.Proofs.YtimcdikeajbabaaGreatDoor

namespace Go.Proofs.YtimcdikeajbabaaGreatDoor
open Go.RowKit
set_option maxRecDepth 100000

theorem apd_clss : Apd Tryz.prog 29 47 9 160 := apd Tryz.underlying29 (z := .agg #[.string ⟨#[]⟩, .string ⟨#[]⟩, .string ⟨#[]⟩, .int .i64 0, .slice none 0 0, .int .i64 0, .slice none 0 0, .slice none 0 0, .slice none 0 0]) (by kernel_rfl) rfl
abbrev clsTs : List TypeId := [3, 9, 70]
/-- A class whose rows are known. -/
theorem cls_rep {S : Nat → Prop} {W : World} {q : Nine} {ps : List Int} {fs st : List ByteArray} {ss : List (Int × Int)} (h4 : (kSlice kInt).rep S W ps [.slice q.A4 q.n4 q.c4]) (h6 : (kSlice kStr).rep S W fs [.slice q.A6 q.n6 q.c6]) (h7 : (kSlice kStr).rep S W st [.slice q.A7 q.n7 q.c7]) (h8 : (kSlice kStart).rep S W ss [.slice q.A8 q.n8 q.c8]) :
    kCls.rep S W (q.z, q.co, q.pa, q.n, ps, q.m, fs, st, ss) (cboxV q).toList :=
  ⟨[_], _, rfl, rfl, [_], _, rfl, rfl, [_], _, rfl, rfl, [_], _, rfl, rfl, [_], _, rfl, h4, [_], _, rfl, rfl, [_], _, rfl, h6, [_], _, rfl, h7, h8⟩
theorem Own.ne {α : Type} {K : Kind α} {t : TypeId} {ts : List TypeId} {C g n k : Nat} {W : World} {A : Option Addr} {l : List α} (h : Own K t ts 0 C W (.slice A n k) l) (hg : g < C) : At K (fun b => b ≠ g) W A l := by
  obtain ⟨A', c', e, -, h1⟩ := h.at
  injection e with e _ _
  subst e
  refine h1.more fun b hb => ?_
  rcases hb with hb | ⟨hb, -⟩
  · exact absurd hb (Nat.not_lt_zero _)
  · omega
/-- A class's box is written. -/
theorem Own.boxed {α : Type} {K : Kind α} {t : TypeId} {ts : List TypeId} {B x i : Nat} {W : World} {v u : Value} {l : List α} {q : Nine} (h : Own K t ts 0 B W v l) (hc : CBox W x q) (hx : ∀ y, v.ownBlock = some y → y ≠ x) (ht : 47 ∉ ts) : Own K t ts 0 B (W.setCell ⟨x, i, none⟩ u) v l := by
  refine h.kept (only_setCell (g := x) (World.grownBy.refl _ _) (Or.inl rfl) _) ?_ (fun y hy => ⟨Nat.zero_le _, fun ⟨_, cs, t', hcs, hm⟩ => ?_⟩)
  · cases hv : v.ownBlock with
    | none => exact .inl rfl
    | some y => exact .inr fun e => hx y hv (by injection e)
  · injection hy with hy
    subst hy
    unfold CBox at hc
    rw [hc] at hcs
    injection hcs with h1
    injection h1 with _ h2
    exact ht (h2 ▸ hm)
theorem Own.tsMore {α : Type} {K : Kind α} {t : TypeId} {ts : List TypeId} {B0 B : Nat} {W : World} {l : List α} {v : Value} (h : Own K t [] B0 B W v l) (ht : t ∈ ts) : (kSlice K).rep (Ty ts B0 B W) W l [v] :=
  (kSlice K).more h.rep fun b hb => by
    rcases hb with hb | ⟨hb, cs, t', hc, hm⟩
    · exact .inl hb
    · simp at hm; subst hm; exact .inr ⟨hb, cs, t', hc, ht⟩
end Go.Proofs.YtimcdikeajbabaaGreatDoor
