/- Walks of timetableref07.Clear, timetableref09.Free, fields.Fit. Conditions: the cells. Walk of stafffile.Valid. Conditions: the lecturers' cells; what the program's variables hold. -/
import Derived.Test.YtimcdikeajbabaaGreatDoorRows
import Derived.WalkKit
import Derived.WalkSpells
import Derived.WalkLawsBesides
import Derived.BigGuardPart
import Derived.Lib.Hide
import Derived.Laws.BitsAllLaws
import Derived.Laws.BitsLemmas
import Derived.Lib.LaidTab
import Derived.Test.YtimcdikeajbabaaGreatDoorShelf
import Derived.Lib.ConvBytes
import Derived.Deep.QuietTactic
import Derived.BigQuiet
import Derived.Laws.ResultCell
import Derived.RegionTactic
import Derived.BigRegion
import Derived.Deep.RegionHeld3
import Derived.Deep.DeepCutAuto
import Derived.Lib.SmallJoins
import Derived.Lib.SplitLaws
import Derived.Lib.CountLaws
import Derived.Lib.IndexMore
import Derived.Lib.Split
import Derived.Lib.Join
import Derived.Lib.ItoaNum
import Derived.Laws.AppendOwn
import Derived.Deep.AppendLies
import Derived.Test.YtimcdikeajbabaaGreatDoorQStaffB
namespace Go.Proofs.YtimcdikeajbabaaGreatDoor
open Go.RowKit
set_option maxRecDepth 100000

/-- Two structs of four numbers. -/
abbrev EC (b1 o1 b2 : Nat) (x y : T4) (W : World) : Prop := W.cell? ⟨b1, o1, none⟩ = some (.int .i64 x.1) ∧ W.cell? ⟨b1, o1 + 1, none⟩ = some (.int .i64 x.2.1) ∧ W.cell? ⟨b1, o1 + 2, none⟩ = some (.int .i64 x.2.2.1) ∧ W.cell? ⟨b1, o1 + 3, none⟩ = some (.int .i64 x.2.2.2) ∧ W.cell? ⟨b2, 0, none⟩ = some (.int .i64 y.1) ∧ W.cell? ⟨b2, 1, none⟩ = some (.int .i64 y.2.1) ∧ W.cell? ⟨b2, 2, none⟩ = some (.int .i64 y.2.2.1) ∧ W.cell? ⟨b2, 3, none⟩ = some (.int .i64 y.2.2.2)
theorem EC.drew {b1 o1 b2 : Nat} {x y : T4} {W : World} (h : EC b1 o1 b2 x y W) : EC b1 o1 b2 x y W.drew := h
theorem EC.later {b1 o1 b2 : Nat} {x y : T4} {W W' : World} (h : EC b1 o1 b2 x y W) (hb : Below W.heap.size W W') : EC b1 o1 b2 x y W' := ⟨cell_later hb h.1, cell_later hb h.2.1, cell_later hb h.2.2.1, cell_later hb h.2.2.2.1, cell_later hb h.2.2.2.2.1, cell_later hb h.2.2.2.2.2.1, cell_later hb h.2.2.2.2.2.2.1, cell_later hb h.2.2.2.2.2.2.2⟩
end Go.Proofs.YtimcdikeajbabaaGreatDoor

namespace Go.Proofs.YtimcdikeajbabaaGreatDoor
open Go.RowKit
set_option maxRecDepth 100000

/-- Lecturers, in blocks below B. -/
def LectsAt (B : Nat) (w : World) (A : Option Addr) (ls : List Lect) : Prop :=
  0 < ls.length → ∃ b off, A = some ⟨b, off, none⟩ ∧ b < B ∧ ∀ j l, ls[j]? = some l → ∃ T c, w.cell? ⟨b, off + j * 2, none⟩ = some (.string l.1) ∧ w.cell? ⟨b, off + j * 2 + 1, none⟩ = some (.slice T l.2.length c) ∧ CellsAt B w T 4 l.2.length fun k => encT (l.2.getD k (0, 0, 0, 0))
theorem LectsAt.below {B : Nat} {w w' : World} {A : Option Addr} {ls : List Lect} (h : LectsAt B w A ls) (hb : Below B w w') : LectsAt B w' A ls := by
  intro hn
  obtain ⟨b, off, e, h1, hc⟩ := h hn
  refine ⟨b, off, e, h1, fun j l hl => ?_⟩
  obtain ⟨T, c, c0, c1, ht⟩ := hc j l hl
  exact ⟨T, c, (hb.cell h1).trans c0, (hb.cell h1).trans c1, ht.below hb⟩
theorem LectsAt.more {B C : Nat} {w : World} {A : Option Addr} {ls : List Lect} (h : LectsAt B w A ls) (hB : B ≤ C) : LectsAt C w A ls := by
  intro hn
  obtain ⟨b, off, e, h1, hc⟩ := h hn
  refine ⟨b, off, e, by omega, fun j l hl => ?_⟩
  obtain ⟨T, c, c0, c1, ht⟩ := hc j l hl
  exact ⟨T, c, c0, c1, ht.more hB⟩
/-- The first error of lecturer i, and of the first k. -/
def lectE (d sl b m n : Int) (ls : List Lect) (i : Nat) : Int :=
  if codeB (codesOf ls i) = false then 10 else if 24 < (ls.getD i (⟨#[]⟩, [])).2.length then 2
  else if orTo (fun j => fitsV d sl b m n ((ls.getD i (⟨#[]⟩, [])).2.getD j (0, 0, 0, 0)).1 ((ls.getD i (⟨#[]⟩, [])).2.getD j (0, 0, 0, 0)).2.1 ((ls.getD i (⟨#[]⟩, [])).2.getD j (0, 0, 0, 0)).2.2.1 ((ls.getD i (⟨#[]⟩, [])).2.getD j (0, 0, 0, 0)).2.2.2 != 0) (ls.getD i (⟨#[]⟩, [])).2.length then 14
  else if orTo (fun j => sameS (codesOf ls j) (codesOf ls i)) i then 11 else 0
def lectsE (d sl b m n : Int) (ls : List Lect) : Nat → Int
  | 0 => 0
  | k + 1 => if lectsE d sl b m n ls k ≠ 0 then lectsE d sl b m n ls k else lectE d sl b m n ls k
def validV (d sl b m n : Int) (ls : List Lect) : Int :=
  if weekB d sl b m n = false then 1 else if 32 < ls.length then 2 else lectsE d sl b m n ls ls.length
theorem lectsE_hit {d sl b m n : Int} {ls : List Lect} {k : Nat} (h : lectsE d sl b m n ls k ≠ 0) : ∀ q, k ≤ q → lectsE d sl b m n ls q = lectsE d sl b m n ls k
  | 0, hq => by obtain rfl : k = 0 := by omega
                rfl
  | q + 1, hq => by
    by_cases e : k = q + 1
    · rw [e]
    · have := lectsE_hit h q (by omega)
      rw [lectsE, if_pos (by rw [this]; exact h), this]
theorem lectsAt_cells {B : Nat} {w : World} {A : Option Addr} {ls : List Lect} (h : LectsAt B w A ls) : ∃ X1 : Nat → Value, CellsAt B w A 2 ls.length fun j => [.string (codesOf ls j), X1 j] := by
  by_cases hn : 0 < ls.length
  · obtain ⟨b, off, rfl, hb, hc⟩ := h hn
    refine ⟨fun j => (w.cell? ⟨b, off + j * 2 + 1, none⟩).getD undef, fun _ => ⟨b, off, rfl, hb, fun j hj i u hu => ?_⟩⟩
    obtain ⟨T, c, c0, c1, -⟩ := hc j (ls.getD j (⟨#[]⟩, [])) (by rw [List.getD_eq_getElem?_getD, List.getElem?_eq_getElem hj]; rfl)
    match i, hu with
    | 0, hu => simp at hu; subst hu; exact c0
    | 1, hu => simp at hu; subst hu; rw [c1]; rfl
    | i + 2, hu => simp at hu
  · exact ⟨fun _ => undef, fun h0 => absurd h0 hn⟩
theorem cells_prefix {B k n q : Nat} {w : World} {A : Option Addr} {X : Nat → List Value} (h : CellsAt B w A k n X) (hq : q ≤ n) : CellsAt B w A k q X := by
  intro h0
  obtain ⟨b, off, e, hb, hc⟩ := h (by omega)
  exact ⟨b, off, e, hb, fun j hj => hc j (by omega)⟩
theorem lectsE_end {d sl b m n : Int} {ls : List Lect} {j N : Nat} {e : Int} (h0 : lectsE d sl b m n ls j = 0) (he : lectE d sl b m n ls j = e) (hne : e ≠ 0) (hj : j < N) : lectsE d sl b m n ls N = e := by
  have h1 : lectsE d sl b m n ls (j + 1) = e := by rw [lectsE, if_neg (by simp [h0]), he]
  rw [lectsE_hit (by rw [h1]; exact hne) N (by omega), h1]
end Go.Proofs.YtimcdikeajbabaaGreatDoor
