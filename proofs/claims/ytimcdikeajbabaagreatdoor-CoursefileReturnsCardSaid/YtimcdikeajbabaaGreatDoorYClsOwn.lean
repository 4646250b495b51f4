/- Walk of fields.Codes, whole. Conditions: the cells; what the program's variables hold. Classes in rows of their own. No condition. -/
import Derived.Test.YtimcdikeajbabaaGreatDoorShelfS
import Derived.Test.YtimcdikeajbabaaGreatDoorRows
import Derived.WalkKit
import Derived.WalkSpells
import Derived.WalkLawsBesides
import Derived.BigGuardPart
import Derived.Lib.Hide
import Derived.Laws.BitsAllLaws
import Derived.Laws.BitsLemmas
import Derived.Lib.LaidTab
import Derived.Test.YtimcdikeajbabaaGreatDoorShelf
import Derived.Lib.ConvBytes
import Derived.Deep.QuietTactic
import Derived.BigQuiet
import Derived.Laws.ResultCell
import Derived.RegionTactic
import Derived.BigRegion
import Derived.Deep.RegionHeld3
import Derived.Deep.DeepCutAuto
import Derived.Lib.SmallJoins
import Derived.Lib.SplitLaws
import Derived.Lib.CountLaws
import Derived.Lib.IndexMore
import Derived.Lib.Split
import Derived.Lib.Join
import Derived.Lib.ItoaNum
import Derived.Laws.AppendOwn
import Derived.Test.YtimcdikeajbabaaGreatDoorShelfT
import Derived.Lib.ItoaLen
import Derived.Lib.AppendIntMem
import Derived.Deep.AppendLies
import Derived.Lib.PathFns
import Derived.Maps.Range
import Derived.Lib.OwnBridge
import Derived.Sort.OwnSorted
import Derived.Test.YtimcdikeajbabaaGreatDoorYJoinC
import Derived.Test.YtimcdikeajbabaaGreatDoorYDCls
namespace Go.Proofs.YtimcdikeajbabaaGreatDoor
open Go.RowKit
set_option maxRecDepth 100000

set_option maxHeartbeats 800000 in
theorem fcodesU_walk (A : Option Addr) (cs : List ByteArray) (c : Nat) (w : World) (hS : Std w) (hA : At kStr AnyB w A cs) (hl : cs.length ≤ 9223372036854775807) (hlc : cs.length ≤ c) :
    Calls Tryz.prog 48 #[.slice A cs.length c] w fun e w' => e = .returned (.string (joinV cs).2) ∧ Below w.heap.size w w' := by
  have hj := cjoin_walk A cs c w hS hA hl hlc
  obtain ⟨⟨n, s⟩, hv⟩ : ∃ r, joinV cs = r := ⟨_, rfl⟩
  rw [hv] at hj ⊢
  obtain ⟨N, hN⟩ : ∃ N, cs.length = N := ⟨_, rfl⟩
  rw [hN] at hj ⊢
  clear hv hN hA
  go_enter Tryz.func48, Tryz.ntmps48
  go_wp2_with fail
  refine hj.mono ?_
  rintro e w' ⟨rfl, hb⟩
  dsimp only
  go_wp2
  go_ret
  exact ⟨rfl, hb⟩
end Go.Proofs.YtimcdikeajbabaaGreatDoor

namespace Go.Proofs.YtimcdikeajbabaaGreatDoor
open Go.RowKit
set_option maxRecDepth 100000

theorem apd_clss : Apd Tryz.prog 29 47 9 160 := apd Tryz.underlying29 (z := .agg #[.string ⟨#[]⟩, .string ⟨#[]⟩, .string ⟨#[]⟩, .int .i64 0, .slice none 0 0, .int .i64 0, .slice none 0 0, .slice none 0 0, .slice none 0 0]) (by kernel_rfl) rfl
abbrev clsTs : List TypeId := [3, 9, 70]
/-- A class whose rows are known. -/
theorem cls_rep {S : Nat → Prop} {W : World} {q : Nine} {ps : List Int} {fs st : List ByteArray} {ss : List (Int × Int)} (h4 : (kSlice kInt).rep S W ps [.slice q.A4 q.n4 q.c4]) (h6 : (kSlice kStr).rep S W fs [.slice q.A6 q.n6 q.c6]) (h7 : (kSlice kStr).rep S W st [.slice q.A7 q.n7 q.c7]) (h8 : (kSlice kStart).rep S W ss [.slice q.A8 q.n8 q.c8]) :
    kCls.rep S W (q.z, q.co, q.pa, q.n, ps, q.m, fs, st, ss) (cboxV q).toList :=
  ⟨[_], _, rfl, rfl, [_], _, rfl, rfl, [_], _, rfl, rfl, [_], _, rfl, rfl, [_], _, rfl, h4, [_], _, rfl, rfl, [_], _, rfl, h6, [_], _, rfl, h7, h8⟩
theorem Own.ne {α : Type} {K : Kind α} {t : TypeId} {ts : List TypeId} {C g n k : Nat} {W : World} {A : Option Addr} {l : List α} (h : Own K t ts 0 C W (.slice A n k) l) (hg : g < C) : At K (fun b => b ≠ g) W A l := by
  obtain ⟨A', c', e, -, h1⟩ := h.at
  injection e with e _ _
  subst e
  refine h1.more fun b hb => ?_
  rcases hb with hb | ⟨hb, -⟩
  · exact absurd hb (Nat.not_lt_zero _)
  · omega
/-- A class's box is written. -/
theorem Own.boxed {α : Type} {K : Kind α} {t : TypeId} {ts : List TypeId} {B x i : Nat} {W : World} {v u : Value} {l : List α} {q : Nine} (h : Own K t ts 0 B W v l) (hc : CBox W x q) (hx : ∀ y, v.ownBlock = some y → y ≠ x) (ht : 47 ∉ ts) : Own K t ts 0 B (W.setCell ⟨x, i, none⟩ u) v l := by
  refine h.kept (only_setCell (g := x) (World.grownBy.refl _ _) (Or.inl rfl) _) ?_ (fun y hy => ⟨Nat.zero_le _, fun ⟨_, cs, t', hcs, hm⟩ => ?_⟩)
  · cases hv : v.ownBlock with
    | none => exact .inl rfl
    | some y => exact .inr fun e => hx y hv (by injection e)
  · injection hy with hy
    subst hy
    unfold CBox at hc
    rw [hc] at hcs
    injection hcs with h1
    injection h1 with _ h2
    exact ht (h2 ▸ hm)
theorem Own.tsMore {α : Type} {K : Kind α} {t : TypeId} {ts : List TypeId} {B0 B : Nat} {W : World} {l : List α} {v : Value} (h : Own K t [] B0 B W v l) (ht : t ∈ ts) : (kSlice K).rep (Ty ts B0 B W) W l [v] :=
  (kSlice K).more h.rep fun b hb => by
    rcases hb with hb | ⟨hb, cs, t', hc, hm⟩
    · exact .inl hb
    · simp at hm; subst hm; exact .inr ⟨hb, cs, t', hc, ht⟩
end Go.Proofs.YtimcdikeajbabaaGreatDoor
