/- The variable features, from what the row lays. No condition. Walk of Dice.Staff: lecturers that are made, told by bounds. Conditions: the dice's cells; the variable people. Classes in rows of their own. No condition. Walk of Dice.Classes: classes that are made. Conditions: the dice's cells; the variable features; the lecturers'. -/
import Derived.Test.YthejgholpkeldaaGreatDoorRows
import Derived.WalkKit
import Derived.WalkSpells
import Derived.WalkLawsBesides
import Derived.BigGuardPart
import Derived.Lib.Hide
import Derived.Laws.BitsAllLaws
import Derived.Laws.BitsLemmas
import Derived.Lib.LaidTab
import Derived.Test.YthejgholpkeldaaGreatDoorShelf
import Derived.Lib.ConvBytes
import Derived.Deep.QuietTactic
import Derived.BigQuiet
import Derived.Test.YthejgholpkeldaaGreatDoorCards
import Derived.Test.YthejgholpkeldaaGreatDoorTie
import Derived.ProofKit
import Derived.OpenShut
import Derived.LaidMore
import Derived.Lay
import Derived.SevenTiedAt
import Derived.Stop.Joined
import Derived.Stop.LaidErr
import Derived.Deep.DeepHandedRow
import Derived.Lib.LaidU8
import Derived.LaidSub
import Derived.Deep.Slices
import Derived.Test.YthejgholpkeldaaGreatDoorShelfS
import Derived.Laws.ResultCell
import Derived.RegionTactic
import Derived.BigRegion
import Derived.Deep.RegionHeld3
import Derived.Deep.DeepCutAuto
import Derived.Lib.SmallJoins
import Derived.Lib.SplitLaws
import Derived.Lib.CountLaws
import Derived.Lib.IndexMore
import Derived.Lib.Split
import Derived.Lib.Join
import Derived.Lib.ItoaNum
import Derived.Laws.AppendOwn
import Derived.Test.YthejgholpkeldaaGreatDoorShelfT
import Derived.Lib.ItoaLen
import Derived.Lib.AppendIntMem
import Derived.Deep.AppendLies
import Derived.Lib.PathFns
import Derived.Maps.Range
import Derived.Lib.OwnBridge
import Derived.Sort.OwnSorted
import Derived.Deep.RegionLaw
import Derived.Deep.RegionLawGrows
import Derived.Deep.Fields
import Derived.ChangeSame
import Derived.Test.YthejgholpkeldaaGreatDoorZDCls
import Derived.Test.YthejgholpkeldaaGreatDoorZVars
import Derived.Test.YthejgholpkeldaaGreatDoorZPlainA
import Derived.Test.YthejgholpkeldaaGreatDoorZSameL
import Derived.Orders
import Derived.Test.YthejgholpkeldaaGreatDoorZROneP
import Derived.Test.YthejgholpkeldaaGreatDoorZShortP
namespace Go.Proofs.YthejgholpkeldaaGreatDoor
open Go.RowKit
set_option maxRecDepth 100000

theorem ftr_of {L : List (String × DataW Unit)} {W : World} (hL : laidMetH Tryz.prog L W) (hplain : (L.all fun x => x.2.handleName?.isNone) = true)
    (hw : (L.filter fun x => x.1 == "timetable/timetablemade.features") = [("timetable/timetablemade.features", Rows.laid_timetable_timetablemade_features)]) : StrsVar W.heap.size 0 featuresL W := by
  rw [MakeChecks.laidMetH_plain _ _ _ hplain] at hL
  have h := laidMet.filter (fun x => x.1 == "timetable/timetablemade.features") hL
  rw [hw] at h
  exact strsVar_of_head (zs := featuresL) (rest := []) (g := 0) (t := 41) (e := 9) (by simp [featuresL]) (by kernel_rfl) (by kernel_rfl) Tryz.underlying41 Tryz.underlying9 (by kernel_rfl) h
end Go.Proofs.YthejgholpkeldaaGreatDoor

namespace Go.Proofs.YthejgholpkeldaaGreatDoor
open Go.RowKit
set_option maxRecDepth 100000

theorem Own.thrown {α : Type} {K : Kind α} {t : TypeId} {ts : List TypeId} {B B0 C g : Nat} {w w' : World} {v : Value} {l : List α} (h : Own K t ts B0 C w v l) (T : Thrown B w g w') (hg : g < C) (hB : B0 ≤ g) : Own K t ts B0 C w' v l :=
  h.kept T.only (by
    cases hv : v.ownBlock with
    | none => exact .inl rfl
    | some y => exact .inr fun e => by injection e with e; have := (h.lt y hv).1; omega) (fun y hy => by injection hy with hy; subst hy; exact ⟨hB, fun h => by have := h.1; omega⟩)
section
variable {B : Nat} {w1 V V' : World} {g gb pb po pc q : Nat} {z : ByteArray} {d s b m : Int} {u : Value} {ls : List Lect}
end
end Go.Proofs.YthejgholpkeldaaGreatDoor

namespace Go.Proofs.YthejgholpkeldaaGreatDoor
open Go.RowKit
set_option maxRecDepth 100000

theorem apd_clss : Apd Tryz.prog 29 65 9 160 := apd Tryz.underlying29 (z := .agg #[.string ⟨#[]⟩, .string ⟨#[]⟩, .string ⟨#[]⟩, .int .i64 0, .slice none 0 0, .int .i64 0, .slice none 0 0, .slice none 0 0, .slice none 0 0]) (by kernel_rfl) rfl
abbrev clsTs : List TypeId := [3, 9, 95]
/-- A class whose rows are known. -/
theorem cls_rep {S : Nat → Prop} {W : World} {q : Nine} {ps : List Int} {fs st : List ByteArray} {ss : List (Int × Int)} (h4 : (kSlice kInt).rep S W ps [.slice q.A4 q.n4 q.c4]) (h6 : (kSlice kStr).rep S W fs [.slice q.A6 q.n6 q.c6]) (h7 : (kSlice kStr).rep S W st [.slice q.A7 q.n7 q.c7]) (h8 : (kSlice kStart).rep S W ss [.slice q.A8 q.n8 q.c8]) :
    kCls.rep S W (q.z, q.co, q.pa, q.n, ps, q.m, fs, st, ss) (cboxV q).toList :=
  ⟨[_], _, rfl, rfl, [_], _, rfl, rfl, [_], _, rfl, rfl, [_], _, rfl, rfl, [_], _, rfl, h4, [_], _, rfl, rfl, [_], _, rfl, h6, [_], _, rfl, h7, h8⟩
theorem Own.ne {α : Type} {K : Kind α} {t : TypeId} {ts : List TypeId} {C g n k : Nat} {W : World} {A : Option Addr} {l : List α} (h : Own K t ts 0 C W (.slice A n k) l) (hg : g < C) : At K (fun b => b ≠ g) W A l := by
  obtain ⟨A', c', e, -, h1⟩ := h.at
  injection e with e _ _
  subst e
  refine h1.more fun b hb => ?_
  rcases hb with hb | ⟨hb, -⟩
  · exact absurd hb (Nat.not_lt_zero _)
  · omega
/-- A class's box is written. -/
theorem Own.boxed {α : Type} {K : Kind α} {t : TypeId} {ts : List TypeId} {B x i : Nat} {W : World} {v u : Value} {l : List α} {q : Nine} (h : Own K t ts 0 B W v l) (hc : CBox W x q) (hx : ∀ y, v.ownBlock = some y → y ≠ x) (ht : 65 ∉ ts) : Own K t ts 0 B (W.setCell ⟨x, i, none⟩ u) v l := by
  refine h.kept (only_setCell (g := x) (World.grownBy.refl _ _) (Or.inl rfl) _) ?_ (fun y hy => ⟨Nat.zero_le _, fun ⟨_, cs, t', hcs, hm⟩ => ?_⟩)
  · cases hv : v.ownBlock with
    | none => exact .inl rfl
    | some y => exact .inr fun e => hx y hv (by injection e)
  · injection hy with hy
    subst hy
    unfold CBox at hc
    rw [hc] at hcs
    injection hcs with h1
    injection h1 with _ h2
    exact ht (h2 ▸ hm)
theorem Own.tsMore {α : Type} {K : Kind α} {t : TypeId} {ts : List TypeId} {B0 B : Nat} {W : World} {l : List α} {v : Value} (h : Own K t [] B0 B W v l) (ht : t ∈ ts) : (kSlice K).rep (Ty ts B0 B W) W l [v] :=
  (kSlice K).more h.rep fun b hb => by
    rcases hb with hb | ⟨hb, cs, t', hc, hm⟩
    · exact .inl hb
    · simp at hm; subst hm; exact .inr ⟨hb, cs, t', hc, ht⟩
end Go.Proofs.YthejgholpkeldaaGreatDoor

namespace Go.Proofs.YthejgholpkeldaaGreatDoor
open Go.RowKit
set_option maxRecDepth 100000

def DClss (B N : Nat) (d s : Int) (most : Nat) (names : List ByteArray) (w : World) (g : Nat) (e : Ending) (w' : World) : Prop :=
  ∃ v ls, e = .returned v ∧ ClassesMade N d s most names ls ∧ Own kCls 65 clsTs 0 w.heap.size w' v ls ∧ Thrown B w g w'
theorem clsName_is : ∀ q : Nat, q < 6 → (⟨#[99]⟩ : ByteArray) ++ (⟨#[dgB q]⟩ : ByteArray) = clsName q := by decide +kernel
theorem ClassesMade.snoc {N : Nat} {d s : Int} {most : Nat} {names : List ByteArray} {l : List Cls} {x : Cls} (h : ClassesMade N d s most names l) (hl : l.length < most) (h1 : x.1 = clsName l.length) (h2 : ClassMade N d s x) (h3 : x.2.2.2.2.2.2.2.1.Sublist names) : ClassesMade N d s most names (l ++ [x]) := by
  refine ⟨by rw [List.length_append]; simp; omega, fun j y hj => ?_⟩
  rcases Nat.lt_or_ge j l.length with hlt | hge
  · rw [List.getElem?_append_left hlt] at hj
    exact h.2 j y hj
  · rw [List.getElem?_append_right hge] at hj
    have : j = l.length := by
      have := (List.getElem?_eq_some_iff.1 hj).1
      simp at this; omega
    subst this
    simp at hj
    subst hj
    exact ⟨h1, h2, h3⟩
theorem lect_code {S : Nat → Prop} {w : World} {A : Option Addr} {ls : List Lect} (h : At kLect S w A ls) {j : Nat} {l : Lect} (hj : ls[j]? = some l) :
    ∃ b off, A = some ⟨b, off, none⟩ ∧ b < w.heap.size ∧ w.cell? ⟨b, off + j * 2, none⟩ = some (.string l.1) := by
  obtain ⟨b, off, vs, e, hs, hlt, ⟨us, ts, rfl, h1, h2⟩, hcell⟩ := h.get hj
  rw [rep_str] at h1
  subst h1
  exact ⟨b, off, e, hlt, hcell 0 _ rfl⟩
/-- What stays while classes are made. -/
structure CsSt (B : Nat) (w : World) (g gd : Nat) (d s b m : Int) (A11 : Option Addr) (n11 c11 : Nat) (names : List ByteArray) (v13 : Value) (ls : List Cls) (W : World) : Prop where
  thrown : Thrown B w g W
  grid : Box4 W gd (.int .i64 d) (.int .i64 s) (.int .i64 b) (.int .i64 m)
  names : Own kStr 9 [] 0 (gd + 1) W (.slice A11 n11 c11) names
  list : Own kCls 65 clsTs 0 (gd + 1) W v13 ls
section
variable {B : Nat} {w W W' : World} {g gd : Nat} {d s b m : Int} {A11 : Option Addr} {n11 c11 : Nat} {names : List ByteArray} {v13 : Value} {ls : List Cls}
theorem CsSt.later (h : CsSt B w g gd d s b m A11 n11 c11 names v13 ls W) (hb : Below W.heap.size W W') : CsSt B w g gd d s b m A11 n11 c11 names v13 ls W' := ⟨h.thrown.later hb, h.grid.later hb, h.names.later hb, h.list.later hb⟩
theorem CsSt.alloc (h : CsSt B w g gd d s b m A11 n11 c11 names v13 ls W) (o : Obj) : CsSt B w g gd d s b m A11 n11 c11 names v13 ls (W.alloc o) := h.later (ext_alloc (Below.refl _ _) _)
theorem CsSt.on (h : CsSt B w g gd d s b m A11 n11 c11 names v13 ls W) (T : Thrown B W g W') (h1 : g < gd) : CsSt B w g gd d s b m A11 n11 c11 names v13 ls W' :=
  ⟨h.thrown.trans T, T.box (by omega) h.grid, h.names.thrown T (by omega) (Nat.zero_le _), h.list.thrown T (by omega) (Nat.zero_le _)⟩
theorem CsSt.set {x i : Nat} {q : Nine} {u : Value} (h : CsSt B w g gd d s b m A11 n11 c11 names v13 ls W) (hc : CBox W x q) (hw : w.heap.size ≤ x) (hgd : gd ≠ x) (hx : ∀ y, v13.ownBlock = some y → y ≠ x) : CsSt B w g gd d s b m A11 n11 c11 names v13 ls (W.setCell ⟨x, i, none⟩ u) :=
  ⟨h.thrown.set (p := ⟨x, i, none⟩) hw u, ⟨cell_set_other h.grid.c0 hgd u, cell_set_other h.grid.c1 hgd u, cell_set_other h.grid.c2 hgd u, cell_set_other h.grid.c3 hgd u⟩, own_setC h.names hc (by decide), h.list.boxed hc hx (by decide)⟩
end
def CsLoop (B N : Nat) (w : World) (g gd : Nat) (d s b m : Int) (most : Nat) (A11 : Option Addr) (n11 c11 : Nat) (names : List ByteArray) (v13 v14 : Value) (wr : World) : Prop :=
  ∃ (k : Nat) (ls : List Cls), v14 = .int .i64 (k : Int) ∧ ls.length + k ≤ most ∧ ClassesMade N d s most names ls ∧ CsSt B w g gd d s b m A11 n11 c11 names v13 ls wr
set_option maxHeartbeats 8000000 in
theorem dclss_walk (B g : Nat) (d s b m : Int) (N : Nat) (hd : 1 ≤ d ∧ d ≤ 1000) (hs : 1 ≤ s ∧ s ≤ 900) (hN1 : 1 ≤ N) (hN : N ≤ 20) (Al : Option Addr) (lects : List Lect) (cl : Nat) (hll : lects.length ≤ 1000) (most : Nat) (hmost : most ≤ 6) (w : World) (h : DiceOk B w g) (hFv : StrsVar B 0 featuresL w) (hAl : At kLect AnyB w Al lects) :
    Calls Tryz.prog 9 #[.pointer (some ⟨g, 0, none⟩), .agg #[.int .i64 d, .int .i64 s, .int .i64 b, .int .i64 m], .int .i64 N, .slice Al lects.length cl, .int .i64 most] w fun e w' => DClss B N d s most (lects.map fun x => x.1) w g e w' := by
  have hlt := h.lt
  have hBg := h.1
  obtain ⟨W, hW⟩ : ∃ W, w.alloc (.cells #[.int .i64 d, .int .i64 s, .int .i64 b, .int .i64 m] 32) = W := ⟨_, rfl⟩
  have hb0 : Below w.heap.size w W := by rw [← hW]; exact (by repeat (first | exact Below.refl _ _ | refine ext_alloc ?_ _ | refine ext_drewN ?_ _ | refine ext_drew ?_ | refine ext_trans ?_ (by assumption)))
  have hG : Box4 W w.heap.size (.int .i64 d) (.int .i64 s) (.int .i64 b) (.int .i64 m) := by rw [← hW]; exact Box4.new w 32 (.int .i64 d) (.int .i64 s) (.int .i64 b) (.int .i64 m)
  obtain ⟨nl, hnl⟩ : ∃ nl, lects.length = nl := ⟨_, rfl⟩
  rw [hnl] at hll ⊢
  obtain ⟨gd, hgd⟩ : ∃ gd, w.heap.size = gd := ⟨_, rfl⟩
  rw [hgd] at hG hlt
  have hWz : gd + 1 ≤ W.heap.size := by have := hG.lt; omega
  replace hnl := hide hnl
  replace hW := hide hW
  replace hgd := hide hgd
  go_enter Tryz.func9, Tryz.ntmps9
  go_wp2_with fail
  rw [hW.out, hgd.out]
  go_loopw [11, 12] (fun v11 i wr => ∃ j : Nat, j ≤ nl ∧ i = .int .i64 j ∧ Own kStr 9 [] 0 (gd + 1) wr v11 ((lects.map fun x => x.1).take j) ∧ Below w.heap.size w wr ∧ Box4 wr gd (.int .i64 d) (.int .i64 s) (.int .i64 b) (.int .i64 m) ∧ gd + 1 ≤ wr.heap.size) (fun _ i _ => nl - (intOf i).toNat)
  case atStart => exact ⟨0, Nat.zero_le _, rfl, Own.nil, hb0, hG, hWz⟩
  case round =>
    clear hb0 hG hW hWz
    obtain ⟨j, hj, rfl, hown, hb, hG, hWz⟩ := hrel
    by_cases hlt2 : j < nl
    · obtain ⟨l, hl⟩ : ∃ l, lects[j]? = some l := ⟨_, List.getElem?_eq_getElem (by rw [hnl.out]; exact hlt2)⟩
      obtain ⟨lb, lo, rfl, hlb, k0⟩ := lect_code (hAl.later hb) hl
      have ht : (lects.map fun x => x.1).take (j + 1) = (lects.map fun x => x.1).take j ++ [l.1] := by rw [List.take_add_one, List.getElem?_map, hl]; rfl
      have hlen : ((lects.map fun x => x.1).take j).length ≤ nl := by rw [List.length_take, List.length_map, hnl.out]; omega
      obtain ⟨L, hL⟩ : ∃ L, (lects.map fun x => x.1).take j = L := ⟨_, rfl⟩
      rw [hL] at hown ht hlen
      obtain ⟨code, ts⟩ := l
      dsimp only at k0 ht
      have hj0 : (0 : Int) ≤ (j : Int) := by omega
      have hj1 : (j : Int) < (nl : Int) := by omega
      replace ht := hide ht
      clear hl hL
      obtain ⟨A11, c11, rfl⟩ := hown.form
      go_wp2_with (at_builtin; refine wpList_own rfl _ _ rfl apd_strs (by decide) rfl (hown.alloc _) ?d1 (by decide) ⟨wr.heap.size, 0, none⟩ 1 rfl code [.string code] rfl (World.news_of_block (cs := #[.string code]) (t := 9) (fr := (0, 0)) (heap_alloc_new _ _)) (by decide) (Nat.zero_le _) ?d2 ?_)
      case d1 => omega
      case d2 => rw [World.size_alloc]; omega
      intro v4 w4 hown4 hgrow
      have hb4 := below_grown (ext_alloc hb (.cells #[.string code] 9)) hgrow (fun y hy => by have := (hown.lt y hy).1; rw [hgd.out]; omega)
      have hG4 : Box4 w4 gd (.int .i64 d) (.int .i64 s) (.int .i64 b) (.int .i64 m) := by
        have hne : some gd ≠ (Value.slice A11 L.length c11).ownBlock := fun e => by
          have := (hown.lt gd e.symm).1
          omega
        have hA := hG.later (ext_alloc (Below.refl _ _) (.cells #[.string code] 9))
        exact ⟨cell_grown hA.c0 hgrow hne, cell_grown hA.c1 hgrow hne, cell_grown hA.c2 hgrow hne, cell_grown hA.c3 hgrow hne⟩
      have hz4 : gd + 1 ≤ w4.heap.size := by have := hG4.lt; omega
      clear hown hgrow hG
      go_wp2
      go_roundw
      case rel => exact ⟨j + 1, by omega, by go_num, by rw [ht.out]; exact hown4, hb4, hG4, hz4⟩
      case measure => simp [intOf]; omega
    · obtain rfl : j = nl := by omega
      have hall : (lects.map fun x => x.1).take j = lects.map fun x => x.1 := by rw [← hnl.out, ← List.length_map (fun x : Lect => x.1), List.take_length]
      rw [hall] at hown
      obtain ⟨A11, c11, rfl⟩ := hown.form
      obtain ⟨names, hnm⟩ : ∃ names, (lects.map fun x => x.1) = names := ⟨_, rfl⟩
      obtain ⟨n11, hn11⟩ : ∃ n11, names.length = n11 := ⟨_, rfl⟩
      have hnn : names.length ≤ 1000 := by rw [← hnm, List.length_map, hnl.out]; exact hll
      rw [hnm] at hown ⊢
      rw [hn11] at hown ⊢
      have hT : Thrown B w g wr := ⟨by rw [hgd.out]; exact hlt, h.later hb, only_of_below hb _⟩
      have hC : CsSt B w g gd d s b m A11 n11 c11 names (.slice none 0 0) [] wr := ⟨hT, hG, hown, Own.nil⟩
      replace hn11 := hide hn11
      replace hnm := hide hnm
      clear hall hnl hll hAl hown hb hG hT h hj hlt2
      go_wp2_with fail
      refine (next_walk B g ((most : Int) + 1) (by omega) _ hC.thrown.dice).mono ?_
      rintro e w2 ⟨k, rfl, p1, p2, -, T2, -⟩
      have p2 := p2 (by omega)
      obtain ⟨k, rfl⟩ := Int.eq_ofNat_of_zero_le p1
      have hC2 := hC.on T2 hlt
      clear hC T2
      go_wp2_with fail
      go_loopw [13, 14] (fun v13 v14 wq => CsLoop B N w g gd d s b m most A11 n11 c11 names v13 v14 wq) (fun _ v14 _ => (intOf v14).toNat)
      case atStart => exact ⟨k, [], rfl, by simp; omega, ⟨by simp, fun j x h => by simp at h⟩, hC2⟩
      case round =>
        clear hC2
        obtain ⟨k, ls, rfl, hk, hmade, hC⟩ := hrel
        obtain ⟨q, hq⟩ : ∃ q, ls.length = q := ⟨_, rfl⟩
        by_cases hgo : 0 < k
        · obtain ⟨k, rfl⟩ : ∃ k', k = k' + 1 := ⟨k - 1, by omega⟩
          have hk1 : (0 : Int) < ((k + 1 : Nat) : Int) := by omega
          have hnw : IntKind.i64.wrap (((k + 1 : Nat) : Int) - 1) = (k : Int) := by rw [IntKind.wrap_i64]; omega
          have hwi : IntKind.i64.wrap (49 + (q : Int)) = 49 + (q : Int) := by rw [IntKind.wrap_i64]; omega
          rename World => wq
          have hcv := conv_small wq q (by omega) 1
          obtain ⟨g0, g1, g2, g3⟩ := id hC.grid
          obtain ⟨A13, c13, rfl⟩ := hC.list.form
          rw [hq] at hC ⊢
          go_wp2_with fail
          rw [clsName_is q (by omega)]
          have hgz := hC.grid.lt
          have hCa := hC.alloc (.cells #[.int .u8 (49 + (q : Int))] 5)
          have hFw := hFv.below (hCa.thrown.below hBg)
          refine (dclass_walk B g d s b m N (clsName q) hd hs hN1 hN _ hCa.thrown.dice hFw).mono ?_
          rintro e w3 ⟨cq, ps, fs, ss, rfl, a1, a2, a3, a4, a5, a6, a7, a8, o4, o6, o8, T3⟩
          replace a1 := hide a1
          have hza : gd + 1 ≤ (wq.alloc (.cells #[.int .u8 (49 + (q : Int))] 5)).heap.size := by rw [World.size_alloc]; omega
          have hC3 := hCa.on T3 hlt
          replace o4 := o4.lower hza
          replace o6 := o6.lower hza
          replace o8 := o8.lower hza
          have hx4 := cbox_new w3 cq
          have hC4 := hC3.alloc (.cells (cboxV cq) 65)
          have hrow : ∀ y, (Value.slice A13 q c13).ownBlock = some y → y ≠ w3.heap.size := fun y hy => by have := (hC3.list.lt y hy).2; omega
          replace o4 := o4.alloc (.cells (cboxV cq) 65)
          replace o6 := o6.alloc (.cells (cboxV cq) 65)
          replace o8 := o8.alloc (.cells (cboxV cq) 65)
          have hgw3 : gd < w3.heap.size := hC3.grid.lt
          obtain ⟨x, hxx⟩ : ∃ x, w3.heap.size = x := ⟨_, rfl⟩
          obtain ⟨W4, hW4⟩ : ∃ W4, w3.alloc (.cells #[.string cq.z, .string cq.co, .string cq.pa, .int .i64 cq.n, .slice cq.A4 cq.n4 cq.c4, .int .i64 cq.m, .slice cq.A6 cq.n6 cq.c6, .slice cq.A7 cq.n7 cq.c7, .slice cq.A8 cq.n8 cq.c8] 65) = W4 := ⟨_, rfl⟩
          have hW4' : w3.alloc (.cells (cboxV cq) 65) = W4 := hW4
          rw [hW4'] at hx4 hC4 o4 o6 o8
          rw [hxx] at hx4 hrow hgw3
          have hsm := some_walk B g A11 names c11 2 (by omega) (by omega) W4 hC4.thrown.dice (by omega) (hC4.names.ne (by omega))
          rw [hn11.out] at hsm
          have hz4 : gd + 1 ≤ W4.heap.size := by have := hC4.grid.lt; omega
          replace hW4 := hide hW4
          replace hxx := hide hxx
          clear hCa hFw T3 hC3 hza hcv hC g0 g1 g2 g3 hwi hW4'
          unfold cboxV
          go_upto_region 11 with fail
          rw [hW4.out, hxx.out]
          clear hW4 hxx
          go_wp2_with fail
          refine hsm.mono ?_
          clear hsm
          rintro e w5 ⟨v8, L, rfl, hsub, hoL, T5⟩
          obtain ⟨A8, c8, rfl⟩ := hoL.form
          have hC5 := hC4.on T5 hlt
          have hx5 := hx4.thrown T5 (by omega)
          replace o4 := o4.tossed T5 (by omega)
          replace o6 := o6.tossed T5 (by omega)
          replace o8 := o8.tossed T5 (by omega)
          replace hoL := hoL.lower hz4
          have hx6 := hx5.set7 A8 L.length c8
          have hC6 := hC5.set (i := 7) (u := .slice A8 L.length c8) hx5 (by rw [hgd.out]; omega) (by omega) hrow
          replace o4 := own_setC (i := 7) (u := .slice A8 L.length c8) o4 hx5 (by decide)
          replace o6 := own_setC (i := 7) (u := .slice A8 L.length c8) o6 hx5 (by decide)
          replace o8 := own_setC (i := 7) (u := .slice A8 L.length c8) o8 hx5 (by decide)
          replace hoL := own_setC (i := 7) (u := .slice A8 L.length c8) hoL hx5 (by decide)
          have n7 := hx5.c7
          have f7 := hx5.free 7
          have hxl := hx5.lt
          obtain ⟨W6, hW6⟩ : ∃ W6, w5.setCell ⟨x, 7, none⟩ (.slice A8 L.length c8) = W6 := ⟨_, rfl⟩
          rw [hW6] at hx6 hC6 o4 o6 o8 hoL
          replace hW6 := hide hW6
          have hz6 : gd + 1 ≤ W6.heap.size := by have := hC6.grid.lt; omega
          clear hC4 hx4 T5 hC5 hx5 hz4
          go_upto_region 12 with fail
          rw [hW6.out]
          clear n7 f7 hxl hW6
          have hcm : ClassMade N d s (cq.z, cq.co, cq.pa, cq.n, ps, cq.m, fs, L, ss) := ⟨a2, a3, a4, a5, a6, a7, a8⟩
          have hmade2 := hide (hmade.snoc (x := (cq.z, cq.co, cq.pa, cq.n, ps, cq.m, fs, L, ss)) (by omega) (by rw [hq]; exact a1.out) hcm hsub)
          obtain ⟨r, hr⟩ : ∃ r : Nine, { cq with A7 := A8, n7 := L.length, c7 := c8 } = r := ⟨_, rfl⟩
          have hrep : kCls.rep (Ty clsTs 0 (gd + 1) (W6.alloc (.cells (cboxV r) 65))) (W6.alloc (.cells (cboxV r) 65)) (cq.z, cq.co, cq.pa, cq.n, ps, cq.m, fs, L, ss) (cboxV r).toList := by
            have := cls_rep (S := Ty clsTs 0 (gd + 1) (W6.alloc (.cells (cboxV r) 65))) (W := W6.alloc (.cells (cboxV r) 65)) (q := { cq with A7 := A8, n7 := L.length, c7 := c8 }) (ps := ps) (fs := fs) (st := L) (ss := ss) ((o4.alloc _).tsMore (by decide)) ((o6.alloc _).tsMore (by decide)) ((hoL.alloc _).tsMore (by decide)) ((o8.alloc _).tsMore (by decide))
            rw [hr] at this
            rw [← hr] at this ⊢
            exact this
          rw [hr] at hx6
          have hC7 := hC6.alloc (.cells (cboxV r) 65)
          have y0 := hx6.c0
          have y1 := hx6.c1
          have y2 := hx6.c2
          have y3 := hx6.c3
          have y4 := hx6.c4
          have y5 := hx6.c5
          have y6 := hx6.c6
          have y7 := hx6.c7
          have y8 := hx6.c8
          replace hr := hide hr
          clear hmade hcm hsub o4 o6 o8 hoL a1 a2 a3 a4 a5 a6 a7 a8 hC6 hx6
          go_wp2_with (at_builtin; refine wpList_own rfl _ _ rfl apd_clss (by decide) rfl hC7.list ?d3 (by decide) ⟨W6.heap.size, 0, none⟩ 1 rfl (cq.z, cq.co, cq.pa, cq.n, ps, cq.m, fs, L, ss) (cboxV r).toList hrep (World.news_of_block (cs := cboxV r) (t := 65) (fr := (0, 0)) (heap_alloc_new _ _)) (by decide) (Nat.zero_le _) ?d4 ?_)
          case d3 => omega
          case d4 => rw [World.size_alloc]; omega
          intro v' w9 hown9 hgrow
          have hlow : ∀ y, (Value.slice A13 q c13).ownBlock = some y → gd + 1 ≤ y := fun y hy => (hC7.list.lt y hy).1
          have hne : some gd ≠ (Value.slice A13 q c13).ownBlock := fun e => by have := hlow gd e.symm; omega
          have hn9 : Own kStr 9 [] 0 (gd + 1) w9 (.slice A11 n11 c11) names := by
            obtain ⟨vss, -, ho, -⟩ := hC7.list
            exact hC7.names.grown ho (Nat.zero_le _) hgrow (by decide) (by simp)
          have hC9 : CsSt B w g gd d s b m A11 n11 c11 names v' (ls ++ [(cq.z, cq.co, cq.pa, cq.n, ps, cq.m, fs, L, ss)]) w9 :=
            ⟨hC7.thrown.grown hgrow (fun y hy => by have := hlow y hy; rw [hgd.out]; omega), ⟨cell_grown hC7.grid.c0 hgrow hne, cell_grown hC7.grid.c1 hgrow hne, cell_grown hC7.grid.c2 hgrow hne, cell_grown hC7.grid.c3 hgrow hne⟩, hn9, hown9⟩
          replace hC9 := hide hC9
          clear hC7 hown9 hgrow hne hn9 hlow y0 y1 y2 y3 y4 y5 y6 y7 y8 hrep hrow
          go_wp2
          go_roundw
          case rel => exact ⟨k, ls ++ [(cq.z, cq.co, cq.pa, cq.n, ps, cq.m, fs, L, ss)], by go_num, by rw [List.length_append]; simp; omega, hmade2.out, hC9.out⟩
          case measure => first | (simp [intOf]; done) | (simp [intOf]; omega)
        · have hk1 : ¬ (0 : Int) < (k : Int) := by omega
          have hfin := hide (hC.list.lower (show w.heap.size ≤ gd + 1 by rw [hgd.out]; omega))
          go_wp2
          go_ret
          exact ⟨_, ls, rfl, by rw [hnm.out]; exact hmade, hfin.out, hC.thrown⟩
end Go.Proofs.YthejgholpkeldaaGreatDoor
