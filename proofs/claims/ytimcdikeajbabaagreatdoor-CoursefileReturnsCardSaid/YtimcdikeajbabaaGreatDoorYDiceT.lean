/- Walk of Dice.Spoil: it gives a text of at most one byte more. Conditions: short texts. Appending a time. No condition. Walks of Dice.Times and Dice.Staff: what is made, told by bounds. Conditions: the dice's cells; the variable people. Walk of Dice.Staff: lecturers that are made, told by bounds. Conditions: the dice's cells; the variable people. -/
import Derived.Test.YtimcdikeajbabaaGreatDoorRows
import Derived.WalkKit
import Derived.WalkSpells
import Derived.WalkLawsBesides
import Derived.BigGuardPart
import Derived.Lib.Hide
import Derived.Laws.BitsAllLaws
import Derived.Laws.BitsLemmas
import Derived.Lib.LaidTab
import Derived.Test.YtimcdikeajbabaaGreatDoorShelf
import Derived.Lib.ConvBytes
import Derived.Deep.QuietTactic
import Derived.BigQuiet
import Derived.Laws.ResultCell
import Derived.RegionTactic
import Derived.BigRegion
import Derived.Deep.RegionHeld3
import Derived.Deep.DeepCutAuto
import Derived.Lib.SmallJoins
import Derived.Laws.AppendOwn
import Derived.Deep.RegionLaw
import Derived.Deep.RegionLawGrows
import Derived.Test.YtimcdikeajbabaaGreatDoorYSameL
import Derived.Test.YtimcdikeajbabaaGreatDoorCards
import Derived.Test.YtimcdikeajbabaaGreatDoorTie
import Derived.ProofKit
import Derived.OpenShut
import Derived.LaidMore
import Derived.Lay
import Derived.SevenTiedAt
import Derived.Stop.Joined
import Derived.Stop.LaidErr
import Derived.Deep.DeepHandedRow
import Derived.Lib.LaidU8
import Derived.LaidSub
import Derived.Lib.SplitLaws
import Derived.Lib.CountLaws
import Derived.Lib.IndexMore
import Derived.Lib.Split
import Derived.Lib.Join
import Derived.Lib.ItoaNum
import Derived.Deep.Slices
import Derived.Deep.Fields
import Derived.ChangeSame
import Derived.Deep.AppendLies
import Derived.Test.YtimcdikeajbabaaGreatDoorYROneP
import Derived.Lib.PathFns
import Derived.Test.YtimcdikeajbabaaGreatDoorYDiceB
import Derived.Test.YtimcdikeajbabaaGreatDoorYVars
namespace Go.Proofs.YtimcdikeajbabaaGreatDoor
open Go.RowKit
set_option maxRecDepth 100000

theorem DiceOk.far {B C : Nat} {w w' : World} {g : Nat} (h : DiceOk B w g) (hC : g < C) (hb : Below C w w') : DiceOk B w' g := by
  obtain ⟨hB, A, n, c, k, hg, h1, h2, h3⟩ := h
  refine ⟨hB, A, n, c, k, (hb.block g hC).trans hg, h1, h2, fun hn => ?_⟩
  obtain ⟨b, off, hA, hlt, hc⟩ := h3 hn
  refine ⟨b, off, hA, hlt, fun j hj => ?_⟩
  obtain ⟨x, hx⟩ := hc j hj
  exact ⟨x, (hb.cell (p := ⟨b, off + j, none⟩) (by show b < C; omega)).trans hx⟩
theorem Thrown.far {B : Nat} {a b c : World} {g : Nat} (h : Thrown B a g b) (k : Below a.heap.size b c) : Thrown B a g c :=
  ⟨h.lt, h.dice.far h.lt k, ⟨k.os.trans h.only.os, k.tape.trans h.only.tape, k.output.trans h.only.output, Nat.le_trans h.only.size k.size, fun i hi hne => (k.block i hi).trans (h.only.block i hi hne)⟩⟩
end Go.Proofs.YtimcdikeajbabaaGreatDoor

namespace Go.Proofs.YtimcdikeajbabaaGreatDoor
open Go.RowKit
set_option maxRecDepth 100000

theorem apd_times : Apd Tryz.prog 42 49 4 32 := apd Tryz.underlying42 (z := .agg #[.int .i64 0, .int .i64 0, .int .i64 0, .int .i64 0]) (by kernel_rfl) rfl
theorem rep_of_time {S : Nat → Prop} {w : World} (x1 x2 x3 x4 : Int) : kTime.rep S w (x1, x2, x3, x4) [.int .i64 x1, .int .i64 x2, .int .i64 x3, .int .i64 x4] :=
  ⟨[_], [_, _, _], rfl, rfl, [_], [_, _], rfl, rfl, [_], [_], rfl, rfl, rfl⟩
end Go.Proofs.YtimcdikeajbabaaGreatDoor

namespace Go.Proofs.YtimcdikeajbabaaGreatDoor
open Go.RowKit
set_option maxRecDepth 100000

theorem apd_lects : Apd Tryz.prog 53 80 2 40 := apd Tryz.underlying53 (z := .agg #[.string ⟨#[]⟩, .slice none 0 0]) (by kernel_rfl) rfl
/-- A row grown, or new memory: the dice stay. -/
theorem Thrown.grown {B : Nat} {a b c : World} {g : Nat} {v : Value} (h : Thrown B a g b) (hg : b.grownBy c v.ownBlock) (hv : ∀ y, v.ownBlock = some y → a.heap.size ≤ y) : Thrown B a g c :=
  h.far (Below.grown (Below.refl a.heap.size b) hg h.size hv)
/-- Times that were made. -/
def TimesMade (N : Nat) (d s : Int) (most : Nat) (ts : List T4) : Prop := ts.length ≤ most ∧ ∀ t ∈ ts, TimeB N d s t.1 t.2.1 t.2.2.1 t.2.2.2
def DTimes (B N : Nat) (d s : Int) (most : Nat) (w : World) (g : Nat) (e : Ending) (w' : World) : Prop :=
  ∃ v ts, e = .returned v ∧ TimesMade N d s most ts ∧ Own kTime 49 [] 0 w.heap.size w' v ts ∧ Thrown B w g w'
def DTLoop (B N : Nat) (d s b m : Int) (most : Nat) (w1 : World) (g gb : Nat) (v i : Value) (wr : World) : Prop :=
  ∃ (k : Nat) (ts : List T4), i = .int .i64 k ∧ ts.length + k ≤ most ∧ (∀ t ∈ ts, TimeB N d s t.1 t.2.1 t.2.2.1 t.2.2.2) ∧ Own kTime 49 [] 0 w1.heap.size wr v ts ∧ Thrown B w1 g wr ∧ Box4 wr gb (.int .i64 d) (.int .i64 s) (.int .i64 b) (.int .i64 m)
set_option maxHeartbeats 4000000 in
theorem dtimes_walk (B g : Nat) (d s b m : Int) (N most : Nat) (hd : 1 ≤ d ∧ d ≤ 1000) (hs : 1 ≤ s ∧ s ≤ 1000) (hN1 : 1 ≤ N) (hN : N ≤ 20) (hm : most ≤ 1000) (w : World) (h : DiceOk B w g) :
    Calls Tryz.prog 43 #[.pointer (some ⟨g, 0, none⟩), .agg #[.int .i64 d, .int .i64 s, .int .i64 b, .int .i64 m], .int .i64 N, .int .i64 most] w fun e w' => DTimes B N d s most w g e w' := by
  have hlt := h.lt
  have bG := Box4.new w 24 (.int .i64 d) (.int .i64 s) (.int .i64 b) (.int .i64 m)
  have hb0 : Below w.heap.size w (w.alloc (.cells #[.int .i64 d, .int .i64 s, .int .i64 b, .int .i64 m] 24)) := (by repeat (first | exact Below.refl _ _ | refine ext_alloc ?_ _ | refine ext_drewN ?_ _ | refine ext_drew ?_ | refine ext_trans ?_ (by assumption)))
  have h0 := h.later hb0
  obtain ⟨gb, hgb⟩ : ∃ gb, w.heap.size = gb := ⟨_, rfl⟩
  obtain ⟨W, hW⟩ : ∃ W, w.alloc (.cells #[.int .i64 d, .int .i64 s, .int .i64 b, .int .i64 m] 24) = W := ⟨_, rfl⟩
  rw [hW] at bG hb0 h0
  rw [hgb] at bG hlt
  have hgl := bG.lt
  have hz0 := hb0.size
  replace hgb := hide hgb
  replace hW := hide hW
  clear h
  go_enter Tryz.func43, Tryz.ntmps43
  go_wp2_with fail
  rw [hW.out, hgb.out]
  refine (next_walk B g ((most : Int) + 1) (by omega) W h0).mono ?_
  rintro e w1 ⟨v, rfl, p1, q1, -, T1, -⟩
  have q1 := q1 (by omega)
  obtain ⟨v, rfl⟩ := Int.eq_ofNat_of_zero_le p1
  have bG1 := T1.box (by omega) bG
  have hz1 := T1.size
  have D1 := T1.dice
  have TW : Thrown B w g w1 := ⟨by have := hgb.out; omega, T1.dice, ((only_of_below hb0 _).trans T1.only)⟩
  clear h0 bG
  go_wp2_with fail
  try rw [hgb.out]
  go_loopw [9, 10] (fun v i wr => DTLoop B N d s b m most w1 g gb v i wr) (fun _ i _ => (intOf i).toNat)
  case atStart => exact ⟨v, [], rfl, by simp; omega, fun t ht => by simp at ht, Own.nil, Thrown.refl D1, bG1⟩
  case round =>
    obtain ⟨k, ts, rfl, hk, hts, hown, T, bGr⟩ := hrel
    by_cases hk0 : 0 < k
    · obtain ⟨k, rfl⟩ : ∃ k', k = k' + 1 := ⟨k - 1, by omega⟩
      have hk1 : (0 : Int) < ((k + 1 : Nat) : Int) := by omega
      obtain ⟨c0, c1, c2, c3⟩ := bGr
      have hgr : gb < wr.heap.size := World.block_lt_of_cell? _ _ c0
      have hzr := T.size
      go_wp2_with fail
      refine (time_walk B g d s b m N hd hs (by omega) (by omega) wr T.dice).mono ?_
      rintro e w2 ⟨x1, x2, x3, x4, rfl, ⟨t1, t2⟩, ⟨t3, t4⟩, ⟨t5, -, t6, t7⟩, T2, -⟩
      rw [Int.toNat_natCast] at t2
      have hT : TimeB N d s x1 x2 x3 x4 := ⟨t1, t2, t3, t4, t5, t6, t7⟩
      have bG2 := T2.box (by omega) ⟨c0, c1, c2, c3⟩
      have hown2 : Own kTime 49 [] 0 w1.heap.size w2 u9 ts := hown.kept T2.only (by
        cases hv : u9.ownBlock with
        | none => exact .inl rfl
        | some y => exact .inr fun e => by injection e with e; have := (hown.lt y hv).1; have := T.lt; omega) (fun y _ => ⟨Nat.zero_le _, fun h => by obtain ⟨-, cs, t', -, ht⟩ := h; simp at ht⟩)
      have hzz := T2.size
      have TT := T.trans T2
      clear hown c0 c1 c2 c3 T T2
      go_wp2_with (at_builtin; refine wpList_own rfl _ _ rfl apd_times (by decide) rfl (hown2.alloc _) ?c1 (by decide) ⟨w2.heap.size, 0, none⟩ 1 rfl (x1, x2, x3, x4) [.int .i64 x1, .int .i64 x2, .int .i64 x3, .int .i64 x4] (rep_of_time x1 x2 x3 x4) (World.news_of_block (cs := #[.int .i64 x1, .int .i64 x2, .int .i64 x3, .int .i64 x4]) (t := 49) (fr := (0, 0)) (heap_alloc_new _ _)) (by decide) (Nat.zero_le _) ?c2 ?_)
      case c1 => omega
      case c2 => rw [World.size_alloc]; omega
      intro v' w4 hown4 hgrow
      have T4' : Thrown B w1 g w4 := (TT.alloc _).grown hgrow (fun y hy => (hown2.lt y hy).1)
      have bG4 : Box4 w4 gb (.int .i64 d) (.int .i64 s) (.int .i64 b) (.int .i64 m) := by
        obtain ⟨e0, e1, e2, e3⟩ := bG2.alloc (.cells #[.int .i64 x1, .int .i64 x2, .int .i64 x3, .int .i64 x4] 49)
        have hne : some gb ≠ u9.ownBlock := fun e => by have := (hown2.lt gb e.symm).1; omega
        exact ⟨cell_grown e0 hgrow hne, cell_grown e1 hgrow hne, cell_grown e2 hgrow hne, cell_grown e3 hgrow hne⟩
      have hts' : ∀ t ∈ ts ++ [(x1, x2, x3, x4)], TimeB N d s t.1 t.2.1 t.2.2.1 t.2.2.2 := fun t ht => by
        rcases List.mem_append.1 ht with h | h
        · exact hts t h
        · simp at h; subst h; exact hT
      clear hown2 hgrow TT bG2
      go_wp2
      go_roundw
      case rel => exact ⟨k, ts ++ [(x1, x2, x3, x4)], by go_num, by simp; omega, hts', hown4, T4', bG4⟩
      case measure => first | (simp [intOf]; done) | (simp [intOf]; omega)
    · obtain rfl : k = 0 := by omega
      have hfin := hide (hown.lower (C := w.heap.size) (by have := TW.size; omega))
      have TF := TW.trans T
      clear bGr hown T
      go_wp2
      go_ret
      exact ⟨u9, ts, rfl, ⟨by omega, hts⟩, hfin.out, TF⟩
end Go.Proofs.YtimcdikeajbabaaGreatDoor

namespace Go.Proofs.YtimcdikeajbabaaGreatDoor
open Go.RowKit
set_option maxRecDepth 100000

def peopleL : List ByteArray := [⟨#[97, 100, 97]⟩, ⟨#[98, 111, 98]⟩, ⟨#[99, 121]⟩]
theorem ppl_of {L : List (String × DataW Unit)} {W : World} (hL : laidMetH Tryz.prog L W) (hplain : (L.all fun x => x.2.handleName?.isNone) = true)
    (hw : (L.filter fun x => x.1 == "timetable/timetablemade.people") = [("timetable/timetablemade.people", Rows.laid_timetable_timetablemade_people)]) : StrsVar W.heap.size 0 peopleL W := by
  rw [MakeChecks.laidMetH_plain _ _ _ hplain] at hL
  have h := laidMet.filter (fun x => x.1 == "timetable/timetablemade.people") hL
  rw [hw] at h
  exact strsVar_of_head (zs := peopleL) (rest := []) (g := 0) (t := 44) (e := 9) (by simp [peopleL]) (by kernel_rfl) (by kernel_rfl) Tryz.underlying44 Tryz.underlying9 (by kernel_rfl) h
/-- Lecturers that were made. -/
def StaffMade (N : Nat) (d s : Int) (ls : List Lect) : Prop := ls.length ≤ 3 ∧ ∀ (j : Nat) (l : Lect), ls[j]? = some l → peopleL[j]? = some l.1 ∧ TimesMade N d s 2 l.2
theorem Own.thrown {α : Type} {K : Kind α} {t : TypeId} {ts : List TypeId} {B B0 C g : Nat} {w w' : World} {v : Value} {l : List α} (h : Own K t ts B0 C w v l) (T : Thrown B w g w') (hg : g < C) (hB : B0 ≤ g) : Own K t ts B0 C w' v l :=
  h.kept T.only (by
    cases hv : v.ownBlock with
    | none => exact .inl rfl
    | some y => exact .inr fun e => by injection e with e; have := (h.lt y hv).1; omega) (fun y hy => by injection hy with hy; subst hy; exact ⟨hB, fun h => by have := h.1; omega⟩)
/-- What stays while a lecturer is made. -/
structure StaffSt (B : Nat) (w1 : World) (g gb pb po pc q : Nat) (z : ByteArray) (d s b m : Int) (u : Value) (ls : List Lect) (V : World) : Prop where
  thrown : Thrown B w1 g V
  own : Own kLect 80 [49] 0 w1.heap.size V u ls
  cells : Cn6 (0) 0 (.slice (some ⟨pb, po, none⟩) 3 pc) pb (po + q) (.string z) gb 0 (.int .i64 d) gb 1 (.int .i64 s) gb 2 (.int .i64 b) gb 3 (.int .i64 m) V
section
variable {B : Nat} {w1 V V' : World} {g gb pb po pc q : Nat} {z : ByteArray} {d s b m : Int} {u : Value} {ls : List Lect}
theorem StaffSt.later (h : StaffSt B w1 g gb pb po pc q z d s b m u ls V) (hb : Below V.heap.size V V') : StaffSt B w1 g gb pb po pc q z d s b m u ls V' := ⟨h.thrown.later hb, h.own.later hb, h.cells.later hb⟩
theorem StaffSt.alloc (h : StaffSt B w1 g gb pb po pc q z d s b m u ls V) (o : Obj) : StaffSt B w1 g gb pb po pc q z d s b m u ls (V.alloc o) := h.later (ext_alloc (Below.refl _ _) _)
theorem StaffSt.drew (h : StaffSt B w1 g gb pb po pc q z d s b m u ls V) : StaffSt B w1 g gb pb po pc q z d s b m u ls V.drew := h.later (ext_drew (Below.refl _ _))
theorem StaffSt.on (h : StaffSt B w1 g gb pb po pc q z d s b m u ls V) (T : Thrown B V g V') (h1 : 0 ≠ g) (h2 : pb ≠ g) (h3 : gb ≠ g) : StaffSt B w1 g gb pb po pc q z d s b m u ls V' :=
  ⟨h.thrown.trans T, h.own.thrown T h.thrown.lt (Nat.zero_le _), h.cells.only T.only h1 h2 h3 h3 h3 h3⟩
end
def DStaff (B N : Nat) (d s : Int) (w : World) (g : Nat) (e : Ending) (w' : World) : Prop :=
  ∃ v ls, e = .returned v ∧ StaffMade N d s ls ∧ Own kLect 80 [49] 0 w.heap.size w' v ls ∧ Thrown B w g w'
def DSLoop (B N : Nat) (d s b m : Int) (w1 : World) (g gb : Nat) (v i : Value) (wr : World) : Prop :=
  ∃ (k : Nat) (ls : List Lect), i = .int .i64 k ∧ ls.length + k ≤ 3 ∧ StaffMade N d s ls ∧ Own kLect 80 [49] 0 w1.heap.size wr v ls ∧ Thrown B w1 g wr ∧ Box4 wr gb (.int .i64 d) (.int .i64 s) (.int .i64 b) (.int .i64 m) ∧ StrsVar B 0 peopleL wr
def NextSt (B : Nat) (w1 : World) (g gb pb po pc q : Nat) (z : ByteArray) (d s b m : Int) (u : Value) (ls : List Lect) (e : Ending) (V : World) : Prop :=
  ∃ k : Nat, e = .returned (.int .i64 (k : Int)) ∧ k ≤ 2 ∧ Cn6 (0) 0 (.slice (some ⟨pb, po, none⟩) 3 pc) pb (po + q) (.string z) gb 0 (.int .i64 d) gb 1 (.int .i64 s) gb 2 (.int .i64 b) gb 3 (.int .i64 m) V ∧ StaffSt B w1 g gb pb po pc q z d s b m u ls V
def TimesSt (B N : Nat) (w1 : World) (g gb pb po pc q : Nat) (z : ByteArray) (d s b m : Int) (u : Value) (ls : List Lect) (e : Ending) (V : World) : Prop :=
  ∃ A' c' ts, e = .returned (.slice A' ts.length c') ∧ TimesMade N d s 2 ts ∧ Own kTime 49 [] 0 w1.heap.size V (.slice A' ts.length c') ts ∧ Cn6 (0) 0 (.slice (some ⟨pb, po, none⟩) 3 pc) pb (po + q) (.string z) gb 0 (.int .i64 d) gb 1 (.int .i64 s) gb 2 (.int .i64 b) gb 3 (.int .i64 m) V ∧ StaffSt B w1 g gb pb po pc q z d s b m u ls V
set_option maxHeartbeats 8000000 in
theorem dstaff_walk (B g : Nat) (d s b m : Int) (N : Nat) (hd : 1 ≤ d ∧ d ≤ 1000) (hs : 1 ≤ s ∧ s ≤ 1000) (hN1 : 1 ≤ N) (hN : N ≤ 20) (w : World) (h : DiceOk B w g) (hP : StrsVar B 0 peopleL w) :
    Calls Tryz.prog 20 #[.pointer (some ⟨g, 0, none⟩), .agg #[.int .i64 d, .int .i64 s, .int .i64 b, .int .i64 m], .int .i64 N] w fun e w' => DStaff B N d s w g e w' := by
  have hlt := h.lt
  have hBg := h.1
  have bG := Box4.new w 24 (.int .i64 d) (.int .i64 s) (.int .i64 b) (.int .i64 m)
  have hb0 : Below w.heap.size w (w.alloc (.cells #[.int .i64 d, .int .i64 s, .int .i64 b, .int .i64 m] 24)) := (by repeat (first | exact Below.refl _ _ | refine ext_alloc ?_ _ | refine ext_drewN ?_ _ | refine ext_drew ?_ | refine ext_trans ?_ (by assumption)))
  have h0 := h.later hb0
  have hP0 := hP.below (hb0.mono (by omega))
  obtain ⟨gb, hgb⟩ : ∃ gb, w.heap.size = gb := ⟨_, rfl⟩
  obtain ⟨W, hW⟩ : ∃ W, w.alloc (.cells #[.int .i64 d, .int .i64 s, .int .i64 b, .int .i64 m] 24) = W := ⟨_, rfl⟩
  rw [hW] at bG hb0 h0 hP0
  rw [hgb] at bG hlt
  have hgl := bG.lt
  have hz0 := hb0.size
  replace hgb := hide hgb
  replace hW := hide hW
  clear h hP
  go_enter Tryz.func20, Tryz.ntmps20
  go_wp2_with fail
  rw [hW.out, hgb.out]
  refine (next_walk B g 4 (by omega) W h0).mono ?_
  rintro e w1 ⟨v, rfl, p1, q1, -, T1, -⟩
  have q1 := q1 (by omega)
  obtain ⟨v, rfl⟩ := Int.eq_ofNat_of_zero_le p1
  have bG1 := T1.box (by omega) bG
  have hz1 := T1.size
  have D1 := T1.dice
  have hP1 := hP0.below (T1.below hBg)
  have TW : Thrown B w g w1 := ⟨by have := hgb.out; omega, T1.dice, ((only_of_below hb0 _).trans T1.only)⟩
  clear h0 bG hP0
  go_wp2_with fail
  try rw [hgb.out]
  go_loopw [7, 8] (fun v i wr => DSLoop B N d s b m w1 g gb v i wr) (fun _ i _ => (intOf i).toNat)
  case atStart => exact ⟨v, [], rfl, by simp; omega, ⟨by simp, fun j l h => by simp at h⟩, Own.nil, Thrown.refl D1, bG1, hP1⟩
  case round =>
    obtain ⟨k, ls, rfl, hk, hmade, hown, T, bGr, hPr⟩ := hrel
    by_cases hk0 : 0 < k
    · obtain ⟨k, rfl⟩ : ∃ k', k = k' + 1 := ⟨k - 1, by omega⟩
      have hk1 : (0 : Int) < ((k + 1 : Nat) : Int) := by omega
      obtain ⟨A7, c7, rfl⟩ := hown.form
      obtain ⟨q, hq⟩ : ∃ q, ls.length = q := ⟨_, rfl⟩
      obtain ⟨z, hz⟩ : ∃ z, peopleL[q]? = some z := ⟨_, List.getElem?_eq_getElem (by show q < 3; omega)⟩
      obtain ⟨pb, po, pc, v0, hpb, hpg, hpz⟩ := hPr
      have v1 := hpz q z hz
      have hown' := hown
      rw [hq] at hown' hk ⊢
      obtain ⟨u, hu⟩ : ∃ u, Value.slice A7 q c7 = u := ⟨_, rfl⟩
      have hst : StaffSt B w1 g gb pb po pc q z d s b m (.slice A7 q c7) ls wr := ⟨T, hown', v0, v1, bGr.c0, bGr.c1, bGr.c2, bGr.c3⟩
      have hC := hst.cells
      have hCd := hC.drew
      have hstd := hst.drew
      have hl9 : ls.length ≤ 4000000000 := by omega
      have hgr := bGr.lt
      have hpr : pb < wr.heap.size := cell_lt v1
      have hpgr : 0 < wr.heap.size := cell_lt v0
      have hnext := hide (fun (V : World) (hV : StaffSt B w1 g gb pb po pc q z d s b m (.slice A7 q c7) ls V) => (next_walk B g 3 (by omega) V hV.thrown.dice).mono fun e V' ⟨v, he, p, q', _, T', _⟩ => (by
        obtain ⟨v, rfl⟩ := Int.eq_ofNat_of_zero_le p
        have := q' (by omega)
        have hs' := hV.on T' (by omega) (by omega) (by omega)
        exact ⟨v, he, by omega, hs'.cells, hs'⟩ : NextSt B w1 g gb pb po pc q z d s b m (.slice A7 q c7) ls e V'))
      have htimes := hide (fun (V : World) (most : Nat) (hm : most ≤ 2) (hV : StaffSt B w1 g gb pb po pc q z d s b m (.slice A7 q c7) ls V) => (dtimes_walk B g d s b m N most hd hs hN1 hN (by omega) V hV.thrown.dice).mono fun e V' ⟨v, ts, he, hmd, ho, T'⟩ => (by
        obtain ⟨A', c', rfl⟩ := ho.form
        have hs' := hV.on T' (by omega) (by omega) (by omega)
        exact ⟨A', c', ts, he, ⟨by have := hmd.1; omega, hmd.2⟩, ho.lower hV.thrown.size, hs'.cells, hs'⟩ : TimesSt B N w1 g gb pb po pc q z d s b m (.slice A7 q c7) ls e V'))
      have hu7 : Hid (∀ y, (Value.slice A7 q c7).ownBlock = some y → w1.heap.size ≤ y ∧ y < wr.heap.size) := hide hown'.lt
      have hzr := T.size
      have np : Hid (some pb ≠ (Value.slice A7 q c7).ownBlock) := hide fun e => by have := (hu7.out pb e.symm).1; omega
      have ng : Hid (some gb ≠ (Value.slice A7 q c7).ownBlock) := hide fun e => by have := (hu7.out gb e.symm).1; omega
      have nq : Hid (some 0 ≠ (Value.slice A7 q c7).ownBlock) := hide fun e => by have := (hu7.out _ e.symm).1; omega
      have hq3 : q < 3 := by omega
      have hq0 : (0 : Int) ≤ (q : Int) := by omega
      have hq4 : (q : Int) < 3 := by omega
      have hmade' := hide hmade
      have hzp := hide hz
      replace hq := hide hq
      obtain ⟨e0, e1, e2, e3, e4, e5⟩ := id hC
      clear hown hown' hpz v0 v1 hz hu hmade bGr
      go_wp2_with fail
      go_region_held3 (fun W' => W'.cell? ⟨0, 0, none⟩ = some (.slice (some ⟨pb, po, none⟩) 3 pc) ∧ W'.cell? ⟨pb, po + q, none⟩ = some (.string z) ∧ W'.cell? ⟨gb, 0, none⟩ = some (.int .i64 d) ∧ W'.cell? ⟨gb, 1, none⟩ = some (.int .i64 s) ∧ W'.cell? ⟨gb, 2, none⟩ = some (.int .i64 b) ∧ W'.cell? ⟨gb, 3, none⟩ = some (.int .i64 m)) (first | ((repeat (first | (with_reducible assumption) | (with_reducible refine Cn6.alloc ?_ _) | (with_reducible refine Cn6.drew ?_) | (with_reducible refine Cn6.set ?_ ?_ ?_ ?_ ?_ ?_ ?_ _) | omega)); done)) (first | (go_at_call 18; refine (hnext.out _ (by repeat (first | (with_reducible assumption) | (with_reducible refine StaffSt.alloc ?_ _) | (with_reducible refine StaffSt.drew ?_)))).mono ?_; rintro e w2 ⟨k2, rfl, hk2, hx2, hs2⟩) | (go_at_call 43; refine (htimes.out _ k2 hk2 (by repeat (first | (with_reducible assumption) | (with_reducible refine StaffSt.alloc ?_ _) | (with_reducible refine StaffSt.drew ?_)))).mono ?_; rintro e w3 ⟨A3, c3, ts, rfl, hmd, ho3, hx3, hs3⟩) | (refine step_own (S := Cn6 (0) 0 (.slice (some ⟨pb, po, none⟩) 3 pc) pb (po + q) (.string z) gb 0 (.int .i64 d) gb 1 (.int .i64 s) gb 2 (.int .i64 b) gb 3 (.int .i64 m)) (K := kLect) (t := 80) (ts := [49]) (B0 := 0) (B := w1.heap.size) (v := .slice A7 q c7) (l := ls) rfl (.tmp 15) (.tmp 28) rfl apd_lects (by decide) (by rfl) (show StaffSt B w1 g gb pb po pc q z d s b m (.slice A7 q c7) ls _ from (by repeat (first | (with_reducible assumption) | (with_reducible refine StaffSt.alloc ?_ _) | (with_reducible refine StaffSt.drew ?_)))).own hl9 (by decide) _ _ (by rfl) (z, ts) [.string z, .slice A3 ts.length c3] ⟨[_], [_], rfl, rfl, Own.rep (by repeat (first | (with_reducible assumption) | (with_reducible refine Own.alloc ?_ _) | (with_reducible refine Own.drew ?_)))⟩ (World.news_of_block (cs := #[.string z, .slice A3 ts.length c3]) (t := 80) (fr := (0, 0)) (by first | exact heap_alloc_new _ _ | exact block_after (heap_alloc_new _ _) | exact block_after (block_after (heap_alloc_new _ _)))) (by decide) (Nat.zero_le _) (show StaffSt B w1 g gb pb po pc q z d s b m (.slice A7 q c7) ls _ from (by repeat (first | (with_reducible assumption) | (with_reducible refine StaffSt.alloc ?_ _) | (with_reducible refine StaffSt.drew ?_)))).thrown.size (fun W' hg => Cn6.grown (by repeat (first | (with_reducible assumption) | (with_reducible refine Cn6.alloc ?_ _) | (with_reducible refine Cn6.drew ?_))) hg nq.out np.out ng.out ng.out ng.out ng.out) ?_; intro gA capA w5 ho5 hg5 hs5))
      all_goals
        clear hnext htimes hC hCd hst hstd hs2 hx2 e0 e1 e2 e3 e4 e5
        have T5 : Thrown B w1 g w5 := Thrown.grown (show StaffSt B w1 g gb pb po pc q z d s b m (.slice A7 q c7) ls _ from (by repeat (first | (with_reducible assumption) | (with_reducible refine StaffSt.alloc ?_ _) | (with_reducible refine StaffSt.drew ?_)))).thrown hg5 (fun y hy => (hu7.out y hy).1)
        have hP5 : StrsVar B 0 peopleL w5 := hP1.below (T5.below hBg)
        have hb5 : Box4 w5 gb (.int .i64 d) (.int .i64 s) (.int .i64 b) (.int .i64 m) := ⟨hs5.2.2.1, hs5.2.2.2.1, hs5.2.2.2.2.1, hs5.2.2.2.2.2⟩
        have hmade5 : StaffMade N d s (ls ++ [(z, ts)]) := by
          refine ⟨by rw [List.length_append, hq.out]; simp; omega, fun j l hl => ?_⟩
          by_cases hj : j < ls.length
          · rw [List.getElem?_append_left hj] at hl
            exact hmade'.out.2 j l hl
          · have hj2 : j = q := by
              have := (List.getElem?_eq_some_iff.1 hl).1
              have := hq.out
              simp at *
              omega
            subst hj2
            rw [List.getElem?_append_right (by have := hq.out; omega)] at hl
            rw [hq.out] at hl
            simp at hl
            subst hl
            exact ⟨hzp.out, hmd⟩
        clear hg5 hs5 hx3 hs3 ho3
        go_wp2
        go_roundw
        case rel => exact ⟨k, ls ++ [(z, ts)], by go_num, by rw [List.length_append, hq.out]; simp; omega, hmade5, ho5, T5, hb5, hP5⟩
        case measure => first | (simp [intOf]; done) | (simp [intOf]; omega)
    · obtain rfl : k = 0 := by omega
      have hfin := hide (hown.lower (C := w.heap.size) (by have := TW.size; omega))
      have TF := TW.trans T
      clear bGr hown T hPr
      go_wp2
      go_ret
      exact ⟨u7, ls, rfl, hmade, hfin.out, TF⟩
end Go.Proofs.YtimcdikeajbabaaGreatDoor
