/- Walks of coursefile.Lines and coursefile.Read. Conditions: texts shorter than 2^30 bytes; what the program's variables hold. -/
import Derived.Test.YtimcdikeajbabaaGreatDoorRows
import Derived.WalkKit
import Derived.WalkSpells
import Derived.WalkLawsBesides
import Derived.BigGuardPart
import Derived.Lib.Hide
import Derived.Laws.BitsAllLaws
import Derived.Laws.BitsLemmas
import Derived.Lib.LaidTab
import Derived.Test.YtimcdikeajbabaaGreatDoorShelf
import Derived.Lib.ConvBytes
import Derived.Deep.QuietTactic
import Derived.BigQuiet
import Derived.Test.YtimcdikeajbabaaGreatDoorShelfS
import Derived.Laws.ResultCell
import Derived.RegionTactic
import Derived.BigRegion
import Derived.Deep.RegionHeld3
import Derived.Deep.DeepCutAuto
import Derived.Lib.SmallJoins
import Derived.Lib.SplitLaws
import Derived.Lib.CountLaws
import Derived.Lib.IndexMore
import Derived.Lib.Split
import Derived.Lib.Join
import Derived.Lib.ItoaNum
import Derived.Laws.AppendOwn
import Derived.Test.YtimcdikeajbabaaGreatDoorShelfT
import Derived.Lib.ItoaLen
import Derived.Lib.AppendIntMem
import Derived.Deep.AppendLies
import Derived.Lib.PathFns
import Derived.Maps.Range
import Derived.Lib.OwnBridge
import Derived.Sort.OwnSorted
import Derived.Sort.Walk0
import Derived.Test.YtimcdikeajbabaaGreatDoorCards
import Derived.Test.YtimcdikeajbabaaGreatDoorTie
import Derived.ProofKit
import Derived.OpenShut
import Derived.LaidMore
import Derived.Lay
import Derived.SevenTiedAt
import Derived.Stop.Joined
import Derived.Stop.LaidErr
import Derived.Deep.DeepHandedRow
import Derived.Lib.LaidU8
import Derived.LaidSub
import Derived.Deep.Slices
import Derived.Deep.Fields
import Derived.ChangeSame
import Derived.Shelf.SlSortCmp.NoneTotal
import Derived.Ground.SlsfProg
import Derived.Lib.SliceRun
import Derived.Lib.Walk
import Derived.RangeFuncNested
import Derived.RangeFuncBound
import Derived.RangeFuncCalls
import Derived.RangeFuncLeaves
import Derived.RangeFuncBox
import Derived.RangeFuncWrites
import Derived.Shelf.Abstract
import Derived.Shelf.RegionOpen
import Derived.OwnWalkIn
import Derived.TacticsInMore
import Derived.LoopNIn
import Derived.LoopIn
import Derived.Maps.AppendAt
import Derived.Deep.RegionLaw
import Derived.Deep.RegionLawGrows
import Derived.Test.YtimcdikeajbabaaGreatDoorUStaffB
import Derived.Test.YtimcdikeajbabaaGreatDoorUKRead
namespace Go.Proofs.YtimcdikeajbabaaGreatDoor
open Go.RowKit
set_option maxRecDepth 100000

def clssRead (d sl b m n : Int) (rs : List Rec) : List Cls × List Prob :=
  if weekB d sl b m n then ((readCls d sl n rs).ls, (readCls d sl n rs).ps) else ([], [(0, 0, 1)])
abbrev ClssOwn (B : Nat) (w : World) (v : Value) (l : List Cls) : Prop := Own kCls 47 clsTs 0 B w v l
def ClsLines (d sl b m n : Int) (rs : List Rec) (w : World) (e : Ending) (w' : World) : Prop :=
  ∃ v6 v7 v8, e = .returned (.tuple #[v6, v7, v8]) ∧ ClssOwn w.heap.size w' v6 (clssRead d sl b m n rs).1 ∧ ProbsOwn w.heap.size w' v8 (clssRead d sl b m n rs).2 ∧ Below w.heap.size w w'
set_option maxHeartbeats 4000000 in
theorem klines_walk (d sl b m n : Int) (A : Option Addr) (rs : List Rec) (cap : Nat) (w : World) (hS : Std w) (hR : RecsAt w.heap.size w A rs) (hN : rs.length ≤ 4000000000000) (hs : ∀ r ∈ rs, ∀ f ∈ r.2, f.1.size < 1073741824) :
    Calls Tryz.prog 36 #[.slice A rs.length cap, .agg #[.int .i64 d, .int .i64 sl, .int .i64 b, .int .i64 m], .int .i64 n] w fun e w' => ClsLines d sl b m n rs w e w' := by
  have hb0 : Below w.heap.size w ((w.alloc (.cells #[.int .i64 d, .int .i64 sl, .int .i64 b, .int .i64 m] 24)).alloc (.cells #[.int .i64 n] 3)) := (by repeat (first | exact Below.refl _ _ | refine ext_alloc ?_ _ | refine ext_drewN ?_ _ | refine ext_drew ?_ | refine ext_trans ?_ (by assumption)))
  have bG := (Box4.new w 24 (.int .i64 d) (.int .i64 sl) (.int .i64 b) (.int .i64 m)).alloc (.cells #[.int .i64 n] 3)
  have bN : ((w.alloc (.cells #[.int .i64 d, .int .i64 sl, .int .i64 b, .int .i64 m] 24)).alloc (.cells #[.int .i64 n] 3)).cell? ⟨w.heap.size + 1, 0, none⟩ = some (.int .i64 n) := by
    have := (show ((w.alloc (.cells #[.int .i64 d, .int .i64 sl, .int .i64 b, .int .i64 m] 24)).alloc (.cells #[.int .i64 n] 3)).cell? ⟨(w.alloc (.cells #[.int .i64 d, .int .i64 sl, .int .i64 b, .int .i64 m] 24)).heap.size, 0, none⟩ = some (.int .i64 n) by simp)
    rw [World.size_alloc] at this
    exact this
  obtain ⟨W, hW⟩ : ∃ W, (w.alloc (.cells #[.int .i64 d, .int .i64 sl, .int .i64 b, .int .i64 m] 24)).alloc (.cells #[.int .i64 n] 3) = W := ⟨_, rfl⟩
  rw [hW] at hb0 bG bN
  obtain ⟨N, hN'⟩ : ∃ N, rs.length = N := ⟨_, rfl⟩
  have hSW := hS.after hb0
  replace hW := hide hW
  cases hw : weekB d sl b m n
  · have e1 : clssRead d sl b m n rs = ([], [(0, 0, 1)]) := by unfold clssRead; rw [hw]; rfl
    rw [hN']
    go_enter Tryz.func36, Tryz.ntmps36
    go_wp2_with fail
    rw [hW.out]
    refine (tgWeek_walk d sl b m n W).mono ?_
    rintro e w1 ⟨rfl, hb1⟩
    rw [hw]
    have hb := ext_trans hb0 hb1
    clear hW hb0 hb1 bG bN hSW hS hR hs
    go_wp2_with fail
    refine (invalid_walk w1).mono ?_
    rintro e w2 ⟨v, rfl, hp, hb2⟩
    go_wp2
    go_ret3
    exact ⟨_, _, _, rfl, by rw [e1]; exact Own.nil, by rw [e1]; exact owns_lower hp hb.size, ext_trans hb hb2⟩
  · have e1 : clssRead d sl b m n rs = ((readCls d sl n rs).ls, (readCls d sl n rs).ps) := by unfold clssRead; rw [hw]; rfl
    rw [hN']
    go_enter Tryz.func36, Tryz.ntmps36
    go_wp2_with fail
    rw [hW.out]
    refine (tgWeek_walk d sl b m n W).mono ?_
    rintro e w1 ⟨rfl, hb1⟩
    rw [hw]
    have hb := ext_trans hb0 hb1
    have hC : Cl w.heap.size (w.heap.size + 1) d sl b m n w1 := by
      obtain ⟨g0, g1, g2, g3⟩ := bG
      exact ⟨cell_later hb1 g0, cell_later hb1 g1, cell_later hb1 g2, cell_later hb1 g3, cell_later hb1 bN⟩
    have hR1 := (hR.below hb).more hb.size
    have hcall := kread_walk w.heap.size (w.heap.size + 1) d sl b m n A rs cap w1 (hSW.after hb1) hC hR1 hN hs (by have := week_bd hw; omega)
    rw [hN'] at hcall
    clear hW hb0 hb1 bG bN hSW hS hR hs hR1 hC
    go_wp2_with fail
    refine hcall.mono ?_
    rintro e w2 ⟨v6, v7, v8, rfl, hG⟩
    have hL := hG.own
    have hP := hG.ps
    have hb2 := hG.below
    clear hcall
    go_wp2
    go_ret3
    exact ⟨_, _, _, rfl, by rw [e1]; exact hL.lower hb.size, by rw [e1]; exact owns_lower hP hb.size, ext_trans hb hb2⟩
def ClsReads (d sl b m n : Int) (rs : List Rec) (w : World) (e : Ending) (w' : World) : Prop :=
  ∃ v6 v8, e = .returned (.tuple #[v6, v8]) ∧ ClssOwn w.heap.size w' v6 (clssRead d sl b m n rs).1 ∧ ProbsOwn w.heap.size w' v8 (clssRead d sl b m n rs).2 ∧ Below w.heap.size w w'
set_option maxHeartbeats 4000000 in
theorem kfread_walk (d sl b m n : Int) (A : Option Addr) (rs : List Rec) (cap : Nat) (w : World) (hS : Std w) (hR : RecsAt w.heap.size w A rs) (hN : rs.length ≤ 4000000000000) (hs : ∀ r ∈ rs, ∀ f ∈ r.2, f.1.size < 1073741824) :
    Calls Tryz.prog 9 #[.slice A rs.length cap, .agg #[.int .i64 d, .int .i64 sl, .int .i64 b, .int .i64 m], .int .i64 n] w fun e w' => ClsReads d sl b m n rs w e w' := by
  have hb0 : Below w.heap.size w (w.alloc (.cells #[.int .i64 d, .int .i64 sl, .int .i64 b, .int .i64 m] 24)) := (by repeat (first | exact Below.refl _ _ | refine ext_alloc ?_ _ | refine ext_drewN ?_ _ | refine ext_drew ?_ | refine ext_trans ?_ (by assumption)))
  have hcall := klines_walk d sl b m n A rs cap _ (hS.after hb0) ((hR.below hb0).more hb0.size) hN hs
  obtain ⟨N, hN'⟩ : ∃ N, rs.length = N := ⟨_, rfl⟩
  rw [hN'] at hcall ⊢
  clear hR hs hS
  go_enter Tryz.func9, Tryz.ntmps9
  go_wp2_with fail
  refine hcall.mono ?_
  rintro e w2 ⟨v6, v7, v8, rfl, hL, hP, hb2⟩
  clear hcall
  go_wp2
  go_ret2
  exact ⟨_, _, rfl, hL.lower hb0.size, owns_lower hP hb0.size, ext_trans hb0 hb2⟩
end Go.Proofs.YtimcdikeajbabaaGreatDoor
