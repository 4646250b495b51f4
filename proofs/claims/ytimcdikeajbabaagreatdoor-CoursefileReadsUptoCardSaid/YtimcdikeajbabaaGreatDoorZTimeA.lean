/- Walks of coursefile.Lines and coursefile.Read. Conditions: texts shorter than 2^30 bytes; what the program's variables hold. Walks of timetableref10.ReadLines and Read. Conditions: texts shorter than 2^30 bytes; what the program's variables hold. Appending a time. No condition. -/
import Derived.Test.YtimcdikeajbabaaGreatDoorRows
import Derived.WalkKit
import Derived.WalkSpells
import Derived.WalkLawsBesides
import Derived.BigGuardPart
import Derived.Lib.Hide
import Derived.Laws.BitsAllLaws
import Derived.Laws.BitsLemmas
import Derived.Lib.LaidTab
import Derived.Test.YtimcdikeajbabaaGreatDoorShelf
import Derived.Lib.ConvBytes
import Derived.Deep.QuietTactic
import Derived.BigQuiet
import Derived.Test.YtimcdikeajbabaaGreatDoorShelfS
import Derived.Laws.ResultCell
import Derived.RegionTactic
import Derived.BigRegion
import Derived.Deep.RegionHeld3
import Derived.Deep.DeepCutAuto
import Derived.Lib.SmallJoins
import Derived.Lib.SplitLaws
import Derived.Lib.CountLaws
import Derived.Lib.IndexMore
import Derived.Lib.Split
import Derived.Lib.Join
import Derived.Lib.ItoaNum
import Derived.Laws.AppendOwn
import Derived.Test.YtimcdikeajbabaaGreatDoorShelfT
import Derived.Lib.ItoaLen
import Derived.Lib.AppendIntMem
import Derived.Deep.AppendLies
import Derived.Lib.PathFns
import Derived.Maps.Range
import Derived.Lib.OwnBridge
import Derived.Sort.OwnSorted
import Derived.Sort.Walk0
import Derived.Test.YtimcdikeajbabaaGreatDoorCards
import Derived.Test.YtimcdikeajbabaaGreatDoorTie
import Derived.ProofKit
import Derived.OpenShut
import Derived.LaidMore
import Derived.Lay
import Derived.SevenTiedAt
import Derived.Stop.Joined
import Derived.Stop.LaidErr
import Derived.Deep.DeepHandedRow
import Derived.Lib.LaidU8
import Derived.LaidSub
import Derived.Deep.Slices
import Derived.Deep.Fields
import Derived.ChangeSame
import Derived.Shelf.SlSortCmp.NoneTotal
import Derived.Ground.SlsfProg
import Derived.Lib.SliceRun
import Derived.Lib.Walk
import Derived.RangeFuncNested
import Derived.RangeFuncBound
import Derived.RangeFuncCalls
import Derived.RangeFuncLeaves
import Derived.RangeFuncBox
import Derived.RangeFuncWrites
import Derived.Shelf.Abstract
import Derived.Shelf.RegionOpen
import Derived.OwnWalkIn
import Derived.TacticsInMore
import Derived.LoopNIn
import Derived.LoopIn
import Derived.Maps.AppendAt
import Derived.Deep.RegionLaw
import Derived.Deep.RegionLawGrows
import Derived.Test.YtimcdikeajbabaaGreatDoorZStaffB
import Derived.Test.YtimcdikeajbabaaGreatDoorZKRead
import Derived.Test.YtimcdikeajbabaaGreatDoorZKOneR
import Derived.Test.YtimcdikeajbabaaGreatDoorZSameL
import Derived.Test.YtimcdikeajbabaaGreatDoorZROneP
namespace Go.Proofs.YtimcdikeajbabaaGreatDoor
open Go.RowKit
set_option maxRecDepth 100000

def clssRead (d sl b m n : Int) (rs : List Rec) : List Cls × List Prob :=
  if weekB d sl b m n then ((readCls d sl n rs).ls, (readCls d sl n rs).ps) else ([], [(0, 0, 1)])
abbrev ClssOwn (B : Nat) (w : World) (v : Value) (l : List Cls) : Prop := Own kCls 47 clsTs 0 B w v l
def ClsLines (d sl b m n : Int) (rs : List Rec) (w : World) (e : Ending) (w' : World) : Prop :=
  ∃ v6 v7 v8, e = .returned (.tuple #[v6, v7, v8]) ∧ ClssOwn w.heap.size w' v6 (clssRead d sl b m n rs).1 ∧ ProbsOwn w.heap.size w' v8 (clssRead d sl b m n rs).2 ∧ Below w.heap.size w w'
set_option maxHeartbeats 4000000 in
theorem klines_walk (d sl b m n : Int) (A : Option Addr) (rs : List Rec) (cap : Nat) (w : World) (hS : Std w) (hR : RecsAt w.heap.size w A rs) (hN : rs.length ≤ 4000000000000) (hs : ∀ r ∈ rs, ∀ f ∈ r.2, f.1.size < 1073741824) :
    Calls Tryz.prog 36 #[.slice A rs.length cap, .agg #[.int .i64 d, .int .i64 sl, .int .i64 b, .int .i64 m], .int .i64 n] w fun e w' => ClsLines d sl b m n rs w e w' := by
  have hb0 : Below w.heap.size w ((w.alloc (.cells #[.int .i64 d, .int .i64 sl, .int .i64 b, .int .i64 m] 24)).alloc (.cells #[.int .i64 n] 3)) := (by repeat (first | exact Below.refl _ _ | refine ext_alloc ?_ _ | refine ext_drewN ?_ _ | refine ext_drew ?_ | refine ext_trans ?_ (by assumption)))
  have bG := (Box4.new w 24 (.int .i64 d) (.int .i64 sl) (.int .i64 b) (.int .i64 m)).alloc (.cells #[.int .i64 n] 3)
  have bN : ((w.alloc (.cells #[.int .i64 d, .int .i64 sl, .int .i64 b, .int .i64 m] 24)).alloc (.cells #[.int .i64 n] 3)).cell? ⟨w.heap.size + 1, 0, none⟩ = some (.int .i64 n) := by
    have := (show ((w.alloc (.cells #[.int .i64 d, .int .i64 sl, .int .i64 b, .int .i64 m] 24)).alloc (.cells #[.int .i64 n] 3)).cell? ⟨(w.alloc (.cells #[.int .i64 d, .int .i64 sl, .int .i64 b, .int .i64 m] 24)).heap.size, 0, none⟩ = some (.int .i64 n) by simp)
    rw [World.size_alloc] at this
    exact this
  obtain ⟨W, hW⟩ : ∃ W, (w.alloc (.cells #[.int .i64 d, .int .i64 sl, .int .i64 b, .int .i64 m] 24)).alloc (.cells #[.int .i64 n] 3) = W := ⟨_, rfl⟩
  rw [hW] at hb0 bG bN
  obtain ⟨N, hN'⟩ : ∃ N, rs.length = N := ⟨_, rfl⟩
  have hSW := hS.after hb0
  replace hW := hide hW
  cases hw : weekB d sl b m n
  · have e1 : clssRead d sl b m n rs = ([], [(0, 0, 1)]) := by unfold clssRead; rw [hw]; rfl
    rw [hN']
    go_enter Tryz.func36, Tryz.ntmps36
    go_wp2_with fail
    rw [hW.out]
    refine (tgWeek_walk d sl b m n W).mono ?_
    rintro e w1 ⟨rfl, hb1⟩
    rw [hw]
    have hb := ext_trans hb0 hb1
    clear hW hb0 hb1 bG bN hSW hS hR hs
    go_wp2_with fail
    refine (invalid_walk w1).mono ?_
    rintro e w2 ⟨v, rfl, hp, hb2⟩
    go_wp2
    go_ret3
    exact ⟨_, _, _, rfl, by rw [e1]; exact Own.nil, by rw [e1]; exact owns_lower hp hb.size, ext_trans hb hb2⟩
  · have e1 : clssRead d sl b m n rs = ((readCls d sl n rs).ls, (readCls d sl n rs).ps) := by unfold clssRead; rw [hw]; rfl
    rw [hN']
    go_enter Tryz.func36, Tryz.ntmps36
    go_wp2_with fail
    rw [hW.out]
    refine (tgWeek_walk d sl b m n W).mono ?_
    rintro e w1 ⟨rfl, hb1⟩
    rw [hw]
    have hb := ext_trans hb0 hb1
    have hC : Cl w.heap.size (w.heap.size + 1) d sl b m n w1 := by
      obtain ⟨g0, g1, g2, g3⟩ := bG
      exact ⟨cell_later hb1 g0, cell_later hb1 g1, cell_later hb1 g2, cell_later hb1 g3, cell_later hb1 bN⟩
    have hR1 := (hR.below hb).more hb.size
    have hcall := kread_walk w.heap.size (w.heap.size + 1) d sl b m n A rs cap w1 (hSW.after hb1) hC hR1 hN hs (by have := week_bd hw; omega)
    rw [hN'] at hcall
    clear hW hb0 hb1 bG bN hSW hS hR hs hR1 hC
    go_wp2_with fail
    refine hcall.mono ?_
    rintro e w2 ⟨v6, v7, v8, rfl, hG⟩
    have hL := hG.own
    have hP := hG.ps
    have hb2 := hG.below
    clear hcall
    go_wp2
    go_ret3
    exact ⟨_, _, _, rfl, by rw [e1]; exact hL.lower hb.size, by rw [e1]; exact owns_lower hP hb.size, ext_trans hb hb2⟩
def ClsReads (d sl b m n : Int) (rs : List Rec) (w : World) (e : Ending) (w' : World) : Prop :=
  ∃ v6 v8, e = .returned (.tuple #[v6, v8]) ∧ ClssOwn w.heap.size w' v6 (clssRead d sl b m n rs).1 ∧ ProbsOwn w.heap.size w' v8 (clssRead d sl b m n rs).2 ∧ Below w.heap.size w w'
set_option maxHeartbeats 4000000 in
theorem kfread_walk (d sl b m n : Int) (A : Option Addr) (rs : List Rec) (cap : Nat) (w : World) (hS : Std w) (hR : RecsAt w.heap.size w A rs) (hN : rs.length ≤ 4000000000000) (hs : ∀ r ∈ rs, ∀ f ∈ r.2, f.1.size < 1073741824) :
    Calls Tryz.prog 9 #[.slice A rs.length cap, .agg #[.int .i64 d, .int .i64 sl, .int .i64 b, .int .i64 m], .int .i64 n] w fun e w' => ClsReads d sl b m n rs w e w' := by
  have hb0 : Below w.heap.size w (w.alloc (.cells #[.int .i64 d, .int .i64 sl, .int .i64 b, .int .i64 m] 24)) := (by repeat (first | exact Below.refl _ _ | refine ext_alloc ?_ _ | refine ext_drewN ?_ _ | refine ext_drew ?_ | refine ext_trans ?_ (by assumption)))
  have hcall := klines_walk d sl b m n A rs cap _ (hS.after hb0) ((hR.below hb0).more hb0.size) hN hs
  obtain ⟨N, hN'⟩ : ∃ N, rs.length = N := ⟨_, rfl⟩
  rw [hN'] at hcall ⊢
  clear hR hs hS
  go_enter Tryz.func9, Tryz.ntmps9
  go_wp2_with fail
  refine hcall.mono ?_
  rintro e w2 ⟨v6, v7, v8, rfl, hL, hP, hb2⟩
  clear hcall
  go_wp2
  go_ret2
  exact ⟨_, _, rfl, hL.lower hb0.size, owns_lower hP hb0.size, ext_trans hb0 hb2⟩
end Go.Proofs.YtimcdikeajbabaaGreatDoor

namespace Go.Proofs.YtimcdikeajbabaaGreatDoor
open Go.RowKit
set_option maxRecDepth 100000

theorem kdrewA {W w2 : World} (h : Below W.drew.heap.size W.drew w2) : Below W.heap.size W w2 := (ext_drew (Below.refl _ _)).trans h
theorem kdrewB {W w2 : World} {o : Obj} (h : Below (W.alloc o).drew.heap.size (W.alloc o).drew w2) : Below W.heap.size W w2 := (ext_drew (ext_alloc (Below.refl _ _) o)).trans (h.mono (by show W.heap.size ≤ (W.alloc o).heap.size; rw [World.size_alloc]; omega))
section
variable {w0 W W' : World} {u6 u7 u8 : Value} {ls : List Cls} {lines : List Int} {ps : List Prob}
theorem wpk_ls {ops : Array Oper} {rest : List Oper} {o : Oper} {a : Act} {Q : Exit → Act → World → Prop} (hgd : o.guard = none) (s x : Operand)
    (ho : o.op = .call { callee := .builtin .append, args := #[s, x], argTypes := #[29, 29] }) (hs : a.eval s = u6) (h : GK w0 u6 u7 u8 ls lines ps W) (hl : ls.length ≤ 100000)
    (ad : Addr) (c : Nat) (hx : a.eval x = .slice (some ad) 1 c) (e : Cls) (vs : List Value) (hrep : kCls.rep (Off clsTs w0.heap.size u7 W) W e vs) (hnews : ∀ j u, vs[j]? = some u → W.cell? (ad.add j) = some u)
    (hk : ∀ g cap w', GK w0 (.slice (some ⟨g, 0, none⟩) (ls.length + 1) cap) u7 u8 (ls ++ [e]) lines ps w' → w'.heap.size = w'.heap.size → wpList Tryz.prog ops Q rest (a.put o.dst (.slice (some ⟨g, 0, none⟩) (ls.length + 1) cap)) w') : wpList Tryz.prog ops Q (o :: rest) a W := by
  obtain ⟨i, z, hi, hz, h1, h2, h3⟩ := apd_clss.i
  obtain ⟨vss, e1, e2, e3⟩ := h.ls
  refine wpList_append_lies W hgd s x 29 ho w0.heap.size 47 i z 9 160 apd_clss.u hi hz h1 h2 h3 (by decide) u6 ls.length vss.flatten hs e2 ad 1 c vs hx (by rw [kCls.len hrep]; rfl) hnews (kCls.one hrep) (by omega) (by unfold maxLen; omega) (by omega) h.below.size W.heap.size rfl fun g cap w' hn hg _ _ => hk g cap w' ⟨?_, h.ins.grown e2 (Nat.zero_le _) hg (by decide) (by simp), World.ownsRow.kept h.ps hg (own_ne h.ps e2 (by decide)), Below.grown h.below hg h.below.size (fun j hj => (e2.lt j hj).1)⟩ rfl
  have hk : ∀ {a : Cls} {us : List Value}, kCls.rep (Off clsTs w0.heap.size u7 W) W a us → kCls.rep (Off clsTs w0.heap.size u7 w') w' a us := fun h => kCls.kept h fun b hb hlt => by
    have hbb := hg.block b hlt (tyAt_far e2 hb.1.2 (by decide))
    exact ⟨hb.same hbb, Nat.lt_of_lt_of_le hlt hg.size, hbb⟩
  refine ⟨vss ++ [vs], by simp [e1], ?_, fun j y us hj hv => ?_⟩
  · rw [show (vss ++ [vs]).flatten = vss.flatten ++ vs from by simp, show (ls ++ [e]).length = ls.length + 1 from by simp]
    exact hn
  · rcases Nat.lt_or_ge j ls.length with hlt | hge
    · rw [List.getElem?_append_left hlt] at hj
      rw [List.getElem?_append_left (by omega)] at hv
      exact hk (e3 j y us hj hv)
    · rw [List.getElem?_append_right hge] at hj
      rw [List.getElem?_append_right (by omega)] at hv
      have hj0 : j - ls.length = 0 := by
        have := (List.getElem?_eq_some_iff.1 hj).1
        simp at this; omega
      rw [hj0] at hj
      rw [e1, hj0] at hv
      simp at hj hv
      subst hj hv
      exact hk hrep
theorem wpk_ins {ops : Array Oper} {rest : List Oper} {o : Oper} {a : Act} {Q : Exit → Act → World → Prop} (hgd : o.guard = none) (s x : Operand)
    (ho : o.op = .call { callee := .builtin .append, args := #[s, x], argTypes := #[36, 36] }) (hs : a.eval s = u7) (h : GK w0 u6 u7 u8 ls lines ps W) (hl : lines.length ≤ 100000)
    (ad : Addr) (c : Nat) (hx : a.eval x = .slice (some ad) 1 c) (e : Int) (hnews : ∀ j u, [Value.int .i64 e][j]? = some u → W.cell? (ad.add j) = some u)
    (hk : ∀ g cap w', GK w0 u6 (.slice (some ⟨g, 0, none⟩) (lines.length + 1) cap) u8 ls (lines ++ [e]) ps w' → w'.heap.size = w'.heap.size → wpList Tryz.prog ops Q rest (a.put o.dst (.slice (some ⟨g, 0, none⟩) (lines.length + 1) cap)) w') : wpList Tryz.prog ops Q (o :: rest) a W := by
  obtain ⟨i, z, hi, hz, h1, h2, h3⟩ := apd_intsG.i
  obtain ⟨vss, e1, e2, e3⟩ := h.ins
  refine wpList_append_lies W hgd s x 36 ho w0.heap.size 3 i z 1 8 apd_intsG.u hi hz h1 h2 h3 (by decide) u7 lines.length vss.flatten hs e2 ad 1 c [.int .i64 e] hx rfl hnews (kInt.one (S := AnyB) (w := W) (a := e) rfl) (by omega) (by unfold maxLen; omega) (by omega) h.below.size W.heap.size rfl fun g cap w' hn hg hwh _ => hk g cap w' ⟨?_, Own.snoc vss e1 e2 e3 rfl (by simp) (Nat.zero_le _) hg hn, World.ownsRow.kept h.ps hg (own_ne h.ps e2 (by decide)), Below.grown h.below hg h.below.size (fun j hj => (e2.lt j hj).1)⟩ rfl
  refine h.ls.kept hg ?_ fun b hb hlt => ⟨hb.2, fun hbb => ⟨⟨hb.1.1, tyAt_same hb.1.2 hbb⟩, fun e => ?_⟩⟩
  · obtain ⟨vss', -, e2', -⟩ := h.ls
    exact own_ne e2' e2 (by decide)
  · have e : b = g := by simpa [Value.ownBlock] using e
    subst e
    rcases hwh with h4 | h4
    · exact hb.2 h4.symm
    · omega
end
def KCut (W : World) (gb rb off : Nat) (d sl b m n line : Int) (u : Value) (fs : List Fld) (k ee : Int) (e : Ending) (w' : World) : Prop :=
  ∃ (q : Nine) (ps : List Int) (f6 f7 : List ByteArray) (ss : List (Int × Int)), e = .returned (.tuple #[.agg (cboxV q), .int .i64 k, .int .i64 ee]) ∧
    Own kInt 3 [] 0 W.heap.size w' (.slice q.A4 q.n4 q.c4) ps ∧ Own kStr 9 [] 0 W.heap.size w' (.slice q.A6 q.n6 q.c6) f6 ∧ Own kStr 9 [] 0 W.heap.size w' (.slice q.A7 q.n7 q.c7) f7 ∧ Own kStart 70 [] 0 W.heap.size w' (.slice q.A8 q.n8 q.c8) ss ∧
    (ee = 0 → (q.z, q.co, q.pa, q.n, ps, q.m, f6, f7, ss) = clsOf d sl n fs) ∧ Below W.heap.size W w' ∧ Cn6 gb 0 (.int .i64 d) gb 1 (.int .i64 sl) gb 2 (.int .i64 b) gb 3 (.int .i64 m) rb off (.int .i64 line) rb ((off + 1)) u w' ∧ W.heap.size ≤ w'.heap.size
theorem k_cut {wr W : World} {gb rb off : Nat} {d sl b m n line : Int} {F : Option Addr} {fs : List Fld} {c : Nat} {A : Option Addr} {ls : List Cls} {cr : Nat} {k ee : Int} {u : Value} (hke : clsKE d sl n fs ls = (k, ee)) (hS : Std wr) (hW : Wds wr) (hD : Dys wr) (hsl : 1 ≤ sl ∧ sl ≤ 24)
    (hF : FieldsAt wr.heap.size wr F fs) (hq : ls.length ≤ 24) (hs : ∀ f ∈ fs, f.1.size < 1073741824) (hX : At kCls (· < wr.heap.size) wr A ls) (hR : Cn6 gb 0 (.int .i64 d) gb 1 (.int .i64 sl) gb 2 (.int .i64 b) gb 3 (.int .i64 m) rb off (.int .i64 line) rb ((off + 1)) u wr) (hb : Below wr.heap.size wr W) :
    Calls Tryz.prog 74 #[.agg #[.int .i64 line, .slice F fs.length c], .agg #[.int .i64 d, .int .i64 sl, .int .i64 b, .int .i64 m], .int .i64 n, .slice A ls.length cr] W fun e w' => KCut W gb rb off d sl b m n line u fs k ee e w' :=
  (r10one_walk d sl b m n line F fs c A ls cr W (hS.after hb) (hW.after hb hS) (hD.after hb hS) hsl ((hF.below hb).more hb.size) hq hs ((hX.later hb).up hb.size)).mono fun e w' ⟨q, ps, f6, f7, ss, he, o4, o6, o7, o8, hz, hb'⟩ => by
    rw [hke] at he hz
    exact ⟨q, ps, f6, f7, ss, he, o4, o6, o7, o8, hz, hb', hR.later (ext_trans hb hb'), hb'.size⟩
/-- What reading one record leaves. -/
def KBox (wr : World) (d sl n : Int) (fs : List Fld) (k e : Int) (s13 s14 s15 : Value) (wx : World) : Prop :=
  ∃ (tb : Nat) (q : Nine) (ps : List Int) (f6 f7 : List ByteArray) (ss : List (Int × Int)), s13 = .pointer (some ⟨tb, 0, none⟩) ∧ s14 = .int .i64 k ∧ s15 = .int .i64 e ∧ CBox wx tb q ∧
    Own kInt 3 [] 0 wr.heap.size wx (.slice q.A4 q.n4 q.c4) ps ∧ Own kStr 9 [] 0 wr.heap.size wx (.slice q.A6 q.n6 q.c6) f6 ∧ Own kStr 9 [] 0 wr.heap.size wx (.slice q.A7 q.n7 q.c7) f7 ∧ Own kStart 70 [] 0 wr.heap.size wx (.slice q.A8 q.n8 q.c8) ss ∧
    (e = 0 → (q.z, q.co, q.pa, q.n, ps, q.m, f6, f7, ss) = clsOf d sl n fs) ∧ Below wr.heap.size wr wx
section
variable {wr w2 : World} {d sl n : Int} {fs : List Fld} {k e : Int} {q : Nine} {ps : List Int} {f6 f7 : List ByteArray} {ss : List (Int × Int)} {C x : Nat}
theorem kbox_new (hC : wr.heap.size ≤ C) (o4 : Own kInt 3 [] 0 C w2 (.slice q.A4 q.n4 q.c4) ps) (o6 : Own kStr 9 [] 0 C w2 (.slice q.A6 q.n6 q.c6) f6) (o7 : Own kStr 9 [] 0 C w2 (.slice q.A7 q.n7 q.c7) f7) (o8 : Own kStart 70 [] 0 C w2 (.slice q.A8 q.n8 q.c8) ss)
    (ht : e = 0 → (q.z, q.co, q.pa, q.n, ps, q.m, f6, f7, ss) = clsOf d sl n fs) (hb : Below wr.heap.size wr w2) :
    KBox wr d sl n fs k e (.pointer (some ⟨w2.heap.size, 0, none⟩)) (.int .i64 k) (.int .i64 e) (w2.alloc (.cells (cboxV q) 47)) :=
  ⟨_, q, ps, f6, f7, ss, rfl, rfl, rfl, cbox_new w2 q, (o4.alloc _).lower hC, (o6.alloc _).lower hC, (o7.alloc _).lower hC, (o8.alloc _).lower hC, ht, ext_alloc hb _⟩
theorem kbox_set (hx : wr.heap.size ≤ x) (hC : x < C) (hbx : CBox w2 x nineZ) (o4 : Own kInt 3 [] 0 C w2 (.slice q.A4 q.n4 q.c4) ps) (o6 : Own kStr 9 [] 0 C w2 (.slice q.A6 q.n6 q.c6) f6) (o7 : Own kStr 9 [] 0 C w2 (.slice q.A7 q.n7 q.c7) f7) (o8 : Own kStart 70 [] 0 C w2 (.slice q.A8 q.n8 q.c8) ss)
    (ht : e = 0 → (q.z, q.co, q.pa, q.n, ps, q.m, f6, f7, ss) = clsOf d sl n fs) (hb : Below wr.heap.size wr w2) :
    KBox wr d sl n fs k e (.pointer (some ⟨x, 0, none⟩)) (.int .i64 k) (.int .i64 e) (set9 w2 x q) := by
  have ho : Only x w2 (set9 w2 x q) := set9_only (Only.refl x w2) (Or.inl rfl)
  exact ⟨x, q, ps, f6, f7, ss, rfl, rfl, rfl, set9_box hbx, (o4.noteT ho hC).lower (by omega), (o6.noteT ho hC).lower (by omega), (o7.noteT ho hC).lower (by omega), (o8.noteT ho hC).lower (by omega), ht, below_set9 hb hx⟩
end
def RKLoop (d sl n : Int) (rs : List Rec) (w : World) (v9 v10 v11 i : Value) (wr : World) : Prop :=
  ∃ j : Nat, j ≤ rs.length ∧ i = .int .i64 j ∧ GK w v9 v10 v11 (readCls d sl n (rs.take j)).ls (readCls d sl n (rs.take j)).lines (readCls d sl n (rs.take j)).ps wr
set_option maxHeartbeats 16000000 in
theorem r10lines_walk (d sl b m n : Int) (A : Option Addr) (rs : List Rec) (cap : Nat) (w : World) (hS : Std w) (hW : Wds w) (hD : Dys w) (hR : RecsAt w.heap.size w A rs) (hN : rs.length ≤ 4000000000000) (hs : ∀ r ∈ rs, ∀ f ∈ r.2, f.1.size < 1073741824) :
    Calls Tryz.prog 37 #[.slice A rs.length cap, .agg #[.int .i64 d, .int .i64 sl, .int .i64 b, .int .i64 m], .int .i64 n] w fun e w' => ClsLines d sl b m n rs w e w' := by
  have hb0 : Below w.heap.size w (w.alloc (.cells #[.int .i64 d, .int .i64 sl, .int .i64 b, .int .i64 m] 24)) := ext_alloc (Below.refl _ _) _
  have bG := Box4.new w 24 (.int .i64 d) (.int .i64 sl) (.int .i64 b) (.int .i64 m)
  obtain ⟨N, hNN⟩ : ∃ N, rs.length = N := ⟨_, rfl⟩
  rw [hNN] at hN ⊢
  replace hNN := hide hNN
  replace hs := hide hs
  cases hw : weekB d sl b m n
  · have e1 : clssRead d sl b m n rs = ([], [(0, 0, 1)]) := by unfold clssRead; rw [hw]; rfl
    clear hS hW hD hR bG
    go_enter Tryz.func37, Tryz.ntmps37
    go_wp2_with fail
    refine (r6Usable_walk d sl b m n _).mono ?_
    rintro e w1 ⟨rfl, hb1⟩
    rw [hw]
    have hbw := ext_trans hb0 hb1
    go_wp2
    go_ret3
    exact ⟨_, _, _, rfl, by rw [e1]; exact Own.nil, by rw [e1]; exact owns_lower (probs_one w1 1 0 0 1 rfl) hbw.size, ext_alloc hbw _⟩
  · have e1 : clssRead d sl b m n rs = ((readCls d sl n rs).ls, (readCls d sl n rs).ps) := by unfold clssRead; rw [hw]; rfl
    replace e1 := hide e1
    obtain ⟨-, -, s1, s2, -, -⟩ := week_bd hw
    obtain ⟨iP, hiP, hP0, hP1, hP2⟩ := info_parts infoProb
    obtain ⟨gb, hgb⟩ : ∃ gb, w.heap.size = gb := ⟨_, rfl⟩
    go_enter Tryz.func37, Tryz.ntmps37
    go_wp2_with fail
    rw [hgb] at bG
    refine (r6Usable_walk d sl b m n _).mono ?_
    rintro e w1 ⟨rfl, hb1⟩
    rw [hw]
    have hbw1 := ext_trans hb0 hb1
    have bG1 := bG.later hb1
    have hgl1 := bG1.lt
    have hS1 := hS.after hbw1
    have hW1 := hW.after hbw1 hS
    have hD1 := hD.after hbw1 hS
    have hR1 := (hR.below hbw1).more hbw1.size
    obtain ⟨g0, g1, g2, g3⟩ := bG1
    clear hb0 hb1 bG hR hS hW hD
    replace hgb := hide hgb
    go_wp2
    go_loopw [9, 10, 11, 12] (fun v9 v10 v11 i wr => RKLoop d sl n rs w1 v9 v10 v11 i wr) (fun _ _ _ i _ => N - (intOf i).toNat)
    case atStart => exact ⟨0, Nat.zero_le _, rfl, OwnO.nil, Own.nil, World.ownsRow_nil _ _ _ _, Below.refl _ _⟩
    case round =>
      obtain ⟨j, hj, rfl, hG⟩ := hrel
      rw [hNN.out] at hj
      by_cases hlt : j < N
      · obtain ⟨r, hr⟩ : ∃ r, rs[j]? = some r := ⟨_, List.getElem?_eq_getElem (by rw [hNN.out]; exact hlt)⟩
        obtain ⟨rb, off, rfl, hrb, hcell⟩ := (hR1.below hG.below) (by rw [hNN.out]; omega)
        obtain ⟨F, c, k0, k1, hF⟩ := hcell j r hr
        have hsr := hide (hs.out r (List.mem_of_getElem? hr))
        have hstep := hide (readAll_take (n := 9) (P := clsP d sl n) (f := clsOf d sl n) rs j r hr)
        obtain ⟨st, hst⟩ : ∃ st, readAll 9 (clsP d sl n) (clsOf d sl n) (rs.take j) = st := ⟨_, rfl⟩
        have hlen := readCls_len d sl n (rs.take j)
        rw [List.length_take, hNN.out] at hlen
        unfold readCls at hG hlen
        rw [hst] at hG hlen hstep
        obtain ⟨n1, n2, n3⟩ := hlen
        obtain ⟨line, fs⟩ := r
        dsimp only at k0 k1 hF hsr
        have hz := hG.below.size
        have q4'' : w1.cell? ⟨rb, off + j * 2, none⟩ = some (.int .i64 line) := (hG.below.cell (p := ⟨rb, _, none⟩) hrb).symm.trans k0
        replace q4'' := hide q4''
        have hgr : gb < wr.heap.size := by omega
        have hrbr : rb < wr.heap.size := by omega
        have h3N : st.ps.length ≤ 4000000000000 := by omega
        have hu7 : Hid (∀ y, u10.ownBlock = some y → y < wr.heap.size) := hide fun y e => (hG.ins.lt y e).2
        clear hcell hr hst n3
        replace n2 := hide n2
        have hOwn := hG.own
        obtain ⟨A6, c6, rfl⟩ := hOwn.form
        have hat := hOwn.any'
        obtain ⟨⟨k, er⟩, hke⟩ : ∃ p, clsKE d sl n fs st.ls = p := ⟨_, rfl⟩
        have hstp := cls_step (d := d) (sl := sl) (n := n) (line := line) (fs := fs) (st := st) n1
        have hpl := cls_place d sl n fs st.ls
        obtain ⟨nf, hnf⟩ : ∃ nf, fs.length = nf := ⟨_, rfl⟩
        rw [hnf] at k1
        have hRC : Cn6 gb 0 (.int .i64 d) gb 1 (.int .i64 sl) gb 2 (.int .i64 b) gb 3 (.int .i64 m) rb ((off + j * 2)) (.int .i64 line) rb ((off + j * 2 + 1)) (.slice F nf c) wr := ⟨cell_later hG.below g0, cell_later hG.below g1, cell_later hG.below g2, cell_later hG.below g3, k0, k1⟩
        have hone := fun (W : World) (h : Below wr.heap.size wr W) => k_cut (c := c) (cr := c6) hke (hS1.after hG.below) (hW1.after hG.below hS1) (hD1.after hG.below hS1) ⟨s1, s2⟩ (hF.more hz) n1 hsr.out hat hRC h
        rw [hke] at hstp hpl
        rw [hnf] at hone
        dsimp only at hstp hpl
        replace hstp := hide (hstep.out.trans hstp)
        replace hnf := hide hnf
        replace hone := hide hone
        have hj0 : (0 : Int) ≤ (j : Int) := by omega
        have hj1 : (j : Int) < (N : Int) := by omega
        have hRd := hRC.drew
        obtain ⟨q0, q1, q2, q3, q4, q5⟩ := id hRC
        clear hke k0 k1 hat hstep hOwn
        have hrefl := Below.refl wr.heap.size wr
        go_upto_region 9 with fail
        go_cut [13, 14, 15] (fun s13 s14 s15 wx => KBox wr d sl n fs k er s13 s14 s15 wx)
        case first =>
          go_region_held3 (fun W' => W'.cell? ⟨gb, 0, none⟩ = some (.int .i64 d) ∧ W'.cell? ⟨gb, 1, none⟩ = some (.int .i64 sl) ∧ W'.cell? ⟨gb, 2, none⟩ = some (.int .i64 b) ∧ W'.cell? ⟨gb, 3, none⟩ = some (.int .i64 m) ∧ W'.cell? ⟨rb, (off + j * 2), none⟩ = some (.int .i64 line) ∧ W'.cell? ⟨rb, (off + j * 2 + 1), none⟩ = some (.slice F nf c)) (first | ((repeat (first | (with_reducible assumption) | (with_reducible refine Cn6.alloc ?_ _) | (with_reducible refine Cn6.drew ?_) | (with_reducible refine Cn6.set ?_ ?_ ?_ ?_ ?_ ?_ ?_ _) | omega)); done)) (first | (go_at_call 74; refine (hone.out _ (by repeat (first | (with_reducible assumption) | (with_reducible refine ext_alloc ?_ _) | (with_reducible refine ext_drew ?_)))).mono ?_; rintro e w2 ⟨⟨z, co, pa, nl, A4, n4, c4, mm, Aa, n6, c6', Ab, n7, c7, Ac, n8, c8⟩, ps, f6, f7, ss, rfl, o4, o6, o7, o8, ht, hb2, hc2, hz2⟩; dsimp only [cboxV] at o4 o6 o7 o8 ht ⊢; (try simp only [World.size_alloc, size_drew'] at hz2); (try have hbx : CBox w2 wr.heap.size nineZ := CBox.later (by first | exact cbox_new wr nineZ | exact (cbox_new wr nineZ).drew | exact cbox_new wr.drew nineZ) hb2); (try have x0 := hbx.c0); (try have x1 := hbx.c1); (try have x2 := hbx.c2); (try have x3 := hbx.c3); (try have x4 := hbx.c4); (try have x5 := hbx.c5); (try have x6 := hbx.c6); (try have x7 := hbx.c7); (try have x8 := hbx.c8); (try dsimp only [nineZ] at x0 x1 x2 x3 x4 x5 x6 x7 x8); (try have xf0 := hbx.free 0); (try have xf1 := hbx.free 1); (try have xf2 := hbx.free 2); (try have xf3 := hbx.free 3); (try have xf4 := hbx.free 4); (try have xf5 := hbx.free 5); (try have xf6 := hbx.free 6); (try have xf7 := hbx.free 7); (try have xf8 := hbx.free 8)))
          · go_wp2_with fail
            go_meet
            exact kbox_new (wr := wr) (C := wr.drew.heap.size) (q := ⟨z, co, pa, nl, A4, n4, c4, mm, Aa, n6, c6', Ab, n7, c7, Ac, n8, c8⟩) (Nat.le_refl _) o4 o6 o7 o8 ht (kdrewA hb2)
          · go_wp2_with fail
            go_meet
            have hbb : Below wr.heap.size wr w2 := kdrewB hb2
            have hfin := kbox_set (wr := wr) (C := wr.heap.size + 1) (q := ⟨z, co, pa, nl, A4, n4, c4, mm, Aa, n6, c6', Ab, n7, c7, Ac, n8, c8⟩) (k := k) (e := er) (Nat.le_refl _) (Nat.lt_succ_self _) hbx (by have h := o4; simp only [size_drew', World.size_alloc] at h; exact h) (by have h := o6; simp only [size_drew', World.size_alloc] at h; exact h) (by have h := o7; simp only [size_drew', World.size_alloc] at h; exact h) (by have h := o8; simp only [size_drew', World.size_alloc] at h; exact h) ht hbb
            unfold set9 at hfin
            dsimp only at hfin
            exact hfin
        case rest =>
          obtain ⟨tb, ⟨z, co, pa, nl, A4, n4, c4, mm, Aa, n6, c6', Ab, n7, c7, Ac, n8, c8⟩, ps, f6, f7, ss, rfl, rfl, rfl, hbt, o4, o6, o7, o8, ht, hbx⟩ := hcut
          dsimp only at o4 o6 o7 o8 ht
          have hGx := hG.later hbx
          have hFw := (hF.below (hbx.mono hz)).more hGx.below.size
          have hzc := hbx.size
          have hrbc : rb < wc.heap.size := by omega
          replace q4 := cell_later hbx q4
          replace q5 := cell_later hbx q5
          have htb : tb < wc.heap.size := hbt.lt
          clear hG hF hRC hRd q0 q1 q2 q3 hone hrefl
          by_cases he : er = 0
          · subst he
            have hrm := ht rfl
            have hst2 := hide (hstp.out.trans (if_pos rfl))
            rw [← hrm] at hst2
            have n32 : st.lines.length ≤ 100000 := by rw [n2.out]; omega
            have n31 : st.ls.length ≤ 100000 := by omega
            have x0 := hbt.c0
            have x1 := hbt.c1
            have x2 := hbt.c2
            have x3 := hbt.c3
            have x4 := hbt.c4
            have x5 := hbt.c5
            have x6 := hbt.c6
            have x7 := hbt.c7
            have x8 := hbt.c8
            dsimp only at x0 x1 x2 x3 x4 x5 x6 x7 x8
            have kw0 := hide q4
            have hn6 : Hid (some rb ≠ (Value.slice A6 st.ls.length c6).ownBlock) := hide fun e => by
              have := (hGx.own.lt rb e.symm).1; omega
            clear hstp ht hpl q5 hFw hrm hbt
            go_upto_region 13 with (at_builtin; refine wpk_ls rfl _ _ rfl rfl (hGx.alloc _) n31 ⟨wc.heap.size, 0, none⟩ 1 rfl (z, co, pa, nl, ps, mm, f6, f7, ss) [.string z, .string co, .string pa, .int .i64 nl, .slice A4 n4 c4, .int .i64 mm, .slice Aa n6 c6', .slice Ab n7 c7, .slice Ac n8 c8] (cls_rep (q := ⟨z, co, pa, nl, A4, n4, c4, mm, Aa, n6, c6', Ab, n7, c7, Ac, n8, c8⟩) (own_repS (K := kInt) (t := 3) (B := wr.heap.size) (o4.alloc _) (by decide) hz hu7.out) (own_repS (K := kStr) (t := 9) (B := wr.heap.size) (o6.alloc _) (by decide) hz hu7.out) (own_repS (K := kStr) (t := 9) (B := wr.heap.size) (o7.alloc _) (by decide) hz hu7.out) (own_repS (K := kStart) (t := 70) (B := wr.heap.size) (o8.alloc _) (by decide) hz hu7.out)) (World.news_of_block (cs := #[.string z, .string co, .string pa, .int .i64 nl, .slice A4 n4 c4, .int .i64 mm, .slice Aa n6 c6', .slice Ab n7 c7, .slice Ac n8 c8]) (t := 47) (fr := (0, 0)) (heap_alloc_new _ _)) ?_; intro gA capA w5 hG5 _)
            have q4' : w5.cell? ⟨rb, off + j * 2, none⟩ = some (.int .i64 line) := by
              have := (hG5.below.cell (p := ⟨rb, off + j * 2, none⟩) hrb); exact this.trans q4''.out
            have hrb5 : rb < w5.heap.size := by have := hG5.below.size; omega
            clear hGx o4 o6 o7 o8 x0 x1 x2 x3 x4 x5 x6 x7 x8 q4 kw0
            go_wp2_with (at_builtin; refine wpk_ins rfl _ _ rfl rfl (hG5.alloc _) n32 ⟨w5.heap.size, 0, none⟩ 1 rfl line (World.news_of_block (cs := #[.int .i64 line]) (t := 3) (fr := (0, 0)) (heap_alloc_new _ _)) ?_; intro gB capB w6 hG6 _)
            clear hG5 q4'
            go_roundw
            case rel => exact ⟨j + 1, by rw [hNN.out]; omega, by go_num, by unfold readCls; rw [hst2.out]; exact hG6⟩
            case measure => simp [intOf]; omega
          · have he2 : (er != 0) = true := by simpa using he
            have hst2 := hide (hstp.out.trans (if_neg he))
            have hk : k < fs.length := hpl
            have hfnd := r7Found_walk line F fs c k er wc hFw hk
            rw [hnf.out] at hfnd
            replace he := hide he
            clear hstp ht hpl hbt o4 o6 o7 o8
            go_wp2_with fail
            refine hfnd.mono ?_
            rintro e w3 ⟨rfl, hb3⟩
            have hG3 := hGx.later hb3
            have hz3 := hG3.below.size
            clear hGx hFw q4 q5 hb3 hfnd
            go_wp2_with (at_builtin; refine wpList_append_own _ rfl _ _ 30 rfl w1.heap.size 74 iP (.agg #[.int .i64 0, .int .i64 0, .int .i64 0, .int .i64 0]) 4 32 Tryz.underlying30 hiP hP0 hP1 hP2 rfl (by decide) _ _ _ rfl (hG3.alloc _).ps ⟨w3.heap.size, 0, none⟩ 1 1 (encP (line, placeOf fs k, er)) rfl rfl (new_prob _ _ _ _ _) (one_prob _) ?c3 ?c4 ?c5 ?_)
            case c3 => unfold maxLen; omega
            case c4 => omega
            case c5 => rw [World.size_alloc]; omega
            intro v' w4 hPn hgrow _
            have hGn := (hG3.alloc _).prob (p := (line, placeOf fs k, er)) hgrow hPn
            clear hG3 hgrow hPn
            go_wp2
            go_roundw
            case rel => exact ⟨j + 1, by rw [hNN.out]; omega, by go_num, by unfold readCls; rw [hst2.out]; exact hGn⟩
            case measure => simp [intOf]; omega
      · obtain rfl : j = N := by omega
        have hall : Hid (rs.take j = rs) := hide (by rw [← hNN.out]; exact List.take_length)
        rw [hall.out] at hG
        clear hall
        have hlo := hbw1.size
        go_wp2
        go_ret3
        exact ⟨_, _, _, rfl, by rw [e1.out]; exact hG.own.lower hlo, by rw [e1.out]; exact owns_lower hG.ps hlo, ext_trans hbw1 hG.below⟩
theorem r10Read_walk (d sl b m n : Int) (A : Option Addr) (rs : List Rec) (cap : Nat) (w : World) (hS : Std w) (hW : Wds w) (hD : Dys w) (hR : RecsAt w.heap.size w A rs) (hN : rs.length ≤ 4000000000000) (hs : ∀ r ∈ rs, ∀ f ∈ r.2, f.1.size < 1073741824) :
    Calls Tryz.prog 10 #[.slice A rs.length cap, .agg #[.int .i64 d, .int .i64 sl, .int .i64 b, .int .i64 m], .int .i64 n] w fun e w' => ClsReads d sl b m n rs w e w' := by
  have hb0 : Below w.heap.size w (w.alloc (.cells #[.int .i64 d, .int .i64 sl, .int .i64 b, .int .i64 m] 24)) := ext_alloc (Below.refl _ _) _
  obtain ⟨W, hWW⟩ : ∃ W, w.alloc (.cells #[.int .i64 d, .int .i64 sl, .int .i64 b, .int .i64 m] 24) = W := ⟨_, rfl⟩
  rw [hWW] at hb0
  have hcall := r10lines_walk d sl b m n A rs cap W (hS.after hb0) (hW.after hb0 hS) (hD.after hb0 hS) ((hR.below hb0).more hb0.size) hN hs
  clear hR hN hs hS hW hD
  obtain ⟨N, hNN⟩ : ∃ N, rs.length = N := ⟨_, rfl⟩
  rw [hNN] at hcall ⊢
  clear hNN
  replace hWW := hide hWW
  go_enter Tryz.func10, Tryz.ntmps10
  go_wp2_with fail
  rw [hWW.out]
  refine hcall.mono ?_
  clear hcall
  rintro e w' ⟨v6, v7, v8, rfl, h1, h2, hb⟩
  go_wp2
  go_ret2
  exact ⟨_, _, rfl, h1.lower hb0.size, owns_lower h2 hb0.size, ext_trans hb0 hb⟩
end Go.Proofs.YtimcdikeajbabaaGreatDoor

namespace Go.Proofs.YtimcdikeajbabaaGreatDoor
open Go.RowKit
set_option maxRecDepth 100000

theorem apd_times : Apd Tryz.prog 42 49 4 32 := apd Tryz.underlying42 (z := .agg #[.int .i64 0, .int .i64 0, .int .i64 0, .int .i64 0]) (by kernel_rfl) rfl
theorem rep_of_time {S : Nat → Prop} {w : World} (x1 x2 x3 x4 : Int) : kTime.rep S w (x1, x2, x3, x4) [.int .i64 x1, .int .i64 x2, .int .i64 x3, .int .i64 x4] :=
  ⟨[_], [_, _, _], rfl, rfl, [_], [_, _], rfl, rfl, [_], [_], rfl, rfl, rfl⟩
end Go.Proofs.YtimcdikeajbabaaGreatDoor
