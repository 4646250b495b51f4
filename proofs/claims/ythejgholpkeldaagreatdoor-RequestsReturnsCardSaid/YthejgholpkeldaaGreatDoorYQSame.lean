/- Walk of requests.Write. Conditions: the requests' cells; what the program's variables hold. Walk of timetableref12.Same at equal lists. Conditions: the cells. -/
import Derived.Test.YthejgholpkeldaaGreatDoorShelfS
import Derived.Test.YthejgholpkeldaaGreatDoorRows
import Derived.WalkKit
import Derived.WalkSpells
import Derived.WalkLawsBesides
import Derived.BigGuardPart
import Derived.Lib.Hide
import Derived.Laws.BitsAllLaws
import Derived.Laws.BitsLemmas
import Derived.Lib.LaidTab
import Derived.Test.YthejgholpkeldaaGreatDoorShelf
import Derived.Lib.ConvBytes
import Derived.Deep.QuietTactic
import Derived.BigQuiet
import Derived.Laws.ResultCell
import Derived.RegionTactic
import Derived.BigRegion
import Derived.Deep.RegionHeld3
import Derived.Deep.DeepCutAuto
import Derived.Lib.SmallJoins
import Derived.Lib.SplitLaws
import Derived.Lib.CountLaws
import Derived.Lib.IndexMore
import Derived.Lib.Split
import Derived.Lib.Join
import Derived.Lib.ItoaNum
import Derived.Laws.AppendOwn
import Derived.Test.YthejgholpkeldaaGreatDoorShelfT
import Derived.Lib.ItoaLen
import Derived.Lib.AppendIntMem
import Derived.Deep.AppendLies
import Derived.Lib.PathFns
import Derived.Maps.Range
import Derived.Lib.OwnBridge
import Derived.Sort.OwnSorted
import Derived.Sort.Walk0
import Derived.Test.YthejgholpkeldaaGreatDoorCards
import Derived.Test.YthejgholpkeldaaGreatDoorTie
import Derived.ProofKit
import Derived.OpenShut
import Derived.LaidMore
import Derived.Lay
import Derived.SevenTiedAt
import Derived.Stop.Joined
import Derived.Stop.LaidErr
import Derived.Deep.DeepHandedRow
import Derived.Lib.LaidU8
import Derived.LaidSub
import Derived.Deep.Slices
import Derived.Deep.Fields
import Derived.ChangeSame
import Derived.Maps.OwnSet
import Derived.Deep.RegionLaw
import Derived.Deep.RegionLawGrows
import Derived.StringKeys
import Derived.Sort.LotA
import Derived.Test.YthejgholpkeldaaGreatDoorYDecN
import Derived.Test.YthejgholpkeldaaGreatDoorYFcoT
import Derived.Test.YthejgholpkeldaaGreatDoorYSameL
import Derived.Test.YthejgholpkeldaaGreatDoorYReqOwn
namespace Go.Proofs.YthejgholpkeldaaGreatDoor
open Go.RowKit
set_option maxRecDepth 100000

/-- The record of a request. -/
def rowQ (x : Req) : List ByteArray := [x.1, x.2.1, decB x.2.2.1.toNat, (joinV x.2.2.2).2]
def rowsQ (l : List Req) : List (List ByteArray) := if validQ l = 0 then l.map rowQ else []
def QWriteIs (l : List Req) (w : World) (e : Ending) (w' : World) : Prop :=
  ∃ v, e = .returned (.tuple #[v, .int .i64 (validQ l : Nat)]) ∧ Own (kSlice kStr) 41 [9] 0 w.heap.size w' v (rowsQ l) ∧ Below w.heap.size w w'
theorem reqEx_parts {x : Req} (h : reqEx x = 0) : codeB x.1 = true ∧ codeB x.2.1 = true ∧ 1 ≤ x.2.2.1 ∧ x.2.2.1 ≤ 9 ∧ x.2.2.2.length ≤ 8 ∧ insE x.2.1 x.2.2.2 x.2.2.2.length = 0 := by
  unfold reqEx at h
  repeat' split at h
  all_goals first | omega | skip
  refine ⟨by simp_all, by simp_all, by omega, by omega, by omega, h⟩
theorem reqE_parts {x : Req} {prev : List Req} (h : reqE x prev = 0) : reqEx x = 0 ∧ hasQ prev x.1 x.2.1 = false ∧ (freshS (studs (prev ++ [x]))).length ≤ 64 := by
  unfold reqE at h
  split at h
  · omega
  · split at h
    · omega
    · split at h
      · omega
      · rename_i h1 h2 h3
        exact ⟨by omega, by cases hh : hasQ prev x.1 x.2.1 with | false => rfl | true => exact absurd hh h2, by omega⟩
theorem reqErr_all {l : List Req} {N : Nat} (h : reqErr l N = 0) : ∀ j, j < N → reqEi l j = 0 := by
  intro j
  induction N with
  | zero => intro hj; omega
  | succ N ih =>
    intro hj
    by_cases h0 : reqErr l N = 0
    · rw [reqErr, if_neg (by rw [h0]; simp)] at h
      by_cases e : j = N
      · rw [e]; exact h
      · exact ih h0 (by omega)
    · rw [reqErr, if_pos h0] at h
      exact absurd h h0
theorem validQ_parts {l : List Req} (h : validQ l = 0) : l.length ≤ 400 ∧ ∀ (j : Nat) (x : Req), l[j]? = some x → reqE x (l.take j) = 0 := by
  unfold validQ at h
  by_cases h4 : 400 < l.length
  · rw [if_pos h4] at h; omega
  · rw [if_neg h4] at h
    refine ⟨by omega, fun j x hx => ?_⟩
    have hj := (List.getElem?_eq_some_iff.1 hx).1
    have := reqErr_all h j hj
    unfold reqEi at this
    rw [hx] at this
    exact this
set_option maxHeartbeats 8000000 in
theorem qWrite_walk (A : Option Addr) (l : List Req) (cap : Nat) (w : World) (hS : Std w) (hlc : l.length ≤ cap) (hc : l.length ≤ 9223372036854775807) (hm : ReqShort l) (hL : At kReq AnyB w A l) :
    Calls Tryz.prog 18 #[.slice A l.length cap] w fun e w' => QWriteIs l w e w' := by
  have hval := qval_walk A l cap w hlc hc hm hL
  by_cases hv : validQ l = 0
  · obtain ⟨h16, hpart⟩ := validQ_parts hv
    have hr : Hid (rowsQ l = l.map rowQ) := hide (if_pos hv)
    obtain ⟨N, hN⟩ : ∃ N, l.length = N := ⟨_, rfl⟩
    rw [hv] at hval
    rw [hN] at hval h16 hlc hc ⊢
    replace hN := hide hN
    replace hpart := hide hpart
    replace hv := hide hv
    clear hm
    go_enter Tryz.func18, Tryz.ntmps18
    go_wp2_with fail
    refine hval.mono ?_
    rintro e w1 ⟨rfl, hbw⟩
    have hL1 := hL.later hbw
    have hS1 := hS.after hbw
    clear hval hL
    go_wp2_with fail
    go_loopw [5, 15] (fun v i wr => ∃ j : Nat, j ≤ N ∧ i = .int .i64 j ∧ Own (kSlice kStr) 41 [9] 0 w1.heap.size wr v ((l.take j).map rowQ) ∧ Below w1.heap.size w1 wr) (fun _ i _ => N - (intOf i).toNat)
    case atStart => exact ⟨0, Nat.zero_le _, rfl, Own.nil, Below.refl _ _⟩
    case round =>
      obtain ⟨j, hj, rfl, hown, hb⟩ := hrel
      by_cases hlt : j < N
      · obtain ⟨x, hx⟩ : ∃ x, l[j]? = some x := ⟨_, List.getElem?_eq_getElem (by rw [hN.out]; exact hlt)⟩
        obtain ⟨-, -, hs1, hs2, hf8, -⟩ := reqEx_parts (reqE_parts (hpart.out j x hx)).1
        obtain ⟨rb, off, A3, c3, rfl, -, hrb, ⟨q0, q1, q2, q3⟩, l3, a3⟩ := (hL1.later hb).req hx
        have hsn : Hid ((l.take (j + 1)).map rowQ = (l.take j).map rowQ ++ [rowQ x]) := by
          refine hide ?_
          rw [List.take_add_one, hx]; simp
        have hl9 : ((l.take j).map rowQ).length ≤ 4000000000 := by rw [List.length_map, List.length_take]; omega
        obtain ⟨lists, hlists⟩ : ∃ lists, (l.take j).map rowQ = lists := ⟨_, rfl⟩
        rw [hlists] at hown hsn hl9
        obtain ⟨z, bl, sn, fs⟩ := x
        dsimp only at q0 q1 q2 q3 l3 a3 hs1 hs2 hf8
        have hz := hb.size
        have hu9 : Hid (∀ y, u5.ownBlock = some y → w1.heap.size ≤ y ∧ y < wr.heap.size) := hide hown.lt
        have hcI := fun (V : World) (hV : Below wr.heap.size wr V) => itoaD_walk sn (by omega) (by omega) V (hS1.after (ext_trans hb hV))
        have hcC := fun (V : World) (hV : Below wr.heap.size wr V) => fcodesU_walk A3 fs c3 V (hS1.after (ext_trans hb hV)) (a3.later hV).any (by omega) l3
        obtain ⟨dn, hdn⟩ : ∃ dn, decB sn.toNat = dn := ⟨_, rfl⟩
        obtain ⟨tf, htf⟩ : ∃ tf, (joinV fs).2 = tf := ⟨_, rfl⟩
        have hrow : Hid (rowQ (z, bl, sn, fs) = [z, bl, dn, tf]) := by rw [← hdn, ← htf]; exact hide rfl
        rw [hdn] at hcI
        rw [htf] at hcC
        obtain ⟨nf, hnf⟩ : ∃ nf, fs.length = nf := ⟨_, rfl⟩
        rw [hnf] at hcC q3
        replace hcI := hide hcI
        replace hcC := hide hcC
        have hxx : Below wr.heap.size wr (wr.alloc (.cells #[.string z, .string bl, .int .i64 sn, .slice A3 nf c3] 53)) := ext_alloc (Below.refl _ _) _
        have hC : Cn4 wr.heap.size 0 (.string z) wr.heap.size 1 (.string bl) wr.heap.size 2 (.int .i64 sn) wr.heap.size 3 (.slice A3 nf c3) (wr.alloc (.cells #[.string z, .string bl, .int .i64 sn, .slice A3 nf c3] 53)) := ⟨by simp, by simp, by simp, by simp⟩
        have hownx := hown.alloc (.cells #[.string z, .string bl, .int .i64 sn, .slice A3 nf c3] 53)
        have hj0 : (0 : Int) ≤ (j : Int) := by omega
        have hj1 : (j : Int) < (N : Int) := by omega
        clear hx hlists hown hdn htf hnf a3 l3
        go_upto_region 8 with fail
        obtain ⟨Wx, hWx⟩ : ∃ Wx, wr.alloc (.cells #[.string z, .string bl, .int .i64 sn, .slice A3 nf c3] 53) = Wx := ⟨_, rfl⟩
        obtain ⟨xb, hxb⟩ : ∃ xb, wr.heap.size = xb := ⟨_, rfl⟩
        have hxl : xb < Wx.heap.size := by rw [← hWx, World.size_alloc]; omega
        rw [hWx] at hC hownx hxx
        have hbx : Below w1.heap.size w1 Wx := ext_trans hb hxx
        have hI := hide (fun (V : World) (hV : Below Wx.heap.size Wx V) => (hcI.out V (ext_trans hxx hV)).mono fun _ _ ⟨he, hb⟩ => (⟨he, ext_trans hV hb, hC.later (ext_trans hV hb), hownx.later (ext_trans hV hb), ext_trans hbx (ext_trans hV hb)⟩ : _ = Ending.returned (.string dn) ∧ Below Wx.heap.size Wx _ ∧ Cn4 wr.heap.size 0 (.string z) wr.heap.size 1 (.string bl) wr.heap.size 2 (.int .i64 sn) wr.heap.size 3 (.slice A3 nf c3) _ ∧ Own (kSlice kStr) 41 [9] 0 w1.heap.size _ u5 lists ∧ Below w1.heap.size w1 _))
        have hF := hide (fun (V : World) (hV : Below Wx.heap.size Wx V) => (hcC.out V (ext_trans hxx hV)).mono fun _ _ ⟨he, hb⟩ => (⟨he, ext_trans hV hb, hC.later (ext_trans hV hb), hownx.later (ext_trans hV hb), ext_trans hbx (ext_trans hV hb)⟩ : _ = Ending.returned (.string tf) ∧ Below Wx.heap.size Wx _ ∧ Cn4 wr.heap.size 0 (.string z) wr.heap.size 1 (.string bl) wr.heap.size 2 (.int .i64 sn) wr.heap.size 3 (.slice A3 nf c3) _ ∧ Own (kSlice kStr) 41 [9] 0 w1.heap.size _ u5 lists ∧ Below w1.heap.size w1 _))
        rw [hxb] at hC hI hF hu9
        rw [hWx, hxb]
        have nx : Hid (some xb ≠ u5.ownBlock) := hide fun e => by have := (hu9.out xb e.symm).2; omega
        obtain ⟨p0, p1, p2, p3⟩ := id hC
        have hCd := hC.drew
        have hrefl := Below.refl Wx.heap.size Wx
        clear hcI hcC hWx hxb hxx q0 q1 q2 q3
        go_region_held3 (fun W' => W'.cell? ⟨xb, 0, none⟩ = some (.string z) ∧ W'.cell? ⟨xb, 1, none⟩ = some (.string bl) ∧ W'.cell? ⟨xb, 2, none⟩ = some (.int .i64 sn) ∧ W'.cell? ⟨xb, 3, none⟩ = some (.slice A3 nf c3)) (first | ((repeat (first | (with_reducible assumption) | (with_reducible refine Cn4.alloc ?_ _) | (with_reducible refine Cn4.drew ?_) | (with_reducible refine Cn4.set ?_ ?_ ?_ ?_ ?_ _) | omega)); done)) (first | (go_at_call 38; refine (hI.out _ (by repeat (first | (with_reducible assumption) | (with_reducible refine ext_alloc ?_ _) | (with_reducible refine ext_drew ?_)))).mono ?_; rintro e w2 ⟨rfl, hb2, hx2, ho2, hbw2⟩) | (go_at_call 39; refine (hF.out _ (by repeat (first | (with_reducible assumption) | (with_reducible refine ext_alloc ?_ _) | (with_reducible refine ext_drew ?_)))).mono ?_; rintro e w3 ⟨rfl, hb3, hx3, ho3, hbw3⟩) | (refine step_own (S := Cn4 xb 0 (.string z) xb 1 (.string bl) xb 2 (.int .i64 sn) xb 3 (.slice A3 nf c3)) (K := kSlice kStr) (t := 41) (ts := [9]) (B0 := 0) (B := w1.heap.size) (v := u5) (l := lists) rfl (.tmp 19) (.tmp 31) rfl apd_lists (by decide) (by rfl) (by repeat (first | (with_reducible assumption) | (with_reducible refine Own.alloc ?_ _) | (with_reducible refine Own.drew ?_))) hl9 (by decide) _ _ (by rfl) [z, bl, dn, tf] [.slice (some ⟨_, 0, none⟩) 4 4] (rep_lit_strs (cs := #[.string z, .string bl, .string dn, .string tf]) (t := 9) [z, bl, dn, tf] (by first | exact heap_alloc_new _ _ | exact block_after (heap_alloc_new _ _) | exact block_after (block_after (heap_alloc_new _ _))) rfl rfl (Below.size (w := w1) (by repeat (first | (with_reducible assumption) | (with_reducible refine ext_alloc ?_ _) | (with_reducible refine ext_drew ?_)))) (by decide)) (World.news_of_block (cs := #[.slice (some ⟨_, 0, none⟩) 4 4]) (t := 41) (fr := (0, 0)) (by first | exact heap_alloc_new _ _ | exact heap_new2 _ _ _)) (by decide) (Nat.zero_le _) (Below.size (w := w1) (by repeat (first | (with_reducible assumption) | (with_reducible refine ext_alloc ?_ _) | (with_reducible refine ext_drew ?_)))) (fun W' hg => Cn4.grown (by repeat (first | (with_reducible assumption) | (with_reducible refine Cn4.alloc ?_ _) | (with_reducible refine Cn4.drew ?_))) hg nx.out nx.out nx.out nx.out) ?_; intro gA capA w5 ho5 hg5 hs5))
        all_goals
          have hb5 : Below w1.heap.size w1 w5 := below_grown (by repeat (first | (with_reducible assumption) | (with_reducible refine ext_alloc ?_ _) | (with_reducible refine ext_drew ?_))) hg5 (fun y hy => (hu9.out y hy).1)
          clear hI hF hC hCd hrefl hg5 hs5
          go_wp2
          go_roundw
          case rel => exact ⟨j + 1, by omega, by go_num, by rw [hsn.out, hrow.out]; exact ho5, hb5⟩
          case measure => simp [intOf]; omega
      · obtain rfl : j = N := by omega
        have hall : Hid (l.take j = l) := hide (by rw [← hN.out]; exact List.take_length)
        rw [hall.out] at hown
        have hfin := hide (hown.lower hbw.size)
        have hbn := ext_trans hbw hb
        clear hall hown
        go_wp2
        go_ret2
        exact ⟨u5, by rw [hv.out]; rfl, by rw [hr.out]; exact hfin.out, hbn⟩
  · have hr : Hid (rowsQ l = []) := hide (if_neg hv)
    obtain ⟨V, hV⟩ : ∃ V, validQ l = V := ⟨_, rfl⟩
    rw [hV] at hval hv
    have hv2 : ((V : Int) != 0) = true := by simp; omega
    have hvi : ¬ (V : Int) = 0 := by omega
    replace hV := hide hV
    obtain ⟨N, hN⟩ : ∃ N, l.length = N := ⟨_, rfl⟩
    rw [hN] at hval ⊢
    clear hv hN hL hlc hc hm
    go_enter Tryz.func18, Tryz.ntmps18
    go_wp2_with fail
    refine hval.mono ?_
    rintro e w1 ⟨rfl, hb1⟩
    clear hval
    go_wp2
    go_ret2
    exact ⟨_, by rw [hV.out]; rfl, by rw [hr.out]; exact Own.nil, hb1⟩
end Go.Proofs.YthejgholpkeldaaGreatDoor

namespace Go.Proofs.YthejgholpkeldaaGreatDoor
open Go.RowKit
set_option maxRecDepth 100000

set_option maxHeartbeats 8000000 in
theorem r12Same_walk (A A' : Option Addr) (l : List Req) (c c' : Nat) (w : World) (hn : l.length ≤ 9223372036854775807) (hm : ∀ x ∈ l, x.2.2.2.length ≤ 9223372036854775807) (h1 : At kReq AnyB w A l) (h2 : At kReq AnyB w A' l) :
    Calls Tryz.prog 23 #[.slice A l.length c, .slice A' l.length c'] w fun e w' => e = .returned (.bool true) ∧ Below w.heap.size w w' := by
  obtain ⟨n, hnn⟩ : ∃ n, l.length = n := ⟨_, rfl⟩
  rw [hnn] at hn ⊢
  replace hnn := hide hnn
  replace hm := hide hm
  go_enter Tryz.func23, Tryz.ntmps23
  go_wp2
  go_loopw [5] (fun i wr => ∃ j : Nat, j ≤ n ∧ i = .int .i64 j ∧ Below w.heap.size w wr) (fun i _ => n - (intOf i).toNat)
  case atStart => exact ⟨0, Nat.zero_le _, rfl, Below.refl _ _⟩
  case round =>
    obtain ⟨j, hj, rfl, hb⟩ := hrel
    by_cases hlt : j < n
    · obtain ⟨⟨z, co, m, xs⟩, hx⟩ : ∃ x, l[j]? = some x := ⟨_, List.getElem?_eq_getElem (by rw [hnn.out]; exact hlt)⟩
      have hxl := hm.out _ (List.mem_of_getElem? hx)
      obtain ⟨b1, o1, F1, c1, rfl, -, hb1, ⟨a0, a1, a2, a3⟩, -, t1⟩ := (h1.later hb).req hx
      obtain ⟨b2, o2, F2, c2, rfl, -, hb2, ⟨e0, e1, e2, e3⟩, -, t2⟩ := (h2.later hb).req hx
      dsimp only at a0 a1 a2 a3 e0 e1 e2 e3 t1 t2 hxl
      have hj0 : (0 : Int) ≤ (j : Int) := by omega
      have hj1 : (j : Int) < (n : Int) := by omega
      obtain ⟨k, hk⟩ : ∃ k, xs.length = k := ⟨_, rfl⟩
      have hcall0 := hide (fun (W : World) (hW : Below wr.heap.size wr W) => r2SameS_walk F1 F2 xs c1 c2 W hxl (t1.later hW) (t2.later hW))
      rw [hk] at a3 e3 hcall0
      clear hk
      have hSL : Cn8 b1 ((o1 + j * 4)) (.string z) b1 ((o1 + j * 4 + 1)) (.string co) b1 ((o1 + j * 4 + 2)) (.int .i64 m) b1 ((o1 + j * 4 + 3)) (.slice F1 k c1) b2 ((o2 + j * 4)) (.string z) b2 ((o2 + j * 4 + 1)) (.string co) b2 ((o2 + j * 4 + 2)) (.int .i64 m) b2 ((o2 + j * 4 + 3)) (.slice F2 k c2) wr := ⟨a0, a1, a2, a3, e0, e1, e2, e3⟩
      have hcall := hide (fun (W : World) (hW : Below wr.heap.size wr W) => (hcall0.out W hW).mono fun e w' ⟨he, hb⟩ => (⟨he, ext_trans hW hb, hSL.later (ext_trans hW hb)⟩ : e = Ending.returned (.bool true) ∧ Below wr.heap.size wr w' ∧ Cn8 b1 ((o1 + j * 4)) (.string z) b1 ((o1 + j * 4 + 1)) (.string co) b1 ((o1 + j * 4 + 2)) (.int .i64 m) b1 ((o1 + j * 4 + 3)) (.slice F1 k c1) b2 ((o2 + j * 4)) (.string z) b2 ((o2 + j * 4 + 1)) (.string co) b2 ((o2 + j * 4 + 2)) (.int .i64 m) b2 ((o2 + j * 4 + 3)) (.slice F2 k c2) w'))
      have hSd := hSL.drew
      have hrefl := Below.refl wr.heap.size wr
      clear h1 h2 hx t1 t2 hcall0 hxl
      go_wp2_with fail
      go_region_held3 (fun W' => W'.cell? ⟨b1, (o1 + j * 4), none⟩ = some (.string z) ∧ W'.cell? ⟨b1, (o1 + j * 4 + 1), none⟩ = some (.string co) ∧ W'.cell? ⟨b1, (o1 + j * 4 + 2), none⟩ = some (.int .i64 m) ∧ W'.cell? ⟨b1, (o1 + j * 4 + 3), none⟩ = some (.slice F1 k c1) ∧ W'.cell? ⟨b2, (o2 + j * 4), none⟩ = some (.string z) ∧ W'.cell? ⟨b2, (o2 + j * 4 + 1), none⟩ = some (.string co) ∧ W'.cell? ⟨b2, (o2 + j * 4 + 2), none⟩ = some (.int .i64 m) ∧ W'.cell? ⟨b2, (o2 + j * 4 + 3), none⟩ = some (.slice F2 k c2)) (first | ((repeat (first | (with_reducible assumption) | (with_reducible refine Cn8.alloc ?_ _) | (with_reducible refine Cn8.drew ?_) | (with_reducible refine Cn8.set ?_ ?_ ?_ ?_ ?_ ?_ ?_ ?_ ?_ _) | omega)); done)) (first | (go_at_call 35; refine (hcall.out _ (by repeat (first | (with_reducible assumption) | (with_reducible refine ext_alloc ?_ _) | (with_reducible refine ext_drew ?_)))).mono ?_; rintro e w2 ⟨rfl, hb2, hc2⟩))
      all_goals
        have hbn := ext_trans hb hb2
        go_wp2
        go_roundw
        case rel => exact ⟨j + 1, by omega, by go_num, by first | exact ext_drew hbn | exact hbn⟩
        case measure => simp [intOf]; omega
    · obtain rfl : j = n := by omega
      go_wp2
      go_ret
      exact ⟨rfl, hb⟩
end Go.Proofs.YthejgholpkeldaaGreatDoor
