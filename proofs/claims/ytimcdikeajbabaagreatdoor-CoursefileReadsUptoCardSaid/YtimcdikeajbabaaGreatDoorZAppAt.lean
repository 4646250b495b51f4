/- Walks of timetableref10.SameClass and Same at equal classes. Conditions: the cells. Rows of texts: a part at the front, what is appended that lies elsewhere. No condition. -/
import Derived.Test.YtimcdikeajbabaaGreatDoorRows
import Derived.WalkKit
import Derived.WalkSpells
import Derived.WalkLawsBesides
import Derived.BigGuardPart
import Derived.Lib.Hide
import Derived.Laws.BitsAllLaws
import Derived.Laws.BitsLemmas
import Derived.Lib.LaidTab
import Derived.Test.YtimcdikeajbabaaGreatDoorShelf
import Derived.Lib.ConvBytes
import Derived.Deep.QuietTactic
import Derived.BigQuiet
import Derived.Laws.ResultCell
import Derived.RegionTactic
import Derived.BigRegion
import Derived.Deep.RegionHeld3
import Derived.Deep.DeepCutAuto
import Derived.Lib.SmallJoins
import Derived.Lib.SplitLaws
import Derived.Lib.CountLaws
import Derived.Lib.IndexMore
import Derived.Lib.Split
import Derived.Lib.Join
import Derived.Lib.ItoaNum
import Derived.Laws.AppendOwn
import Derived.Shelf.SlSortCmp.NoneTotal
import Derived.Ground.SlsfProg
import Derived.Test.YtimcdikeajbabaaGreatDoorShelfS
import Derived.Test.YtimcdikeajbabaaGreatDoorShelfT
import Derived.Lib.ItoaLen
import Derived.Lib.AppendIntMem
import Derived.Deep.AppendLies
import Derived.Lib.PathFns
import Derived.Maps.Range
import Derived.Lib.OwnBridge
import Derived.Sort.OwnSorted
import Derived.Sort.Walk0
import Derived.Test.YtimcdikeajbabaaGreatDoorCards
import Derived.Test.YtimcdikeajbabaaGreatDoorTie
import Derived.ProofKit
import Derived.OpenShut
import Derived.LaidMore
import Derived.Lay
import Derived.SevenTiedAt
import Derived.Stop.Joined
import Derived.Stop.LaidErr
import Derived.Deep.DeepHandedRow
import Derived.Lib.LaidU8
import Derived.LaidSub
import Derived.Deep.Slices
import Derived.Deep.Fields
import Derived.ChangeSame
import Derived.Lib.SliceRun
import Derived.Lib.Walk
import Derived.Deep.RegionLaw
import Derived.Deep.RegionLawGrows
import Derived.Test.YtimcdikeajbabaaGreatDoorZSameL
import Derived.Test.YtimcdikeajbabaaGreatDoorZSameT
import Derived.Test.YtimcdikeajbabaaGreatDoorZCells18
import Derived.Test.YtimcdikeajbabaaGreatDoorZCBox
import Derived.Test.YtimcdikeajbabaaGreatDoorZPatRd
import Derived.Test.YtimcdikeajbabaaGreatDoorZIdxS
namespace Go.Proofs.YtimcdikeajbabaaGreatDoor
open Go.RowKit
set_option maxRecDepth 100000

set_option maxHeartbeats 16000000 in
theorem r10same1_walk (z co pa : ByteArray) (nl mm : Int) (A4 A4' A6 A6' A7 A7' A8 A8' : Option Addr) (n4 n6 n7 n8 c4 c4' c6 c6' c7 c7' c8 c8' : Nat) (ps : List Int) (fs st : List ByteArray) (ss : List (Int × Int)) (w : World)
    (e4 : ps.length = n4) (e6 : fs.length = n6) (e7 : st.length = n7) (e8 : ss.length = n8) (m4 : n4 ≤ 9223372036854775807) (m6 : n6 ≤ 9223372036854775807) (m7 : n7 ≤ 9223372036854775807) (m8 : n8 ≤ 9223372036854775807)
    (a4 : At kInt AnyB w A4 ps) (a6 : At kStr AnyB w A6 fs) (a7 : At kStr AnyB w A7 st) (a8 : At kStart AnyB w A8 ss) (b4 : At kInt AnyB w A4' ps) (b6 : At kStr AnyB w A6' fs) (b7 : At kStr AnyB w A7' st) (b8 : At kStart AnyB w A8' ss) :
    Calls Tryz.prog 38 #[.agg #[.string z, .string co, .string pa, .int .i64 nl, .slice A4 n4 c4, .int .i64 mm, .slice A6 n6 c6, .slice A7 n7 c7, .slice A8 n8 c8], .agg #[.string z, .string co, .string pa, .int .i64 nl, .slice A4' n4 c4', .int .i64 mm, .slice A6' n6 c6', .slice A7' n7 c7', .slice A8' n8 c8']] w fun e w' => e = .returned (.bool true) ∧ Below w.heap.size w w' := by
  have x1 := cbox_new w ⟨z, co, pa, nl, A4, n4, c4, mm, A6, n6, c6, A7, n7, c7, A8, n8, c8⟩
  have x1' := x1.alloc (.cells #[.string z, .string co, .string pa, .int .i64 nl, .slice A4' n4 c4', .int .i64 mm, .slice A6' n6 c6', .slice A7' n7 c7', .slice A8' n8 c8'] 47)
  have x2 := cbox_new (w.alloc (.cells #[.string z, .string co, .string pa, .int .i64 nl, .slice A4 n4 c4, .int .i64 mm, .slice A6 n6 c6, .slice A7 n7 c7, .slice A8 n8 c8] 47)) ⟨z, co, pa, nl, A4', n4, c4', mm, A6', n6, c6', A7', n7, c7', A8', n8, c8'⟩
  have hb0 : Below w.heap.size w ((w.alloc (.cells #[.string z, .string co, .string pa, .int .i64 nl, .slice A4 n4 c4, .int .i64 mm, .slice A6 n6 c6, .slice A7 n7 c7, .slice A8 n8 c8] 47)).alloc (.cells #[.string z, .string co, .string pa, .int .i64 nl, .slice A4' n4 c4', .int .i64 mm, .slice A6' n6 c6', .slice A7' n7 c7', .slice A8' n8 c8'] 47)) := (by repeat (first | exact Below.refl _ _ | refine ext_alloc ?_ _ | refine ext_drewN ?_ _ | refine ext_drew ?_ | refine ext_trans ?_ (by assumption)))
  obtain ⟨W, hW⟩ : ∃ W, (w.alloc (.cells #[.string z, .string co, .string pa, .int .i64 nl, .slice A4 n4 c4, .int .i64 mm, .slice A6 n6 c6, .slice A7 n7 c7, .slice A8 n8 c8] 47)).alloc (.cells #[.string z, .string co, .string pa, .int .i64 nl, .slice A4' n4 c4', .int .i64 mm, .slice A6' n6 c6', .slice A7' n7 c7', .slice A8' n8 c8'] 47) = W := ⟨_, rfl⟩
  unfold cboxV at x1 x1' x2
  dsimp only at x1 x1' x2
  rw [hW] at x1' x2 hb0
  have hsz : (w.alloc (.cells #[.string z, .string co, .string pa, .int .i64 nl, .slice A4 n4 c4, .int .i64 mm, .slice A6 n6 c6, .slice A7 n7 c7, .slice A8 n8 c8] 47)).heap.size = w.heap.size + 1 := World.size_alloc _ _
  rw [hsz] at x2
  clear x1 hsz
  obtain ⟨g1, hg1⟩ : ∃ g, w.heap.size = g := ⟨_, rfl⟩
  obtain ⟨g2, hg2⟩ : ∃ g, w.heap.size + 1 = g := ⟨_, rfl⟩
  rw [hg1] at x1'
  rw [hg2] at x2
  have gl1 := x1'.lt
  have gl2 := x2.lt
  have h1 := a4.later hb0
  have h2 := a6.later hb0
  have h3 := a7.later hb0
  have h4 := a8.later hb0
  have k1 := b4.later hb0
  have k2 := b6.later hb0
  have k3 := b7.later hb0
  have k4 := b8.later hb0
  have hC : Cn18 g1 0 (.string z) g1 1 (.string co) g1 2 (.string pa) g1 3 (.int .i64 nl) g1 4 (.slice A4 n4 c4) g1 5 (.int .i64 mm) g1 6 (.slice A6 n6 c6) g1 7 (.slice A7 n7 c7) g1 8 (.slice A8 n8 c8) g2 0 (.string z) g2 1 (.string co) g2 2 (.string pa) g2 3 (.int .i64 nl) g2 4 (.slice A4' n4 c4') g2 5 (.int .i64 mm) g2 6 (.slice A6' n6 c6') g2 7 (.slice A7' n7 c7') g2 8 (.slice A8' n8 c8') W := ⟨x1'.c0, x1'.c1, x1'.c2, x1'.c3, x1'.c4, x1'.c5, x1'.c6, x1'.c7, x1'.c8, x2.c0, x2.c1, x2.c2, x2.c3, x2.c4, x2.c5, x2.c6, x2.c7, x2.c8⟩
  have hI := fun (V : World) (hV : Below W.heap.size W V) => r2SameI_walk A4 A4' ps c4 c4' V (by omega) (h1.later hV) (k1.later hV)
  have hF := fun (V : World) (hV : Below W.heap.size W V) => r2SameS_walk A6 A6' fs c6 c6' V (by omega) (h2.later hV) (k2.later hV)
  have hT := fun (V : World) (hV : Below W.heap.size W V) => r2SameS_walk A7 A7' st c7 c7' V (by omega) (h3.later hV) (k3.later hV)
  rw [e4] at hI
  rw [e6] at hF
  rw [e7] at hT
  have hIc := hide (fun (V : World) (hV : Below W.heap.size W V) => (hI V hV).mono fun _ _ ⟨he, hb⟩ => (⟨he, ext_trans hV hb, hC.later (ext_trans hV hb)⟩ : _ = Ending.returned (.bool true) ∧ Below W.heap.size W _ ∧ Cn18 g1 0 (.string z) g1 1 (.string co) g1 2 (.string pa) g1 3 (.int .i64 nl) g1 4 (.slice A4 n4 c4) g1 5 (.int .i64 mm) g1 6 (.slice A6 n6 c6) g1 7 (.slice A7 n7 c7) g1 8 (.slice A8 n8 c8) g2 0 (.string z) g2 1 (.string co) g2 2 (.string pa) g2 3 (.int .i64 nl) g2 4 (.slice A4' n4 c4') g2 5 (.int .i64 mm) g2 6 (.slice A6' n6 c6') g2 7 (.slice A7' n7 c7') g2 8 (.slice A8' n8 c8') _))
  have hFc := hide (fun (V : World) (hV : Below W.heap.size W V) => (hF V hV).mono fun _ _ ⟨he, hb⟩ => (⟨he, ext_trans hV hb, hC.later (ext_trans hV hb)⟩ : _ = Ending.returned (.bool true) ∧ Below W.heap.size W _ ∧ Cn18 g1 0 (.string z) g1 1 (.string co) g1 2 (.string pa) g1 3 (.int .i64 nl) g1 4 (.slice A4 n4 c4) g1 5 (.int .i64 mm) g1 6 (.slice A6 n6 c6) g1 7 (.slice A7 n7 c7) g1 8 (.slice A8 n8 c8) g2 0 (.string z) g2 1 (.string co) g2 2 (.string pa) g2 3 (.int .i64 nl) g2 4 (.slice A4' n4 c4') g2 5 (.int .i64 mm) g2 6 (.slice A6' n6 c6') g2 7 (.slice A7' n7 c7') g2 8 (.slice A8' n8 c8') _))
  have hTc := hide (fun (V : World) (hV : Below W.heap.size W V) => (hT V hV).mono fun _ _ ⟨he, hb⟩ => (⟨he, ext_trans hV hb, hC.later (ext_trans hV hb)⟩ : _ = Ending.returned (.bool true) ∧ Below W.heap.size W _ ∧ Cn18 g1 0 (.string z) g1 1 (.string co) g1 2 (.string pa) g1 3 (.int .i64 nl) g1 4 (.slice A4 n4 c4) g1 5 (.int .i64 mm) g1 6 (.slice A6 n6 c6) g1 7 (.slice A7 n7 c7) g1 8 (.slice A8 n8 c8) g2 0 (.string z) g2 1 (.string co) g2 2 (.string pa) g2 3 (.int .i64 nl) g2 4 (.slice A4' n4 c4') g2 5 (.int .i64 mm) g2 6 (.slice A6' n6 c6') g2 7 (.slice A7' n7 c7') g2 8 (.slice A8' n8 c8') _))
  have hCd := hC.drew
  have hrefl := Below.refl W.heap.size W
  have he8 := hide e8
  replace hg1 := hide hg1
  replace hg2 := hide hg2
  replace hW := hide hW
  clear hI hF hT a4 a6 a7 a8 b4 b6 b7 b8 h1 h2 h3 k1 k2 k3 x1' x2 e4 e6 e7 e8 m4 m6 m7
  go_enter Tryz.func38, Tryz.ntmps38
  go_wp2_with fail
  try simp only [List.append_eq, List.cons_append, List.nil_append]
  rw [hW.out, hg2.out, hg1.out]
  refine (hIc.out _ hrefl).mono ?_
  rintro e w2 ⟨rfl, hb2, hc2⟩
  have gl1a := Nat.lt_of_lt_of_le gl1 hb2.size
  have gl2a := Nat.lt_of_lt_of_le gl2 hb2.size
  obtain ⟨-, -, -, -, -, -, q6, q7, q8, -, -, -, -, -, -, r6, r7, r8⟩ := hc2
  go_wp2_with fail
  refine (hFc.out _ hb2).mono ?_
  rintro e w3 ⟨rfl, hb3, hc3⟩
  have gl1b := Nat.lt_of_lt_of_le gl1 hb3.size
  have gl2b := Nat.lt_of_lt_of_le gl2 hb3.size
  clear q6 q7 q8 r6 r7 r8 gl1a gl2a hb2
  obtain ⟨-, -, -, -, -, -, -, q7, q8, -, -, -, -, -, -, -, r7, r8⟩ := hc3
  go_wp2_with fail
  refine (hTc.out _ hb3).mono ?_
  rintro e w4 ⟨rfl, hb4, hc4⟩
  clear q7 q8 r7 r8 gl1b gl2b hb3
  obtain ⟨-, -, -, -, -, -, -, -, y1, -, -, -, -, -, -, -, -, y2⟩ := hc4
  have f1 := h4.later hb4
  have f2 := k4.later hb4
  have hbw := ext_trans hb0 hb4
  have gl1' := Nat.lt_of_lt_of_le gl1 hb4.size
  have gl2' := Nat.lt_of_lt_of_le gl2 hb4.size
  clear hIc hFc hTc hC hCd hrefl hb4 h4 k4 gl1 gl2 hb0
  go_wp2_with fail
  go_loopw [5] (fun i wr => ∃ j : Nat, j ≤ n8 ∧ i = .int .i64 j ∧ Below w4.heap.size w4 wr) (fun i _ => n8 - (intOf i).toNat)
  case atStart => exact ⟨0, Nat.zero_le _, rfl, Below.refl _ _⟩
  case round =>
    obtain ⟨j, hj, rfl, hb⟩ := hrel
    have z1 := cell_later hb y1
    have z2 := cell_later hb y2
    have gr1 := Nat.lt_of_lt_of_le gl1' hb.size
    have gr2 := Nat.lt_of_lt_of_le gl2' hb.size
    by_cases hlt : j < n8
    · obtain ⟨s, hs⟩ : ∃ s, ss[j]? = some s := ⟨_, List.getElem?_eq_getElem (by rw [he8.out]; exact hlt)⟩
      obtain ⟨s1b, s1o, rfl, -, l1, u0, u1⟩ := (f1.later hb).start hs
      obtain ⟨s2b, s2o, rfl, -, l2, v0, v1⟩ := (f2.later hb).start hs
      obtain ⟨x1, x2⟩ := s
      dsimp only at u0 u1 v0 v1
      have hj0 : (0 : Int) ≤ (j : Int) := by omega
      have hj1 : (j : Int) < (n8 : Int) := by omega
      have hj2 : IntKind.i64.wrap ((j : Int) + 1) = (j : Int) + 1 := IntWalk.i64_in _ (by omega)
      have heq : ∀ W : World, (Op.equalIn 10000 70 (.agg #[.int .i64 x1, .int .i64 x2]) (.agg #[.int .i64 x1, .int .i64 x2])).run Tryz.prog W = .ok true W := fun W => (start_equal x1 x2 x1 x2 W).trans (by simp)
      clear hs f1 f2
      go_upto_region 6 with fail
      go_region
      all_goals
        go_wp2
        go_roundw
        case rel => exact ⟨j + 1, by omega, by go_num, by first | exact hb | exact ext_drew hb⟩
        case measure => simp [intOf]; omega
    · obtain rfl : j = n8 := by omega
      have hjj : ¬ (j : Int) < (j : Int) := by omega
      have hbx := ext_trans hbw hb
      clear f1 f2
      go_wp2
      go_ret
      exact ⟨rfl, hbx⟩
/-- Equal lists of classes are the same. -/
def ClsShortM (l : List Cls) : Prop := ∀ x ∈ l, x.2.2.2.2.1.length ≤ 9223372036854775807 ∧ x.2.2.2.2.2.2.1.length ≤ 9223372036854775807 ∧ x.2.2.2.2.2.2.2.1.length ≤ 9223372036854775807 ∧ x.2.2.2.2.2.2.2.2.length ≤ 9223372036854775807
set_option maxHeartbeats 16000000 in
theorem r10same_walk (A A' : Option Addr) (l : List Cls) (c c' : Nat) (w : World) (hn : l.length ≤ 9223372036854775807) (hm : ClsShortM l) (h1 : At kCls AnyB w A l) (h2 : At kCls AnyB w A' l) :
    Calls Tryz.prog 11 #[.slice A l.length c, .slice A' l.length c'] w fun e w' => e = .returned (.bool true) ∧ Below w.heap.size w w' := by
  obtain ⟨n, hnn⟩ : ∃ n, l.length = n := ⟨_, rfl⟩
  rw [hnn] at hn ⊢
  replace hnn := hide hnn
  replace hm := hide hm
  go_enter Tryz.func11, Tryz.ntmps11
  go_wp2
  go_loopw [5] (fun i wr => ∃ j : Nat, j ≤ n ∧ i = .int .i64 j ∧ Below w.heap.size w wr) (fun i _ => n - (intOf i).toNat)
  case atStart => exact ⟨0, Nat.zero_le _, rfl, Below.refl _ _⟩
  case round =>
    obtain ⟨j, hj, rfl, hb⟩ := hrel
    by_cases hlt : j < n
    · obtain ⟨x, hx⟩ : ∃ x, l[j]? = some x := ⟨_, List.getElem?_eq_getElem (by rw [hnn.out]; exact hlt)⟩
      obtain ⟨kb, off, A4, c4, A6, c6, A7, c7, A8, c8, rfl, -, hkb, hq, -, a4, a6, a7, a8⟩ := (h1.later hb).clsF hx
      obtain ⟨kb', off', A4', c4', A6', c6', A7', c7', A8', c8', rfl, -, hkb', hq', -, b4, b6, b7, b8⟩ := (h2.later hb).clsF hx
      obtain ⟨m4, m6, m7, m8⟩ := hm.out x (List.mem_of_getElem? hx)
      obtain ⟨z, co, pa, nl, ps, mm, fs, st, ss⟩ := x
      unfold nineOf at hq hq'
      dsimp only at hq hq' a4 a6 a7 a8 b4 b6 b7 b8 m4 m6 m7 m8
      obtain ⟨n4, e4⟩ : ∃ n4, ps.length = n4 := ⟨_, rfl⟩
      obtain ⟨n6, e6⟩ : ∃ n6, fs.length = n6 := ⟨_, rfl⟩
      obtain ⟨n7, e7⟩ : ∃ n7, st.length = n7 := ⟨_, rfl⟩
      obtain ⟨n8, e8⟩ : ∃ n8, ss.length = n8 := ⟨_, rfl⟩
      rw [e4] at hq hq' m4
      rw [e6] at hq hq' m6
      rw [e7] at hq hq' m7
      rw [e8] at hq hq' m8
      obtain ⟨q0, q1, q2, q3, q4, q5, q6, q7, q8⟩ := hq
      obtain ⟨r0, r1, r2, r3, r4, r5, r6, r7, r8⟩ := hq'
      dsimp only at q0 q1 q2 q3 q4 q5 q6 q7 q8 r0 r1 r2 r3 r4 r5 r6 r7 r8
      have hj0 : (0 : Int) ≤ (j : Int) := by omega
      have hj1 : (j : Int) < (n : Int) := by omega
      have hj2 : IntKind.i64.wrap ((j : Int) + 1) = (j : Int) + 1 := IntWalk.i64_in _ (by omega)
      have hC : Cn18 kb (off + j * 9) (.string z) kb (off + j * 9 + 1) (.string co) kb (off + j * 9 + 2) (.string pa) kb (off + j * 9 + 3) (.int .i64 nl) kb (off + j * 9 + 4) (.slice A4 n4 c4) kb (off + j * 9 + 5) (.int .i64 mm) kb (off + j * 9 + 6) (.slice A6 n6 c6) kb (off + j * 9 + 7) (.slice A7 n7 c7) kb (off + j * 9 + 8) (.slice A8 n8 c8) kb' (off' + j * 9) (.string z) kb' (off' + j * 9 + 1) (.string co) kb' (off' + j * 9 + 2) (.string pa) kb' (off' + j * 9 + 3) (.int .i64 nl) kb' (off' + j * 9 + 4) (.slice A4' n4 c4') kb' (off' + j * 9 + 5) (.int .i64 mm) kb' (off' + j * 9 + 6) (.slice A6' n6 c6') kb' (off' + j * 9 + 7) (.slice A7' n7 c7') kb' (off' + j * 9 + 8) (.slice A8' n8 c8') wr := ⟨q0, q1, q2, q3, q4, q5, q6, q7, q8, r0, r1, r2, r3, r4, r5, r6, r7, r8⟩
      have hcall := hide (fun (V : World) (hV : Below wr.heap.size wr V) => (r10same1_walk z co pa nl mm A4 A4' A6 A6' A7 A7' A8 A8' n4 n6 n7 n8 c4 c4' c6 c6' c7 c7' c8 c8' ps fs st ss V e4 e6 e7 e8 m4 m6 m7 m8 (a4.later hV) (a6.later hV) (a7.later hV) (a8.later hV) (b4.later hV) (b6.later hV) (b7.later hV) (b8.later hV)).mono fun _ _ ⟨he, hb⟩ => (⟨he, ext_trans hV hb, hC.later (ext_trans hV hb)⟩ : _ = Ending.returned (.bool true) ∧ Below wr.heap.size wr _ ∧ Cn18 kb (off + j * 9) (.string z) kb (off + j * 9 + 1) (.string co) kb (off + j * 9 + 2) (.string pa) kb (off + j * 9 + 3) (.int .i64 nl) kb (off + j * 9 + 4) (.slice A4 n4 c4) kb (off + j * 9 + 5) (.int .i64 mm) kb (off + j * 9 + 6) (.slice A6 n6 c6) kb (off + j * 9 + 7) (.slice A7 n7 c7) kb (off + j * 9 + 8) (.slice A8 n8 c8) kb' (off' + j * 9) (.string z) kb' (off' + j * 9 + 1) (.string co) kb' (off' + j * 9 + 2) (.string pa) kb' (off' + j * 9 + 3) (.int .i64 nl) kb' (off' + j * 9 + 4) (.slice A4' n4 c4') kb' (off' + j * 9 + 5) (.int .i64 mm) kb' (off' + j * 9 + 6) (.slice A6' n6 c6') kb' (off' + j * 9 + 7) (.slice A7' n7 c7') kb' (off' + j * 9 + 8) (.slice A8' n8 c8') _))
      have hCd := hC.drew
      have hrefl := Below.refl wr.heap.size wr
      clear h1 h2 hx a4 a6 a7 a8 b4 b6 b7 b8 m4 m6 m7 m8 e4 e6 e7 e8
      go_upto_region 6 with fail
      go_region_held3 (fun W' => W'.cell? ⟨kb, off + j * 9, none⟩ = some (.string z) ∧ W'.cell? ⟨kb, off + j * 9 + 1, none⟩ = some (.string co) ∧ W'.cell? ⟨kb, off + j * 9 + 2, none⟩ = some (.string pa) ∧ W'.cell? ⟨kb, off + j * 9 + 3, none⟩ = some (.int .i64 nl) ∧ W'.cell? ⟨kb, off + j * 9 + 4, none⟩ = some (.slice A4 n4 c4) ∧ W'.cell? ⟨kb, off + j * 9 + 5, none⟩ = some (.int .i64 mm) ∧ W'.cell? ⟨kb, off + j * 9 + 6, none⟩ = some (.slice A6 n6 c6) ∧ W'.cell? ⟨kb, off + j * 9 + 7, none⟩ = some (.slice A7 n7 c7) ∧ W'.cell? ⟨kb, off + j * 9 + 8, none⟩ = some (.slice A8 n8 c8) ∧ W'.cell? ⟨kb', off' + j * 9, none⟩ = some (.string z) ∧ W'.cell? ⟨kb', off' + j * 9 + 1, none⟩ = some (.string co) ∧ W'.cell? ⟨kb', off' + j * 9 + 2, none⟩ = some (.string pa) ∧ W'.cell? ⟨kb', off' + j * 9 + 3, none⟩ = some (.int .i64 nl) ∧ W'.cell? ⟨kb', off' + j * 9 + 4, none⟩ = some (.slice A4' n4 c4') ∧ W'.cell? ⟨kb', off' + j * 9 + 5, none⟩ = some (.int .i64 mm) ∧ W'.cell? ⟨kb', off' + j * 9 + 6, none⟩ = some (.slice A6' n6 c6') ∧ W'.cell? ⟨kb', off' + j * 9 + 7, none⟩ = some (.slice A7' n7 c7') ∧ W'.cell? ⟨kb', off' + j * 9 + 8, none⟩ = some (.slice A8' n8 c8')) (first | ((repeat (first | (with_reducible assumption) | (with_reducible refine Cn18.alloc ?_ _) | (with_reducible refine Cn18.drew ?_) | (with_reducible refine Cn18.set ?_ ?_ ?_ ?_ ?_ ?_ ?_ ?_ ?_ ?_ ?_ ?_ ?_ ?_ ?_ ?_ ?_ ?_ ?_ _) | omega)); done)) (first | (go_at_call 38; (with_reducible refine (hcall.out _ ?_).mono ?_); (focus ((repeat (first | (with_reducible assumption) | (with_reducible refine ext_alloc ?_ _) | (with_reducible refine ext_drew ?_))); done)); rintro e w2 ⟨rfl, hb2, hc2⟩))
      all_goals
        have hbn := ext_trans hb hb2
        clear hcall hC hCd hrefl hc2 q0 q1 q2 q3 q4 q5 q6 q7 q8 r0 r1 r2 r3 r4 r5 r6 r7 r8
        go_wp2
        go_roundw
        case rel => exact ⟨j + 1, by omega, by go_num, by first | exact ext_drew hbn | exact hbn⟩
        case measure => simp [intOf]; omega
    · obtain rfl : j = n := by omega
      go_wp2
      go_ret
      exact ⟨rfl, hb⟩
end Go.Proofs.YtimcdikeajbabaaGreatDoor

namespace Go.Proofs.YtimcdikeajbabaaGreatDoor
open Go.RowKit
set_option maxRecDepth 100000

theorem flatten_take {k : Nat} : ∀ (vss : List (List Value)), (∀ vs ∈ vss, vs.length = k) → ∀ n, (vss.take n).flatten = vss.flatten.take (n * k)
  | [], _, n => by simp
  | vs :: vss, h, 0 => by simp
  | vs :: vss, h, n + 1 => by
    have h1 := h vs (by simp)
    rw [List.take_succ_cons, List.flatten_cons, List.flatten_cons, flatten_take vss (fun x hx => h x (by simp [hx])) n, List.take_append, h1]
    rw [List.take_of_length_le (l := vs) (by rw [h1, Nat.add_mul]; omega), show (n + 1) * k - k = n * k from by rw [Nat.add_mul]; omega]
theorem Own.front {α : Type} {K : Kind α} {t : TypeId} {ts : List TypeId} {B0 B n c k : Nat} {w : World} {A : Option Addr} {l : List α} (h : Own K t ts B0 B w (.slice A n c) l) (hk : k ≤ n) : Own K t ts B0 B w (.slice A k c) (l.take k) := by
  obtain ⟨vss, e1, e2, e3⟩ := h
  have hall : ∀ vs ∈ vss, vs.length = K.k := by
    intro vs hv
    obtain ⟨j, hj⟩ := List.getElem?_of_mem hv
    have hjl := (List.getElem?_eq_some_iff.1 hj).1
    exact K.len (e3 j _ vs (List.getElem?_eq_getElem (by omega)) hj)
  have hfl := (reps_len l vss e1 e3).1
  have hn : n = l.length := by obtain ⟨A', c', e⟩ := owns_form e2; injection e
  have htl : (l.take k).length = k := by rw [List.length_take]; omega
  refine ⟨vss.take k, by rw [List.length_take, htl]; omega, ?_, fun j x vs hj hv => ?_⟩
  · rw [flatten_take vss hall k, htl]
    refine ⟨by rw [List.length_take, hfl]; exact Nat.min_eq_left (Nat.mul_le_mul_right _ (by omega)), ?_⟩
    rcases e2.2 with ⟨e, h0⟩ | ⟨g, cap, cur, e, hB, hg, h1, h2, h3, h4⟩
    · injection e with e e' e''
      have hk0 : k = 0 := by omega
      subst e e''
      exact .inl ⟨by rw [hk0], hk0⟩
    · injection e with e e' e''
      subst e e''
      refine .inr ⟨g, c, cur, rfl, hB, hg, by omega, h2, h3, ?_⟩
      rw [← h4, List.take_take]
      congr 1
      exact (Nat.min_eq_left (Nat.mul_le_mul_right _ (by omega))).symm
  · rw [List.getElem?_take] at hj hv
    split at hj
    · rename_i hjk
      rw [if_pos hjk] at hv
      exact e3 j x vs hj hv
    · cases hj
theorem step_own_app {P : Program} {t2 t : TypeId} {B bytes ns cs : Nat} {w : World} {As : Option Addr} {l : List ByteArray} {ops : Array Oper} {o : Oper} {a : Act} {K' : Act → World → Prop} {Q : Exit → Act → World → Prop} {E : Prop} (hgd : o.guard = none) (s x : Operand)
    (ho : o.op = .call { callee := .builtin .append, args := #[s, x], argTypes := #[t2, t2] }) (hA : Apd P t2 t 1 bytes) (hs : a.eval s = .slice As ns cs) (h : Own kStr t [] 0 B w (.slice As ns cs) l) {F : Option Addr} {es : List ByteArray} {k c : Nat} (hk0 : es.length = k) (hpos : 0 < k) (hx : a.eval x = .slice F k c) (hF : At kStr AnyB w F es) (hl : l.length + k ≤ 4000000000) (hby : bytes ≤ 1000) (hB : B ≤ w.heap.size)
    (hk : ∀ g cap w', Own kStr t [] 0 B w' (.slice (some ⟨g, 0, none⟩) (l.length + k) cap) (l ++ es) → w.grownBy w' (Value.slice As ns cs).ownBlock → g < w'.heap.size → K' (a.put o.dst (.slice (some ⟨g, 0, none⟩) (l.length + k) cap)) w') :
    if Region.wanted o (yielded ops a.tmps) = true then Oper.wp P o a w K' Q else E := by
  obtain ⟨i, z, hi, hz, h1, h2, h3⟩ := hA.i
  obtain ⟨b, off, vss, rfl, hb, hvl, hrep, hc⟩ := hF.rows (by omega)
  obtain ⟨vs0, e1, e2, e3⟩ := h
  obtain ⟨r1, r2⟩ := reps_len es vss hvl hrep
  refine step_append_lies w hgd s x t2 ho B t i z 1 bytes hA.u hi hz h1 h2 h3 (by decide) _ l.length vs0.flatten hs e2 ⟨b, off, none⟩ k c vss.flatten hx (by rw [r1, hk0]; rfl) (fun j u hj => by rw [Addr.add_lit]; exact hc j u hj) r2 hpos (by unfold maxLen; omega) (Nat.le_trans (Nat.mul_le_mul hl hby) (by decide)) hB w.heap.size rfl fun g cap w' hn hg _ hlt => hk g cap w' ?_ hg hlt
  have := Own.append (K := kStr) (B0 := 0) es vss vs0 e1 e2 e3 hvl (fun j x vs hj hv => hrep j x vs hj hv) (by simp) (Nat.zero_le _) hg (v' := .slice (some ⟨g, 0, none⟩) (l.length + k) cap) (by rw [hk0]; exact hn)
  exact this
end Go.Proofs.YtimcdikeajbabaaGreatDoor
