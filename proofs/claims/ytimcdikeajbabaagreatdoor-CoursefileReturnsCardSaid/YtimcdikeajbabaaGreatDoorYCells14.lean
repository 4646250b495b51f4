/- Walks of timetableref10.SameClass and Same at equal classes. Conditions: the cells. Plain: made classes are valid. No walk. Walks of strconv.Itoa and timetableref05.Decimal at numbers below 10000. Conditions: what the program's variables hold. Plain: what both Write of classes return; texts with a byte between. No walk. Plain: made classes, their records and their times. No walk. Eleven to fourteen cells that are known in a world. No condition. -/
import Derived.Test.YtimcdikeajbabaaGreatDoorRows
import Derived.WalkKit
import Derived.WalkSpells
import Derived.WalkLawsBesides
import Derived.BigGuardPart
import Derived.Lib.Hide
import Derived.Laws.BitsAllLaws
import Derived.Laws.BitsLemmas
import Derived.Lib.LaidTab
import Derived.Test.YtimcdikeajbabaaGreatDoorShelf
import Derived.Lib.ConvBytes
import Derived.Deep.QuietTactic
import Derived.BigQuiet
import Derived.Laws.ResultCell
import Derived.RegionTactic
import Derived.BigRegion
import Derived.Deep.RegionHeld3
import Derived.Deep.DeepCutAuto
import Derived.Lib.SmallJoins
import Derived.Lib.SplitLaws
import Derived.Lib.CountLaws
import Derived.Lib.IndexMore
import Derived.Lib.Split
import Derived.Lib.Join
import Derived.Lib.ItoaNum
import Derived.Laws.AppendOwn
import Derived.Shelf.SlSortCmp.NoneTotal
import Derived.Ground.SlsfProg
import Derived.Test.YtimcdikeajbabaaGreatDoorShelfS
import Derived.Test.YtimcdikeajbabaaGreatDoorShelfT
import Derived.Lib.ItoaLen
import Derived.Lib.AppendIntMem
import Derived.Deep.AppendLies
import Derived.Lib.PathFns
import Derived.Maps.Range
import Derived.Lib.OwnBridge
import Derived.Sort.OwnSorted
import Derived.Sort.Walk0
import Derived.Test.YtimcdikeajbabaaGreatDoorCards
import Derived.Test.YtimcdikeajbabaaGreatDoorTie
import Derived.ProofKit
import Derived.OpenShut
import Derived.LaidMore
import Derived.Lay
import Derived.SevenTiedAt
import Derived.Stop.Joined
import Derived.Stop.LaidErr
import Derived.Deep.DeepHandedRow
import Derived.Lib.LaidU8
import Derived.LaidSub
import Derived.Deep.Slices
import Derived.Deep.Fields
import Derived.ChangeSame
import Derived.Lib.SliceRun
import Derived.Lib.Walk
import Derived.Deep.RegionLaw
import Derived.Deep.RegionLawGrows
import Derived.Test.YtimcdikeajbabaaGreatDoorYPairs
import Derived.Test.YtimcdikeajbabaaGreatDoorYSameL
import Derived.Test.YtimcdikeajbabaaGreatDoorYSameT
import Derived.Test.YtimcdikeajbabaaGreatDoorYKComp
import Derived.Test.YtimcdikeajbabaaGreatDoorYDCls
import Derived.Test.YtimcdikeajbabaaGreatDoorYPatRd
import Derived.Test.YtimcdikeajbabaaGreatDoorYSorted
import Derived.Test.YtimcdikeajbabaaGreatDoorYKBack
import Derived.Test.YtimcdikeajbabaaGreatDoorYDiceT
import Derived.Test.YtimcdikeajbabaaGreatDoorYCmpB
namespace Go.Proofs.YtimcdikeajbabaaGreatDoor
open Go.RowKit
set_option maxRecDepth 100000

set_option maxHeartbeats 16000000 in
theorem r10same1_walk (z co pa : ByteArray) (nl mm : Int) (A4 A4' A6 A6' A7 A7' A8 A8' : Option Addr) (n4 n6 n7 n8 c4 c4' c6 c6' c7 c7' c8 c8' : Nat) (ps : List Int) (fs st : List ByteArray) (ss : List (Int × Int)) (w : World)
    (e4 : ps.length = n4) (e6 : fs.length = n6) (e7 : st.length = n7) (e8 : ss.length = n8) (m4 : n4 ≤ 9223372036854775807) (m6 : n6 ≤ 9223372036854775807) (m7 : n7 ≤ 9223372036854775807) (m8 : n8 ≤ 9223372036854775807)
    (a4 : At kInt AnyB w A4 ps) (a6 : At kStr AnyB w A6 fs) (a7 : At kStr AnyB w A7 st) (a8 : At kStart AnyB w A8 ss) (b4 : At kInt AnyB w A4' ps) (b6 : At kStr AnyB w A6' fs) (b7 : At kStr AnyB w A7' st) (b8 : At kStart AnyB w A8' ss) :
    Calls Tryz.prog 38 #[.agg #[.string z, .string co, .string pa, .int .i64 nl, .slice A4 n4 c4, .int .i64 mm, .slice A6 n6 c6, .slice A7 n7 c7, .slice A8 n8 c8], .agg #[.string z, .string co, .string pa, .int .i64 nl, .slice A4' n4 c4', .int .i64 mm, .slice A6' n6 c6', .slice A7' n7 c7', .slice A8' n8 c8']] w fun e w' => e = .returned (.bool true) ∧ Below w.heap.size w w' := by
  have x1 := cbox_new w ⟨z, co, pa, nl, A4, n4, c4, mm, A6, n6, c6, A7, n7, c7, A8, n8, c8⟩
  have x1' := x1.alloc (.cells #[.string z, .string co, .string pa, .int .i64 nl, .slice A4' n4 c4', .int .i64 mm, .slice A6' n6 c6', .slice A7' n7 c7', .slice A8' n8 c8'] 47)
  have x2 := cbox_new (w.alloc (.cells #[.string z, .string co, .string pa, .int .i64 nl, .slice A4 n4 c4, .int .i64 mm, .slice A6 n6 c6, .slice A7 n7 c7, .slice A8 n8 c8] 47)) ⟨z, co, pa, nl, A4', n4, c4', mm, A6', n6, c6', A7', n7, c7', A8', n8, c8'⟩
  have hb0 : Below w.heap.size w ((w.alloc (.cells #[.string z, .string co, .string pa, .int .i64 nl, .slice A4 n4 c4, .int .i64 mm, .slice A6 n6 c6, .slice A7 n7 c7, .slice A8 n8 c8] 47)).alloc (.cells #[.string z, .string co, .string pa, .int .i64 nl, .slice A4' n4 c4', .int .i64 mm, .slice A6' n6 c6', .slice A7' n7 c7', .slice A8' n8 c8'] 47)) := (by repeat (first | exact Below.refl _ _ | refine ext_alloc ?_ _ | refine ext_drewN ?_ _ | refine ext_drew ?_ | refine ext_trans ?_ (by assumption)))
  obtain ⟨W, hW⟩ : ∃ W, (w.alloc (.cells #[.string z, .string co, .string pa, .int .i64 nl, .slice A4 n4 c4, .int .i64 mm, .slice A6 n6 c6, .slice A7 n7 c7, .slice A8 n8 c8] 47)).alloc (.cells #[.string z, .string co, .string pa, .int .i64 nl, .slice A4' n4 c4', .int .i64 mm, .slice A6' n6 c6', .slice A7' n7 c7', .slice A8' n8 c8'] 47) = W := ⟨_, rfl⟩
  unfold cboxV at x1 x1' x2
  dsimp only at x1 x1' x2
  rw [hW] at x1' x2 hb0
  have hsz : (w.alloc (.cells #[.string z, .string co, .string pa, .int .i64 nl, .slice A4 n4 c4, .int .i64 mm, .slice A6 n6 c6, .slice A7 n7 c7, .slice A8 n8 c8] 47)).heap.size = w.heap.size + 1 := World.size_alloc _ _
  rw [hsz] at x2
  clear x1 hsz
  obtain ⟨g1, hg1⟩ : ∃ g, w.heap.size = g := ⟨_, rfl⟩
  obtain ⟨g2, hg2⟩ : ∃ g, w.heap.size + 1 = g := ⟨_, rfl⟩
  rw [hg1] at x1'
  rw [hg2] at x2
  have gl1 := x1'.lt
  have gl2 := x2.lt
  have h1 := a4.later hb0
  have h2 := a6.later hb0
  have h3 := a7.later hb0
  have h4 := a8.later hb0
  have k1 := b4.later hb0
  have k2 := b6.later hb0
  have k3 := b7.later hb0
  have k4 := b8.later hb0
  have hC : Cn18 g1 0 (.string z) g1 1 (.string co) g1 2 (.string pa) g1 3 (.int .i64 nl) g1 4 (.slice A4 n4 c4) g1 5 (.int .i64 mm) g1 6 (.slice A6 n6 c6) g1 7 (.slice A7 n7 c7) g1 8 (.slice A8 n8 c8) g2 0 (.string z) g2 1 (.string co) g2 2 (.string pa) g2 3 (.int .i64 nl) g2 4 (.slice A4' n4 c4') g2 5 (.int .i64 mm) g2 6 (.slice A6' n6 c6') g2 7 (.slice A7' n7 c7') g2 8 (.slice A8' n8 c8') W := ⟨x1'.c0, x1'.c1, x1'.c2, x1'.c3, x1'.c4, x1'.c5, x1'.c6, x1'.c7, x1'.c8, x2.c0, x2.c1, x2.c2, x2.c3, x2.c4, x2.c5, x2.c6, x2.c7, x2.c8⟩
  have hI := fun (V : World) (hV : Below W.heap.size W V) => r2SameI_walk A4 A4' ps c4 c4' V (by omega) (h1.later hV) (k1.later hV)
  have hF := fun (V : World) (hV : Below W.heap.size W V) => r2SameS_walk A6 A6' fs c6 c6' V (by omega) (h2.later hV) (k2.later hV)
  have hT := fun (V : World) (hV : Below W.heap.size W V) => r2SameS_walk A7 A7' st c7 c7' V (by omega) (h3.later hV) (k3.later hV)
  rw [e4] at hI
  rw [e6] at hF
  rw [e7] at hT
  have hIc := hide (fun (V : World) (hV : Below W.heap.size W V) => (hI V hV).mono fun _ _ ⟨he, hb⟩ => (⟨he, ext_trans hV hb, hC.later (ext_trans hV hb)⟩ : _ = Ending.returned (.bool true) ∧ Below W.heap.size W _ ∧ Cn18 g1 0 (.string z) g1 1 (.string co) g1 2 (.string pa) g1 3 (.int .i64 nl) g1 4 (.slice A4 n4 c4) g1 5 (.int .i64 mm) g1 6 (.slice A6 n6 c6) g1 7 (.slice A7 n7 c7) g1 8 (.slice A8 n8 c8) g2 0 (.string z) g2 1 (.string co) g2 2 (.string pa) g2 3 (.int .i64 nl) g2 4 (.slice A4' n4 c4') g2 5 (.int .i64 mm) g2 6 (.slice A6' n6 c6') g2 7 (.slice A7' n7 c7') g2 8 (.slice A8' n8 c8') _))
  have hFc := hide (fun (V : World) (hV : Below W.heap.size W V) => (hF V hV).mono fun _ _ ⟨he, hb⟩ => (⟨he, ext_trans hV hb, hC.later (ext_trans hV hb)⟩ : _ = Ending.returned (.bool true) ∧ Below W.heap.size W _ ∧ Cn18 g1 0 (.string z) g1 1 (.string co) g1 2 (.string pa) g1 3 (.int .i64 nl) g1 4 (.slice A4 n4 c4) g1 5 (.int .i64 mm) g1 6 (.slice A6 n6 c6) g1 7 (.slice A7 n7 c7) g1 8 (.slice A8 n8 c8) g2 0 (.string z) g2 1 (.string co) g2 2 (.string pa) g2 3 (.int .i64 nl) g2 4 (.slice A4' n4 c4') g2 5 (.int .i64 mm) g2 6 (.slice A6' n6 c6') g2 7 (.slice A7' n7 c7') g2 8 (.slice A8' n8 c8') _))
  have hTc := hide (fun (V : World) (hV : Below W.heap.size W V) => (hT V hV).mono fun _ _ ⟨he, hb⟩ => (⟨he, ext_trans hV hb, hC.later (ext_trans hV hb)⟩ : _ = Ending.returned (.bool true) ∧ Below W.heap.size W _ ∧ Cn18 g1 0 (.string z) g1 1 (.string co) g1 2 (.string pa) g1 3 (.int .i64 nl) g1 4 (.slice A4 n4 c4) g1 5 (.int .i64 mm) g1 6 (.slice A6 n6 c6) g1 7 (.slice A7 n7 c7) g1 8 (.slice A8 n8 c8) g2 0 (.string z) g2 1 (.string co) g2 2 (.string pa) g2 3 (.int .i64 nl) g2 4 (.slice A4' n4 c4') g2 5 (.int .i64 mm) g2 6 (.slice A6' n6 c6') g2 7 (.slice A7' n7 c7') g2 8 (.slice A8' n8 c8') _))
  have hCd := hC.drew
  have hrefl := Below.refl W.heap.size W
  have he8 := hide e8
  replace hg1 := hide hg1
  replace hg2 := hide hg2
  replace hW := hide hW
  clear hI hF hT a4 a6 a7 a8 b4 b6 b7 b8 h1 h2 h3 k1 k2 k3 x1' x2 e4 e6 e7 e8 m4 m6 m7
  go_enter Tryz.func38, Tryz.ntmps38
  go_wp2_with fail
  try simp only [List.append_eq, List.cons_append, List.nil_append]
  rw [hW.out, hg2.out, hg1.out]
  refine (hIc.out _ hrefl).mono ?_
  rintro e w2 ⟨rfl, hb2, hc2⟩
  have gl1a := Nat.lt_of_lt_of_le gl1 hb2.size
  have gl2a := Nat.lt_of_lt_of_le gl2 hb2.size
  obtain ⟨-, -, -, -, -, -, q6, q7, q8, -, -, -, -, -, -, r6, r7, r8⟩ := hc2
  go_wp2_with fail
  refine (hFc.out _ hb2).mono ?_
  rintro e w3 ⟨rfl, hb3, hc3⟩
  have gl1b := Nat.lt_of_lt_of_le gl1 hb3.size
  have gl2b := Nat.lt_of_lt_of_le gl2 hb3.size
  clear q6 q7 q8 r6 r7 r8 gl1a gl2a hb2
  obtain ⟨-, -, -, -, -, -, -, q7, q8, -, -, -, -, -, -, -, r7, r8⟩ := hc3
  go_wp2_with fail
  refine (hTc.out _ hb3).mono ?_
  rintro e w4 ⟨rfl, hb4, hc4⟩
  clear q7 q8 r7 r8 gl1b gl2b hb3
  obtain ⟨-, -, -, -, -, -, -, -, y1, -, -, -, -, -, -, -, -, y2⟩ := hc4
  have f1 := h4.later hb4
  have f2 := k4.later hb4
  have hbw := ext_trans hb0 hb4
  have gl1' := Nat.lt_of_lt_of_le gl1 hb4.size
  have gl2' := Nat.lt_of_lt_of_le gl2 hb4.size
  clear hIc hFc hTc hC hCd hrefl hb4 h4 k4 gl1 gl2 hb0
  go_wp2_with fail
  go_loopw [5] (fun i wr => ∃ j : Nat, j ≤ n8 ∧ i = .int .i64 j ∧ Below w4.heap.size w4 wr) (fun i _ => n8 - (intOf i).toNat)
  case atStart => exact ⟨0, Nat.zero_le _, rfl, Below.refl _ _⟩
  case round =>
    obtain ⟨j, hj, rfl, hb⟩ := hrel
    have z1 := cell_later hb y1
    have z2 := cell_later hb y2
    have gr1 := Nat.lt_of_lt_of_le gl1' hb.size
    have gr2 := Nat.lt_of_lt_of_le gl2' hb.size
    by_cases hlt : j < n8
    · obtain ⟨s, hs⟩ : ∃ s, ss[j]? = some s := ⟨_, List.getElem?_eq_getElem (by rw [he8.out]; exact hlt)⟩
      obtain ⟨s1b, s1o, rfl, -, l1, u0, u1⟩ := (f1.later hb).start hs
      obtain ⟨s2b, s2o, rfl, -, l2, v0, v1⟩ := (f2.later hb).start hs
      obtain ⟨x1, x2⟩ := s
      dsimp only at u0 u1 v0 v1
      have hj0 : (0 : Int) ≤ (j : Int) := by omega
      have hj1 : (j : Int) < (n8 : Int) := by omega
      have hj2 : IntKind.i64.wrap ((j : Int) + 1) = (j : Int) + 1 := IntWalk.i64_in _ (by omega)
      have heq : ∀ W : World, (Op.equalIn 10000 70 (.agg #[.int .i64 x1, .int .i64 x2]) (.agg #[.int .i64 x1, .int .i64 x2])).run Tryz.prog W = .ok true W := fun W => (start_equal x1 x2 x1 x2 W).trans (by simp)
      clear hs f1 f2
      go_upto_region 6 with fail
      go_region
      all_goals
        go_wp2
        go_roundw
        case rel => exact ⟨j + 1, by omega, by go_num, by first | exact hb | exact ext_drew hb⟩
        case measure => simp [intOf]; omega
    · obtain rfl : j = n8 := by omega
      have hjj : ¬ (j : Int) < (j : Int) := by omega
      have hbx := ext_trans hbw hb
      clear f1 f2
      go_wp2
      go_ret
      exact ⟨rfl, hbx⟩
/-- Equal lists of classes are the same. -/
def ClsShortM (l : List Cls) : Prop := ∀ x ∈ l, x.2.2.2.2.1.length ≤ 9223372036854775807 ∧ x.2.2.2.2.2.2.1.length ≤ 9223372036854775807 ∧ x.2.2.2.2.2.2.2.1.length ≤ 9223372036854775807 ∧ x.2.2.2.2.2.2.2.2.length ≤ 9223372036854775807
set_option maxHeartbeats 16000000 in
theorem r10same_walk (A A' : Option Addr) (l : List Cls) (c c' : Nat) (w : World) (hn : l.length ≤ 9223372036854775807) (hm : ClsShortM l) (h1 : At kCls AnyB w A l) (h2 : At kCls AnyB w A' l) :
    Calls Tryz.prog 11 #[.slice A l.length c, .slice A' l.length c'] w fun e w' => e = .returned (.bool true) ∧ Below w.heap.size w w' := by
  obtain ⟨n, hnn⟩ : ∃ n, l.length = n := ⟨_, rfl⟩
  rw [hnn] at hn ⊢
  replace hnn := hide hnn
  replace hm := hide hm
  go_enter Tryz.func11, Tryz.ntmps11
  go_wp2
  go_loopw [5] (fun i wr => ∃ j : Nat, j ≤ n ∧ i = .int .i64 j ∧ Below w.heap.size w wr) (fun i _ => n - (intOf i).toNat)
  case atStart => exact ⟨0, Nat.zero_le _, rfl, Below.refl _ _⟩
  case round =>
    obtain ⟨j, hj, rfl, hb⟩ := hrel
    by_cases hlt : j < n
    · obtain ⟨x, hx⟩ : ∃ x, l[j]? = some x := ⟨_, List.getElem?_eq_getElem (by rw [hnn.out]; exact hlt)⟩
      obtain ⟨kb, off, A4, c4, A6, c6, A7, c7, A8, c8, rfl, -, hkb, hq, -, a4, a6, a7, a8⟩ := (h1.later hb).clsF hx
      obtain ⟨kb', off', A4', c4', A6', c6', A7', c7', A8', c8', rfl, -, hkb', hq', -, b4, b6, b7, b8⟩ := (h2.later hb).clsF hx
      obtain ⟨m4, m6, m7, m8⟩ := hm.out x (List.mem_of_getElem? hx)
      obtain ⟨z, co, pa, nl, ps, mm, fs, st, ss⟩ := x
      unfold nineOf at hq hq'
      dsimp only at hq hq' a4 a6 a7 a8 b4 b6 b7 b8 m4 m6 m7 m8
      obtain ⟨n4, e4⟩ : ∃ n4, ps.length = n4 := ⟨_, rfl⟩
      obtain ⟨n6, e6⟩ : ∃ n6, fs.length = n6 := ⟨_, rfl⟩
      obtain ⟨n7, e7⟩ : ∃ n7, st.length = n7 := ⟨_, rfl⟩
      obtain ⟨n8, e8⟩ : ∃ n8, ss.length = n8 := ⟨_, rfl⟩
      rw [e4] at hq hq' m4
      rw [e6] at hq hq' m6
      rw [e7] at hq hq' m7
      rw [e8] at hq hq' m8
      obtain ⟨q0, q1, q2, q3, q4, q5, q6, q7, q8⟩ := hq
      obtain ⟨r0, r1, r2, r3, r4, r5, r6, r7, r8⟩ := hq'
      dsimp only at q0 q1 q2 q3 q4 q5 q6 q7 q8 r0 r1 r2 r3 r4 r5 r6 r7 r8
      have hj0 : (0 : Int) ≤ (j : Int) := by omega
      have hj1 : (j : Int) < (n : Int) := by omega
      have hj2 : IntKind.i64.wrap ((j : Int) + 1) = (j : Int) + 1 := IntWalk.i64_in _ (by omega)
      have hC : Cn18 kb (off + j * 9) (.string z) kb (off + j * 9 + 1) (.string co) kb (off + j * 9 + 2) (.string pa) kb (off + j * 9 + 3) (.int .i64 nl) kb (off + j * 9 + 4) (.slice A4 n4 c4) kb (off + j * 9 + 5) (.int .i64 mm) kb (off + j * 9 + 6) (.slice A6 n6 c6) kb (off + j * 9 + 7) (.slice A7 n7 c7) kb (off + j * 9 + 8) (.slice A8 n8 c8) kb' (off' + j * 9) (.string z) kb' (off' + j * 9 + 1) (.string co) kb' (off' + j * 9 + 2) (.string pa) kb' (off' + j * 9 + 3) (.int .i64 nl) kb' (off' + j * 9 + 4) (.slice A4' n4 c4') kb' (off' + j * 9 + 5) (.int .i64 mm) kb' (off' + j * 9 + 6) (.slice A6' n6 c6') kb' (off' + j * 9 + 7) (.slice A7' n7 c7') kb' (off' + j * 9 + 8) (.slice A8' n8 c8') wr := ⟨q0, q1, q2, q3, q4, q5, q6, q7, q8, r0, r1, r2, r3, r4, r5, r6, r7, r8⟩
      have hcall := hide (fun (V : World) (hV : Below wr.heap.size wr V) => (r10same1_walk z co pa nl mm A4 A4' A6 A6' A7 A7' A8 A8' n4 n6 n7 n8 c4 c4' c6 c6' c7 c7' c8 c8' ps fs st ss V e4 e6 e7 e8 m4 m6 m7 m8 (a4.later hV) (a6.later hV) (a7.later hV) (a8.later hV) (b4.later hV) (b6.later hV) (b7.later hV) (b8.later hV)).mono fun _ _ ⟨he, hb⟩ => (⟨he, ext_trans hV hb, hC.later (ext_trans hV hb)⟩ : _ = Ending.returned (.bool true) ∧ Below wr.heap.size wr _ ∧ Cn18 kb (off + j * 9) (.string z) kb (off + j * 9 + 1) (.string co) kb (off + j * 9 + 2) (.string pa) kb (off + j * 9 + 3) (.int .i64 nl) kb (off + j * 9 + 4) (.slice A4 n4 c4) kb (off + j * 9 + 5) (.int .i64 mm) kb (off + j * 9 + 6) (.slice A6 n6 c6) kb (off + j * 9 + 7) (.slice A7 n7 c7) kb (off + j * 9 + 8) (.slice A8 n8 c8) kb' (off' + j * 9) (.string z) kb' (off' + j * 9 + 1) (.string co) kb' (off' + j * 9 + 2) (.string pa) kb' (off' + j * 9 + 3) (.int .i64 nl) kb' (off' + j * 9 + 4) (.slice A4' n4 c4') kb' (off' + j * 9 + 5) (.int .i64 mm) kb' (off' + j * 9 + 6) (.slice A6' n6 c6') kb' (off' + j * 9 + 7) (.slice A7' n7 c7') kb' (off' + j * 9 + 8) (.slice A8' n8 c8') _))
      have hCd := hC.drew
      have hrefl := Below.refl wr.heap.size wr
      clear h1 h2 hx a4 a6 a7 a8 b4 b6 b7 b8 m4 m6 m7 m8 e4 e6 e7 e8
      go_upto_region 6 with fail
      go_region_held3 (fun W' => W'.cell? ⟨kb, off + j * 9, none⟩ = some (.string z) ∧ W'.cell? ⟨kb, off + j * 9 + 1, none⟩ = some (.string co) ∧ W'.cell? ⟨kb, off + j * 9 + 2, none⟩ = some (.string pa) ∧ W'.cell? ⟨kb, off + j * 9 + 3, none⟩ = some (.int .i64 nl) ∧ W'.cell? ⟨kb, off + j * 9 + 4, none⟩ = some (.slice A4 n4 c4) ∧ W'.cell? ⟨kb, off + j * 9 + 5, none⟩ = some (.int .i64 mm) ∧ W'.cell? ⟨kb, off + j * 9 + 6, none⟩ = some (.slice A6 n6 c6) ∧ W'.cell? ⟨kb, off + j * 9 + 7, none⟩ = some (.slice A7 n7 c7) ∧ W'.cell? ⟨kb, off + j * 9 + 8, none⟩ = some (.slice A8 n8 c8) ∧ W'.cell? ⟨kb', off' + j * 9, none⟩ = some (.string z) ∧ W'.cell? ⟨kb', off' + j * 9 + 1, none⟩ = some (.string co) ∧ W'.cell? ⟨kb', off' + j * 9 + 2, none⟩ = some (.string pa) ∧ W'.cell? ⟨kb', off' + j * 9 + 3, none⟩ = some (.int .i64 nl) ∧ W'.cell? ⟨kb', off' + j * 9 + 4, none⟩ = some (.slice A4' n4 c4') ∧ W'.cell? ⟨kb', off' + j * 9 + 5, none⟩ = some (.int .i64 mm) ∧ W'.cell? ⟨kb', off' + j * 9 + 6, none⟩ = some (.slice A6' n6 c6') ∧ W'.cell? ⟨kb', off' + j * 9 + 7, none⟩ = some (.slice A7' n7 c7') ∧ W'.cell? ⟨kb', off' + j * 9 + 8, none⟩ = some (.slice A8' n8 c8')) (first | ((repeat (first | (with_reducible assumption) | (with_reducible refine Cn18.alloc ?_ _) | (with_reducible refine Cn18.drew ?_) | (with_reducible refine Cn18.set ?_ ?_ ?_ ?_ ?_ ?_ ?_ ?_ ?_ ?_ ?_ ?_ ?_ ?_ ?_ ?_ ?_ ?_ ?_ _) | omega)); done)) (first | (go_at_call 38; (with_reducible refine (hcall.out _ ?_).mono ?_); (focus ((repeat (first | (with_reducible assumption) | (with_reducible refine ext_alloc ?_ _) | (with_reducible refine ext_drew ?_))); done)); rintro e w2 ⟨rfl, hb2, hc2⟩))
      all_goals
        have hbn := ext_trans hb hb2
        clear hcall hC hCd hrefl hc2 q0 q1 q2 q3 q4 q5 q6 q7 q8 r0 r1 r2 r3 r4 r5 r6 r7 r8
        go_wp2
        go_roundw
        case rel => exact ⟨j + 1, by omega, by go_num, by first | exact ext_drew hbn | exact hbn⟩
        case measure => simp [intOf]; omega
    · obtain rfl : j = n := by omega
      go_wp2
      go_ret
      exact ⟨rfl, hb⟩
end Go.Proofs.YtimcdikeajbabaaGreatDoor

namespace Go.Proofs.YtimcdikeajbabaaGreatDoor
open Go.RowKit
set_option maxRecDepth 100000

theorem asc_of {l : List ByteArray} (hc : ∀ x ∈ l, codeB x = true) (hp : l.Pairwise fun x y => x.data.toList < y.data.toList) : ∀ k, k ≤ l.length → ascTo l k = true
  | 0, _ => rfl
  | k + 1, h => by
    have hk : k < l.length := by omega
    have hg := getD_at hk
    rw [ascTo, asc_of hc hp k (by omega), hg, hc _ (List.getElem_mem _), Bool.true_and, Bool.true_and]
    by_cases h0 : k = 0
    · rw [decide_eq_true h0]; rfl
    · have hlt := List.pairwise_iff_getElem.1 hp (k - 1) k (by omega) hk (by omega)
      rw [decide_eq_false h0, Bool.false_or, getD_at (show k - 1 < l.length by omega), Bool.not_eq_true']
      unfold leqS
      rw [Bool.or_eq_false_iff]
      refine ⟨?_, ?_⟩
      · show lessS _ _ = false
        cases hl : lessS l[k] l[k - 1] with
        | false => rfl
        | true => exact absurd (List.lt_trans ((lessS_iff _ _).1 hl) hlt) (List.lt_irrefl _)
      · rw [toList_dataL, toList_dataL]
        refine beq_false_of_ne fun e => ?_
        rw [e] at hlt
        exact List.lt_irrefl _ hlt
theorem asc_sub {l m : List ByteArray} (hs : l.Sublist m) (hc : ∀ x ∈ m, codeB x = true) (hp : m.Pairwise fun x y => x.data.toList < y.data.toList) : ascTo l l.length = true :=
  asc_of (fun x hx => hc x (hs.subset hx)) (hp.sublist hs) _ (Nat.le_refl _)
theorem featuresL_ok : (∀ x ∈ featuresL, codeB x = true) ∧ featuresL.Pairwise fun x y => x.data.toList < y.data.toList := by
  refine ⟨by decide +kernel, ?_⟩
  unfold featuresL
  decide
theorem peopleL_ok : (∀ x ∈ peopleL, codeB x = true) ∧ peopleL.Pairwise fun x y => x.data.toList < y.data.toList := by
  refine ⟨by decide +kernel, ?_⟩
  unfold peopleL
  decide
theorem partsL_ok : ∀ x ∈ partsL, codeB x = true := by decide +kernel
theorem clsName_ok : ∀ j : Nat, j < 6 → codeB (clsName j) = true := by decide +kernel
theorem clsName_ne : ∀ i : Nat, i < 6 → ∀ j : Nat, j < 6 → clsName i = clsName j → i = j := by decide +kernel
theorem pats_of {n : Int} {ps : List Int} (hv : ∀ p ∈ ps, validB p n = true) (hn : ps.Nodup) : ∀ k, k ≤ ps.length → patsTo n ps k = true
  | 0, _ => rfl
  | k + 1, h => by
    have hx : ps[k]? = some ps[k] := List.getElem?_eq_getElem (by omega)
    rw [patsTo, pats_of hv hn k (by omega), getD_atG (by omega), hv _ (List.getElem_mem _), Bool.true_and, Bool.true_and, Bool.not_eq_true']
    cases hm : (ps.take k).contains ps[k] with
    | false => rfl
    | true =>
      rw [List.contains_iff_mem] at hm
      obtain ⟨i, hi⟩ := List.getElem?_of_mem hm
      rw [List.getElem?_take] at hi
      split at hi
      · rename_i hik
        exact (get_nodup hn hik hi hx).elim
      · cases hi
theorem starts_of {d sl len : Int} {ss : List (Int × Int)} (hv : ∀ s ∈ ss, possB d sl len s = true) (hp : ss.Pairwise fun a b => lessB a b = true) : ∀ k, k ≤ ss.length → startsTo d sl len ss k = true
  | 0, _ => rfl
  | k + 1, h => by
    have hk : k < ss.length := by omega
    rw [startsTo, starts_of hv hp k (by omega), getD_atG hk, hv _ (List.getElem_mem _), Bool.true_and, Bool.true_and]
    by_cases h0 : k = 0
    · rw [decide_eq_true h0]; rfl
    · rw [decide_eq_false h0, Bool.false_or, getD_atG (show k - 1 < ss.length by omega)]
      exact List.pairwise_iff_getElem.1 hp (k - 1) k (by omega) hk (by omega)
/-- What is right with a made class. -/
theorem clsEx_made {N : Nat} {d s : Int} {x : Cls} (hN1 : 1 ≤ N) (hN : N ≤ 20) (hc : codeB x.1 = true) (h : ClassMade N d s x) (hst : x.2.2.2.2.2.2.2.1.Sublist peopleL) : clsEx d s N x = 0 := by
  obtain ⟨h1, h2, h3, h4, h5, h6, h7⟩ := h
  obtain ⟨p1, p2, p3, p4⟩ := h4
  obtain ⟨q1, q2, q3, q4⟩ := h7
  have hv : ∀ p ∈ x.2.2.2.2.1, validB p N = true := fun p hp => by
    have := p4 p hp
    refine validB_iff.2 ⟨by omega, by omega, this.1, ?_⟩
    rw [Int.toNat_natCast]
    have e : ((2 : Int) ^ N) = ((2 ^ N : Nat) : Int) := by simp
    rw [e]; exact this.2
  have hpE : patsE N x.2.2.2.2.1 = 0 := by
    unfold patsE
    rw [if_neg (by omega), if_neg (by omega), pats_of hv p3 _ (Nat.le_refl _), if_neg (by simp)]
  have hfl := h6.length_le
  have hsl := hst.length_le
  have hfl3 : featuresL.length = 3 := rfl
  have hpl3 : peopleL.length = 3 := rfl
  have ha1 := asc_sub h6 featuresL_ok.1 featuresL_ok.2
  have ha2 := asc_sub hst peopleL_ok.1 peopleL_ok.2
  have hso : startsTo d s x.2.2.2.1 x.2.2.2.2.2.2.2.2 x.2.2.2.2.2.2.2.2.length = true :=
    starts_of (fun y hy => by unfold possB; rw [decide_eq_true_eq]; exact q4 y hy) (q3.imp fun h => (lessB_iff _ _).2 (Or.inl h)) _ (Nat.le_refl _)
  unfold clsEx
  rw [hc, mcourses_ok _ h1, partsL_ok _ h2, hpE, ha1, ha2, hso, if_neg (by simp), if_neg (by simp), if_neg (by simp), if_neg (by omega), if_neg (by omega), if_neg (by simp), if_neg (by omega), if_neg (by omega), if_neg (by omega), if_neg (by omega), if_neg (by simp), if_neg (by simp), if_neg (by omega), if_neg (by simp)]
theorem classes_valid {N : Nat} {d s b m : Int} {most : Nat} {names : List ByteArray} {l : List Cls} (hw : weekB d s b m N = true) (hN1 : 1 ≤ N) (hN : N ≤ 20) (hmost : most ≤ 6) (hs : names.Sublist peopleL) (h : ClassesMade N d s most names l) :
    validK d s b m N l = 0 ∧ ∀ x ∈ l, x.2.2.2.2.2.1 ≤ 30 := by
  obtain ⟨hl, hm⟩ := h
  refine ⟨?_, fun x hx => ?_⟩
  · have herr : ∀ k, k ≤ l.length → clsErr d s N l k = 0 := by
      intro k
      induction k with
      | zero => intro _; rfl
      | succ k ih =>
        intro hk
        have hx : l[k]? = some l[k] := List.getElem?_eq_getElem (by omega)
        obtain ⟨e1, e2, e3⟩ := hm k _ hx
        have hE := clsEx_made hN1 hN (by rw [e1]; exact clsName_ok k (by omega)) e2 (e3.trans hs)
        refine cls_on hx (ih (by omega)) ?_
        unfold clsE
        rw [hE, if_neg (by simp), if_neg]
        intro hi
        have hmem := idx_mem.1 hi
        obtain ⟨i, hi2⟩ := List.getElem?_of_mem hmem
        rw [List.getElem?_take] at hi2
        split at hi2
        · rename_i hik
          unfold codesK at hi2
          rw [List.getElem?_map, List.getElem?_eq_getElem (by omega)] at hi2
          have h4 := (hm i _ (List.getElem?_eq_getElem (by omega))).1
          injection hi2 with hi2
          have hi2 : l[i].1 = l[k].1 := hi2
          rw [h4, e1] at hi2
          have := clsName_ne i (by omega) k (by omega) hi2
          omega
        · cases hi2
    unfold validK
    rw [if_neg (by rw [hw]; simp), if_neg (by omega)]
    exact herr _ (Nat.le_refl _)
  · obtain ⟨j, hj⟩ := List.getElem?_of_mem hx
    exact (hm j x hj).2.1.seats.2
theorem staff_names {N : Nat} {d s : Int} {ls : List Lect} (h : StaffMade N d s ls) : (ls.map fun x => x.1).Sublist peopleL := by
  obtain ⟨h1, h2⟩ := h
  have : (ls.map fun x => x.1) = peopleL.take ls.length := by
    refine List.ext_getElem? fun j => ?_
    rw [List.getElem?_map, List.getElem?_take]
    by_cases hj : j < ls.length
    · rw [if_pos hj, List.getElem?_eq_getElem hj]
      exact (h2 j _ (List.getElem?_eq_getElem hj)).1.symm
    · rw [if_neg hj, List.getElem?_eq_none (by omega)]; rfl
  rw [this]
  exact List.take_sublist _ _
end Go.Proofs.YtimcdikeajbabaaGreatDoor

namespace Go.Proofs.YtimcdikeajbabaaGreatDoor
open Go.RowKit
set_option maxRecDepth 100000

theorem decB_size (n : Nat) (h : n ≤ 9999) : (decB n).size ≤ 21 := by
  have := Lib.itoa_length_le n (by omega) (by omega)
  rw [← len_size]; exact this
theorem itoaD_walk (n : Int) (h0 : 0 ≤ n) (h : n ≤ 9999) (w : World) (hS : Std w) :
    Calls Tryz.prog 46 #[.int .i64 n] w fun e w' => e = .returned (.string (decB n.toNat)) ∧ Below w.heap.size w w' := by
  obtain ⟨k, rfl⟩ := Int.eq_ofNat_of_zero_le h0
  refine (Tryz.strconv_Itoa k (by omega) (by omega) w hS.pow10).mono ?_
  rintro e w' ⟨rfl, k, os, rfl⟩
  exact ⟨rfl, Lib.below_grow w.heap.size w (Nat.le_refl _) k os⟩
end Go.Proofs.YtimcdikeajbabaaGreatDoor

namespace Go.Proofs.YtimcdikeajbabaaGreatDoor
open Go.RowKit
set_option maxRecDepth 100000

def KWriteIs (d sl b m n : Int) (l : List Cls) (w : World) (e : Ending) (w' : World) : Prop :=
  ∃ v, e = .returned (.tuple #[v, .int .i64 (validK d sl b m n l)]) ∧ Own (kSlice kStr) 44 [9] 0 w.heap.size w' v (rowsK d sl b m n l) ∧ Below w.heap.size w w'
theorem lensC (c : UInt8) (m : Nat) : ∀ (l : List (List UInt8)), (∀ x ∈ l, x.length ≤ m) → (Lib.join l [c]).length ≤ (m + 1) * l.length
  | [], _ => by simp [Lib.join_nil]
  | [x], h => by
    rw [Lib.join_one]
    have := h x (by simp)
    simp; omega
  | x :: y :: r, h => by
    have ih := lensC c m (y :: r) (fun z hz => h z (by simp [hz]))
    have h1 := h x (by simp)
    have : Lib.join (x :: y :: r) [c] = x ++ c :: Lib.join (y :: r) [c] := by simp [Lib.join, List.intercalate]
    rw [this]
    simp only [List.length_append, List.length_cons, Nat.mul_add] at ih ⊢
    omega
theorem setB_len {n p : Int} (hn : n ≤ 20) : (setB n p).data.toList.length ≤ 120 := by
  have e : (setB n p).data.toList = (fmtV p n).1 := by unfold setB; simp
  rw [e]
  unfold fmtV
  split
  · exact formatL_len p.toNat n.toNat (by omega)
  · simp
theorem startB_eq {k q : Nat} : startB ((k : Int), (q : Int)) = dayB k ++ (⟨#[32]⟩ : ByteArray) ++ decB (q + 1) := by unfold startB; rw [Int.toNat_natCast]; rfl
theorem startB_size {d sl nl : Int} {ss : List (Int × Int)} (hs : sl ≤ 24) (hn : 1 ≤ nl) (h : startsTo d sl nl ss ss.length = true) : ∀ x ∈ ss, (startB x).size ≤ 24 := by
  intro s hs'
  obtain ⟨u, hu⟩ := List.getElem?_of_mem hs'
  have hpo := (startsTo_at h u (List.getElem?_eq_some_iff.1 hu).1).1
  rw [List.getD_eq_getElem?_getD, hu] at hpo
  have hpo2 : 0 ≤ s.1 ∧ s.1 < d ∧ 0 ≤ s.2 ∧ s.2 ≤ sl - nl := by unfold possB at hpo; simpa using hpo
  obtain ⟨s1, s2⟩ := s
  dsimp only at hpo2
  obtain ⟨k, rfl⟩ := Int.eq_ofNat_of_zero_le hpo2.1
  obtain ⟨q, rfl⟩ := Int.eq_ofNat_of_zero_le hpo2.2.2.1
  rw [startB_eq]
  have h1 := dayB_size k
  have h2 := decB_size (q + 1) (by omega)
  simp only [ByteArray.size_append]
  have : (⟨#[32]⟩ : ByteArray).size = 1 := rfl
  omega
theorem joinZ_size (c : UInt8) (m : Nat) (l : List ByteArray) (h : ∀ x ∈ l, x.size ≤ m) : (joinZ c l).size ≤ (m + 1) * l.length := by
  have h1 := lensC c m (l.map (·.data.toList)) (fun x hx => by
    obtain ⟨y, hy, rfl⟩ := List.mem_map.1 hx
    rw [ba_len]; exact h y hy)
  rw [List.length_map] at h1
  rw [← ba_len]
  unfold joinZ
  simpa using h1
end Go.Proofs.YtimcdikeajbabaaGreatDoor

namespace Go.Proofs.YtimcdikeajbabaaGreatDoor
open Go.RowKit
set_option maxRecDepth 100000

theorem sub3 {α : Type} {l : List α} {a b c : α} (h : l.Sublist [a, b, c]) : l ∈ [[], [a], [b], [c], [a, b], [a, c], [b, c], [a, b, c]] := by
  have h1 : ∀ {m : List α} {x : α}, m.Sublist [x] → m = [] ∨ m = [x] := by
    intro m x h
    cases h with
    | cons _ h => exact Or.inl (List.sublist_nil.1 h)
    | cons_cons _ h => exact Or.inr (by rw [List.sublist_nil.1 h])
  have h2 : ∀ {m : List α} {x y : α}, m.Sublist [x, y] → m = [] ∨ m = [y] ∨ m = [x] ∨ m = [x, y] := by
    intro m x y h
    cases h with
    | cons _ h => rcases h1 h with rfl | rfl <;> simp
    | cons_cons _ h => rcases h1 h with rfl | rfl <;> simp
  cases h with
  | cons _ h => rcases h2 h with rfl | rfl | rfl | rfl <;> simp
  | cons_cons _ h => rcases h2 h with rfl | rfl | rfl | rfl <;> simp
theorem joinF_size {l : List ByteArray} (h : l.Sublist featuresL) : (joinV l).2.size ≤ 900 := by
  have key : ∀ l ∈ [[], [(⟨#[98, 101, 97, 109, 101, 114]⟩ : ByteArray)], [⟨#[108, 97, 98]⟩], [⟨#[112, 105, 97, 110, 111]⟩], [⟨#[98, 101, 97, 109, 101, 114]⟩, ⟨#[108, 97, 98]⟩], [⟨#[98, 101, 97, 109, 101, 114]⟩, ⟨#[112, 105, 97, 110, 111]⟩], [⟨#[108, 97, 98]⟩, ⟨#[112, 105, 97, 110, 111]⟩], [⟨#[98, 101, 97, 109, 101, 114]⟩, ⟨#[108, 97, 98]⟩, ⟨#[112, 105, 97, 110, 111]⟩]], (joinV l).2.size ≤ 900 := by decide +kernel
  exact key l (sub3 h)
theorem joinS_size {l : List ByteArray} (h : l.Sublist peopleL) : (joinV l).2.size ≤ 900 := by
  have key : ∀ l ∈ [[], [(⟨#[97, 100, 97]⟩ : ByteArray)], [⟨#[98, 111, 98]⟩], [⟨#[99, 121]⟩], [⟨#[97, 100, 97]⟩, ⟨#[98, 111, 98]⟩], [⟨#[97, 100, 97]⟩, ⟨#[99, 121]⟩], [⟨#[98, 111, 98]⟩, ⟨#[99, 121]⟩], [⟨#[97, 100, 97]⟩, ⟨#[98, 111, 98]⟩, ⟨#[99, 121]⟩]], (joinV l).2.size ≤ 900 := by decide +kernel
  exact key l (sub3 h)
/-- What both walks of made classes want to know of their records. -/
theorem rowK_small {N : Nat} {d s : Int} {x : Cls} (hN1 : 1 ≤ N) (hN : N ≤ 20) (_ : d ≤ 7) (hs : s ≤ 24) (hc : codeB x.1 = true) (h : ClassMade N d s x) (hst : x.2.2.2.2.2.2.2.1.Sublist peopleL) :
    (rowK N x).length = 9 ∧ ∀ z ∈ rowK N x, z.size ≤ 900 := by
  have hE := clsEx_made hN1 hN hc h hst
  obtain ⟨-, -, -, k3, k4, k5, -, -, k8⟩ := clsEx_ok hE
  obtain ⟨h1, h2, h3, h4, h5, h6, h7⟩ := h
  refine ⟨rfl, fun z hz => ?_⟩
  have hcode : ∀ y : ByteArray, codeB y = true → y.size ≤ 900 := fun y hy => by have := (code_size hy).2; omega
  simp only [rowK, List.mem_cons, List.not_mem_nil, or_false] at hz
  rcases hz with rfl | rfl | rfl | rfl | rfl | rfl | rfl | rfl | rfl
  · exact hcode _ hc
  · exact hcode _ (mcourses_ok _ h1)
  · exact hcode _ (partsL_ok _ h2)
  · have := decB_size x.2.2.2.1.toNat (by omega); omega
  · have h9 := joinZ_size 47 120 (x.2.2.2.2.1.map (setB N)) (fun y hy => by
      obtain ⟨p, -, rfl⟩ := List.mem_map.1 hy
      rw [← ba_len]; exact setB_len (by omega))
    rw [List.length_map] at h9
    have := h4.2.1
    omega
  · have := decB_size x.2.2.2.2.2.1.toNat (by omega); omega
  · exact joinF_size h6
  · exact joinS_size hst
  · have h9 := joinZ_size 59 24 (x.2.2.2.2.2.2.2.2.map startB) (fun y hy => by
      obtain ⟨p, hp, rfl⟩ := List.mem_map.1 hy
      exact startB_size hs h3.1 k8.2 p hp)
    rw [List.length_map] at h9
    have := h7.2.1
    omega
theorem classes_rows {N : Nat} {d s b m : Int} {most : Nat} {names : List ByteArray} {l : List Cls} (hw : weekB d s b m N = true) (hN1 : 1 ≤ N) (hN : N ≤ 20) (hmost : most ≤ 6) (hs : names.Sublist peopleL) (h : ClassesMade N d s most names l) :
    (rowsK d s b m N l).length = l.length ∧ ∀ x ∈ rowsK d s b m N l, x.length = 9 ∧ ∀ z ∈ x, z.size ≤ 900 := by
  obtain ⟨d1, d7, s1, s24, -, -⟩ := week_bd hw
  have hv := (classes_valid hw hN1 hN hmost hs h).1
  unfold rowsK
  rw [if_pos hv]
  refine ⟨List.length_map _, fun y hy => ?_⟩
  obtain ⟨x, hx, rfl⟩ := List.mem_map.1 hy
  obtain ⟨j, hj⟩ := List.getElem?_of_mem hx
  obtain ⟨e1, e2, e3⟩ := h.2 j x hj
  have hjl := (List.getElem?_eq_some_iff.1 hj).1
  have := h.1
  exact rowK_small hN1 hN d7 s24 (by rw [e1]; exact clsName_ok j (by omega)) e2 (e3.trans hs)
theorem classes_short {N : Nat} {d s : Int} {most : Nat} {names : List ByteArray} {l : List Cls} (hs : names.Sublist peopleL) (h : ClassesMade N d s most names l) :
    ∀ x ∈ l, x.2.2.2.2.1.length ≤ 2 ∧ x.2.2.2.2.2.2.1.length ≤ 3 ∧ x.2.2.2.2.2.2.2.1.length ≤ 3 ∧ x.2.2.2.2.2.2.2.2.length ≤ 3 := by
  intro x hx
  obtain ⟨j, hj⟩ := List.getElem?_of_mem hx
  obtain ⟨-, e2, e3⟩ := h.2 j x hj
  exact ⟨e2.pats.2.1, e2.feats.length_le, (e3.trans hs).length_le, e2.starts.2.1⟩
/-- The times of a made class fit the grid; there are as many as patterns times starts. -/
theorem made_times {N : Nat} {d s b m : Int} {x : Cls} (hw : weekB d s b m N = true) (hN1 : 1 ≤ N) (hN : N ≤ 20) (h : ClassMade N d s x) :
    (timesK d s b m x).length = x.2.2.2.2.1.length * x.2.2.2.2.2.2.2.2.length ∧ ∀ t ∈ timesK d s b m x, fitsV d s b m N t.1 t.2.1 t.2.2.1 t.2.2.2 = 0 ∧ t.2.2.2 = x.2.2.2.1 := by
  obtain ⟨d1, d7, s1, s24, -, -⟩ := week_bd hw
  obtain ⟨-, -, h3, h4, -, -, h7⟩ := h
  obtain ⟨q1, q2, -, q4⟩ := h7
  obtain ⟨p1, p2, -, p4⟩ := h4
  have hg : gridV d s b m = 0 := by
    unfold weekB at hw
    rw [Bool.and_eq_true, decide_eq_true_eq] at hw
    exact hw.1
  have hne : ¬ x.2.2.2.2.2.2.2.2 = [] := fun e => by rw [e] at q1; simp at q1
  have hbeg : begins d s x = x.2.2.2.2.2.2.2.2 := by unfold begins; rw [if_neg hne]
  have hlen := patT_len x.2.2.2.1 x.2.2.2.2.2.2.2.2 x.2.2.2.2.1
  have hmul : x.2.2.2.2.1.length * x.2.2.2.2.2.2.2.2.length ≤ 2 * 3 := Nat.mul_le_mul p2 q2
  have hT : timesK d s b m x = x.2.2.2.2.1.flatMap (patT x.2.2.2.1 x.2.2.2.2.2.2.2.2) := by
    unfold timesK
    rw [hbeg, if_neg (by rw [hg]; omega), if_neg (by rw [hlen]; omega)]
  rw [hT]
  refine ⟨hlen, fun t ht => ?_⟩
  obtain ⟨p, hp, ht⟩ := List.mem_flatMap.1 ht
  unfold patT at ht
  obtain ⟨st, hst, rfl⟩ := List.mem_map.1 ht
  have h5 := q4 st hst
  have h6 := p4 p hp
  refine ⟨?_, rfl⟩
  have e : ((2 : Int) ^ N) = ((2 ^ N : Nat) : Int) := by simp
  have hv : validB p N = true := by
    refine validB_iff.2 ⟨by omega, by omega, h6.1, ?_⟩
    rw [Int.toNat_natCast, e]; exact h6.2
  have hv20 : validB p 20 = true := by
    refine validB_iff.2 ⟨by omega, by omega, h6.1, ?_⟩
    have : (2 : Nat) ^ N ≤ 2 ^ 20 := Nat.pow_le_pow_right (by omega) hN
    have h8 := h6.2
    show p < (2 : Int) ^ 20
    have e2 : ((2 : Int) ^ 20) = ((2 ^ 20 : Nat) : Int) := by simp
    omega
  unfold fitsV
  rw [if_neg (by rw [hw]; simp), if_neg]
  unfold soundB
  rw [hv20, hv, Bool.true_and]
  intro h
  rcases h with h | h | h | h
  · rw [decide_eq_false_iff_not] at h; dsimp only at h; omega
  · cases h
  · dsimp only at h; omega
  · dsimp only at h; omega
end Go.Proofs.YtimcdikeajbabaaGreatDoor

namespace Go.Proofs.YtimcdikeajbabaaGreatDoor
open Go.RowKit
set_option maxRecDepth 100000

section
variable {b1 o1 b2 o2 b3 o3 b4 o4 b5 o5 b6 o6 b7 o7 b8 o8 b9 o9 b10 o10 b11 o11 : Nat} {v1 v2 v3 v4 v5 v6 v7 v8 v9 v10 v11 : Value} {W W' : World}
end
section
variable {b1 o1 b2 o2 b3 o3 b4 o4 b5 o5 b6 o6 b7 o7 b8 o8 b9 o9 b10 o10 b11 o11 b12 o12 : Nat} {v1 v2 v3 v4 v5 v6 v7 v8 v9 v10 v11 v12 : Value} {W W' : World}
end
abbrev Cn13 (b1 o1 : Nat) (v1 : Value) (b2 o2 : Nat) (v2 : Value) (b3 o3 : Nat) (v3 : Value) (b4 o4 : Nat) (v4 : Value) (b5 o5 : Nat) (v5 : Value) (b6 o6 : Nat) (v6 : Value) (b7 o7 : Nat) (v7 : Value) (b8 o8 : Nat) (v8 : Value) (b9 o9 : Nat) (v9 : Value) (b10 o10 : Nat) (v10 : Value) (b11 o11 : Nat) (v11 : Value) (b12 o12 : Nat) (v12 : Value) (b13 o13 : Nat) (v13 : Value) (W : World) : Prop := W.cell? ⟨b1, o1, none⟩ = some v1 ∧ W.cell? ⟨b2, o2, none⟩ = some v2 ∧ W.cell? ⟨b3, o3, none⟩ = some v3 ∧ W.cell? ⟨b4, o4, none⟩ = some v4 ∧ W.cell? ⟨b5, o5, none⟩ = some v5 ∧ W.cell? ⟨b6, o6, none⟩ = some v6 ∧ W.cell? ⟨b7, o7, none⟩ = some v7 ∧ W.cell? ⟨b8, o8, none⟩ = some v8 ∧ W.cell? ⟨b9, o9, none⟩ = some v9 ∧ W.cell? ⟨b10, o10, none⟩ = some v10 ∧ W.cell? ⟨b11, o11, none⟩ = some v11 ∧ W.cell? ⟨b12, o12, none⟩ = some v12 ∧ W.cell? ⟨b13, o13, none⟩ = some v13
section
variable {b1 o1 b2 o2 b3 o3 b4 o4 b5 o5 b6 o6 b7 o7 b8 o8 b9 o9 b10 o10 b11 o11 b12 o12 b13 o13 : Nat} {v1 v2 v3 v4 v5 v6 v7 v8 v9 v10 v11 v12 v13 : Value} {W W' : World}
theorem Cn13.later (h : Cn13 b1 o1 v1 b2 o2 v2 b3 o3 v3 b4 o4 v4 b5 o5 v5 b6 o6 v6 b7 o7 v7 b8 o8 v8 b9 o9 v9 b10 o10 v10 b11 o11 v11 b12 o12 v12 b13 o13 v13 W) (hb : Below W.heap.size W W') : Cn13 b1 o1 v1 b2 o2 v2 b3 o3 v3 b4 o4 v4 b5 o5 v5 b6 o6 v6 b7 o7 v7 b8 o8 v8 b9 o9 v9 b10 o10 v10 b11 o11 v11 b12 o12 v12 b13 o13 v13 W' := ⟨cell_later hb h.1, cell_later hb h.2.1, cell_later hb h.2.2.1, cell_later hb h.2.2.2.1, cell_later hb h.2.2.2.2.1, cell_later hb h.2.2.2.2.2.1, cell_later hb h.2.2.2.2.2.2.1, cell_later hb h.2.2.2.2.2.2.2.1, cell_later hb h.2.2.2.2.2.2.2.2.1, cell_later hb h.2.2.2.2.2.2.2.2.2.1, cell_later hb h.2.2.2.2.2.2.2.2.2.2.1, cell_later hb h.2.2.2.2.2.2.2.2.2.2.2.1, cell_later hb h.2.2.2.2.2.2.2.2.2.2.2.2⟩
theorem Cn13.alloc (h : Cn13 b1 o1 v1 b2 o2 v2 b3 o3 v3 b4 o4 v4 b5 o5 v5 b6 o6 v6 b7 o7 v7 b8 o8 v8 b9 o9 v9 b10 o10 v10 b11 o11 v11 b12 o12 v12 b13 o13 v13 W) (o : Obj) : Cn13 b1 o1 v1 b2 o2 v2 b3 o3 v3 b4 o4 v4 b5 o5 v5 b6 o6 v6 b7 o7 v7 b8 o8 v8 b9 o9 v9 b10 o10 v10 b11 o11 v11 b12 o12 v12 b13 o13 v13 (W.alloc o) := ⟨cell_alloc_of h.1 o, cell_alloc_of h.2.1 o, cell_alloc_of h.2.2.1 o, cell_alloc_of h.2.2.2.1 o, cell_alloc_of h.2.2.2.2.1 o, cell_alloc_of h.2.2.2.2.2.1 o, cell_alloc_of h.2.2.2.2.2.2.1 o, cell_alloc_of h.2.2.2.2.2.2.2.1 o, cell_alloc_of h.2.2.2.2.2.2.2.2.1 o, cell_alloc_of h.2.2.2.2.2.2.2.2.2.1 o, cell_alloc_of h.2.2.2.2.2.2.2.2.2.2.1 o, cell_alloc_of h.2.2.2.2.2.2.2.2.2.2.2.1 o, cell_alloc_of h.2.2.2.2.2.2.2.2.2.2.2.2 o⟩
theorem Cn13.drew (h : Cn13 b1 o1 v1 b2 o2 v2 b3 o3 v3 b4 o4 v4 b5 o5 v5 b6 o6 v6 b7 o7 v7 b8 o8 v8 b9 o9 v9 b10 o10 v10 b11 o11 v11 b12 o12 v12 b13 o13 v13 W) : Cn13 b1 o1 v1 b2 o2 v2 b3 o3 v3 b4 o4 v4 b5 o5 v5 b6 o6 v6 b7 o7 v7 b8 o8 v8 b9 o9 v9 b10 o10 v10 b11 o11 v11 b12 o12 v12 b13 o13 v13 W.drew := h
theorem Cn13.set {c i : Nat} (h : Cn13 b1 o1 v1 b2 o2 v2 b3 o3 v3 b4 o4 v4 b5 o5 v5 b6 o6 v6 b7 o7 v7 b8 o8 v8 b9 o9 v9 b10 o10 v10 b11 o11 v11 b12 o12 v12 b13 o13 v13 W) (h1 : b1 ≠ c) (h2 : b2 ≠ c) (h3 : b3 ≠ c) (h4 : b4 ≠ c) (h5 : b5 ≠ c) (h6 : b6 ≠ c) (h7 : b7 ≠ c) (h8 : b8 ≠ c) (h9 : b9 ≠ c) (h10 : b10 ≠ c) (h11 : b11 ≠ c) (h12 : b12 ≠ c) (h13 : b13 ≠ c) (u : Value) : Cn13 b1 o1 v1 b2 o2 v2 b3 o3 v3 b4 o4 v4 b5 o5 v5 b6 o6 v6 b7 o7 v7 b8 o8 v8 b9 o9 v9 b10 o10 v10 b11 o11 v11 b12 o12 v12 b13 o13 v13 (W.setCell ⟨c, i, none⟩ u) := ⟨cell_set_other h.1 h1 u, cell_set_other h.2.1 h2 u, cell_set_other h.2.2.1 h3 u, cell_set_other h.2.2.2.1 h4 u, cell_set_other h.2.2.2.2.1 h5 u, cell_set_other h.2.2.2.2.2.1 h6 u, cell_set_other h.2.2.2.2.2.2.1 h7 u, cell_set_other h.2.2.2.2.2.2.2.1 h8 u, cell_set_other h.2.2.2.2.2.2.2.2.1 h9 u, cell_set_other h.2.2.2.2.2.2.2.2.2.1 h10 u, cell_set_other h.2.2.2.2.2.2.2.2.2.2.1 h11 u, cell_set_other h.2.2.2.2.2.2.2.2.2.2.2.1 h12 u, cell_set_other h.2.2.2.2.2.2.2.2.2.2.2.2 h13 u⟩
end
section
variable {b1 o1 b2 o2 b3 o3 b4 o4 b5 o5 b6 o6 b7 o7 b8 o8 b9 o9 b10 o10 b11 o11 b12 o12 b13 o13 b14 o14 : Nat} {v1 v2 v3 v4 v5 v6 v7 v8 v9 v10 v11 v12 v13 v14 : Value} {W W' : World}
end
end Go.Proofs.YtimcdikeajbabaaGreatDoor
