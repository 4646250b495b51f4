/- The statement RequestsReturns: its walk. Conditions: the numbers can be read; what the program's variables hold. -/
import Derived.Test.YthejgholpkeldaaGreatDoorRows
import Derived.WalkKit
import Derived.WalkSpells
import Derived.WalkLawsBesides
import Derived.BigGuardPart
import Derived.Lib.Hide
import Derived.Laws.BitsAllLaws
import Derived.Laws.BitsLemmas
import Derived.Lib.LaidTab
import Derived.Test.YthejgholpkeldaaGreatDoorShelf
import Derived.Lib.ConvBytes
import Derived.Deep.QuietTactic
import Derived.BigQuiet
import Derived.Laws.ResultCell
import Derived.RegionTactic
import Derived.BigRegion
import Derived.Deep.RegionHeld3
import Derived.Deep.DeepCutAuto
import Derived.Lib.SmallJoins
import Derived.Lib.SplitLaws
import Derived.Lib.CountLaws
import Derived.Lib.IndexMore
import Derived.Lib.Split
import Derived.Lib.Join
import Derived.Lib.ItoaNum
import Derived.Laws.AppendOwn
import Derived.Deep.AppendLies
import Derived.Test.YthejgholpkeldaaGreatDoorShelfS
import Derived.Test.YthejgholpkeldaaGreatDoorShelfT
import Derived.Lib.ItoaLen
import Derived.Lib.AppendIntMem
import Derived.Lib.PathFns
import Derived.Maps.Range
import Derived.Lib.OwnBridge
import Derived.Sort.OwnSorted
import Derived.Deep.RegionLaw
import Derived.Deep.RegionLawGrows
import Derived.Test.YthejgholpkeldaaGreatDoorCards
import Derived.Test.YthejgholpkeldaaGreatDoorTie
import Derived.ProofKit
import Derived.OpenShut
import Derived.LaidMore
import Derived.Lay
import Derived.SevenTiedAt
import Derived.Stop.Joined
import Derived.Stop.LaidErr
import Derived.Deep.DeepHandedRow
import Derived.Lib.LaidU8
import Derived.LaidSub
import Derived.Deep.Slices
import Derived.Deep.Fields
import Derived.ChangeSame
import Derived.Sort.Walk0
import Derived.Maps.OwnSet
import Derived.StringKeys
import Derived.Sort.LotA
import Derived.Shelf.SlSortCmp.NoneTotal
import Derived.Shelf.SlSortCmp.InsertionK
import Derived.Shelf.SlSortCmp.SiftDownK
import Derived.Shelf.SlSortCmp.KitK
import Derived.Shelf.SlSortCmp.ReverseRangeK
import Derived.Orders
import Derived.Maps.RangeWalk
import Derived.Ground.SlsfProg
import Derived.Test.YthejgholpkeldaaGreatDoorYPlainA
import Derived.Test.YthejgholpkeldaaGreatDoorYDReq
import Derived.Test.YthejgholpkeldaaGreatDoorYDClss
import Derived.Test.YthejgholpkeldaaGreatDoorYStudL
import Derived.Test.YthejgholpkeldaaGreatDoorYStudC
import Derived.Test.YthejgholpkeldaaGreatDoorYQSame
import Derived.Test.YthejgholpkeldaaGreatDoorYCmpR
import Derived.Test.YthejgholpkeldaaGreatDoorYAwake12
namespace Go.Proofs.YthejgholpkeldaaGreatDoor
open Go.RowKit
set_option maxRecDepth 100000

set_option maxHeartbeats 8000000 in
theorem qret12_walk (A : Option Addr) (n c : Nat) (w : World) (hS : Std w) (hP : StrsVar w.heap.size 0 featuresL w) (hA : 0 < n → ∃ b off, A = some ⟨b, off, none⟩ ∧ ∀ j, j < n → ∃ x : Int, w.cell? ⟨b, off + j, none⟩ = some (.int .i64 x)) :
    Calls Tryz.prog 4 #[.slice A n c] w fun e w' => e = .returned (.bool true) ∧ Below w.heap.size w w' := by
  by_cases hn : n ≤ 400
  · have hd400 : decide (n ≤ 400) = true := by simpa using hn
    have D0 := dice_new (c := c) hn hA
    have hS0 := hS.big
    obtain ⟨g, hgw⟩ : ∃ g, w.heap.size = g := ⟨_, rfl⟩
    obtain ⟨W1, hW1⟩ : ∃ W1, w.alloc (.cells #[.slice A n c, .int .i64 0] 57) = W1 := ⟨_, rfl⟩
    have hb1 : Below w.heap.size w W1 := by rw [← hW1]; exact (by repeat (first | exact Below.refl _ _ | refine ext_alloc ?_ _ | refine ext_drewN ?_ _ | refine ext_drew ?_ | refine ext_trans ?_ (by assumption)))
    have hS1 := hS.after hb1
    have hP1 := hP.below hb1
    rw [hW1] at D0
    have hg : w.heap.size ≤ g := Nat.le_of_eq hgw
    have D1 : DiceOk w.heap.size W1 g := by rw [← hgw]; exact D0
    replace hW1 := hide hW1
    replace hgw := hide hgw
    clear D0 hA hP
    go_enter Tryz.func4, Tryz.ntmps4
    go_wp2_with (go_at_call 5; refine (light_walk _ _ _ _).mono ?_; rintro e w' ⟨rfl, rfl⟩)
    refine (roll_walk _ _ _ _).mono ?_
    rintro e w' ⟨rfl, rfl⟩
    rw [hW1.out, hgw.out]
    clear hW1 hgw
    go_wp2_with fail
    refine (grid_walk w.heap.size g W1 D1).mono ?_
    rintro e w2 ⟨d, s, b, m, rfl, ⟨d1, d2, s1, s2, z1, z2, z3, z4⟩, T2⟩
    have hcw : Calls Tryz.prog 9 #[.pointer (some ⟨g, 0, none⟩), .agg #[.int .i64 d, .int .i64 s, .int .i64 b, .int .i64 m], .int .i64 1, .slice none 0 0, .int .i64 6] w2 fun e w' => DClss w.heap.size 1 d s 6 [] w2 g e w' :=
      dclss_walk w.heap.size g d s b m 1 (by omega) (by omega) (by omega) (by omega) none [] 0 (by simp) 6 (by omega) w2 T2.dice (hP1.below (T2.below hg)) (fun h => absurd h (by simp))
    go_wp2_with fail
    refine hcw.mono ?_
    clear hcw
    rintro e w3 ⟨v4, cls, rfl, hcm, hcown, T3⟩
    obtain ⟨A4, c4, rfl⟩ := hcown.form
    have hat3 := hcown.ne T2.dice.lt
    have hmc : ∀ x ∈ cls, x.2.1 ∈ mcourses := fun x hx => by obtain ⟨j, hj⟩ := List.getElem?_of_mem hx; exact (hcm.2 j x hj).2.1.course
    have hcl := hcm.1
    have hcu := dreq_walk w.heap.size g A4 cls c4 w3 T3.dice (by omega) hat3 hmc
    clear hcm hcown hat3 hmc
    go_wp2_with fail
    refine hcu.mono ?_
    clear hcu
    rintro e w4 ⟨v5, ls, rfl, hmade, hlown, T4⟩
    obtain ⟨A5, c5, rfl, hcap, hAt⟩ := hlown.any
    have T := (T2.trans T3).trans T4
    have hS4 := T.std hS1 (by omega)
    have hb4 := T.ext hb1 hg
    have hval := hmade.valid
    obtain ⟨hrq, hrl, hrx⟩ := rowsQ_small hmade
    obtain ⟨k1, k2⟩ := hmade.back
    rw [← hrq] at k1 k2
    have hl3 := hmade.1
    have hsz := hmade.sizes
    obtain ⟨hs1, hs2⟩ := studs_small hmade
    obtain ⟨L, hL⟩ : ∃ L, ls.length = L := ⟨_, rfl⟩
    obtain ⟨xs, hxs⟩ : ∃ xs, rowsQ ls = xs := ⟨_, rfl⟩
    have hxl : xs.length = L := by rw [← hxs, ← hL]; exact hrl
    have hwr := qWrite_walk A5 ls c5 w4 hS4 hcap (by omega) (fun x hx => by have := hsz x hx; omega) hAt.any
    rw [hL] at hwr ⊢
    unfold QWriteIs at hwr
    rw [hval, hxs] at hwr
    rw [hxs] at hrl hrx k1 k2
    replace hsz := hide hsz
    replace hs2 := hide hs2
    replace k1 := hide k1
    replace k2 := hide k2
    replace hrx := hide hrx
    replace hL := hide hL
    clear hmade hlown hcap hval hxs hrq T T2 T3 T4 hS1 hb1 D1 hP1
    go_wp2_with fail
    refine hwr.mono ?_
    clear hwr
    rintro e w5 ⟨v7, rfl, hof, hb5⟩
    obtain ⟨A7, c7, rfl, -, hXt⟩ := hof.any
    have hS5 := hS4.after hb5
    have hbw := ext_trans hb4 hb5
    have hAt5 := (hAt.any.later hb5)
    have hpl := plain_walk A7 xs c7 w5 (lists_in_of_at hXt) (by omega) (fun x hx => by obtain ⟨h1, h2⟩ := hrx.out x hx; exact ⟨by omega, fun z hz => by have := h2 z hz; omega⟩)
    rw [hxl] at hpl ⊢
    clear hof hXt hS4 hb4 hb5 hAt
    go_wp2_with fail
    refine hpl.mono ?_
    clear hpl
    rintro e w6 ⟨v8, rfl, hR, hb6⟩
    obtain ⟨A8, c8, rfl⟩ : ∃ A8 c8, v8 = .slice A8 L c8 := by obtain ⟨us, -, h, -⟩ := hR; have := owns_form h; rw [plainR_len, hxl] at this; exact this
    have hrd := qRead_walk A8 (plainR 1 xs) c8 w6 (hS5.after hb6) (recs_at hR) (by rw [plainR_len]; omega) (fun r hr f hf => by have := plainR_sizes (fun x hx => (hrx.out x hx).2) r hr f hf; omega)
    unfold ReqReads at hrd
    rw [plainR_len, hxl, k1.out, k2.out] at hrd
    have hS6 := hS5.after hb6
    have hAt6 := hAt5.later hb6
    have hbx := ext_trans hbw hb6
    clear hR hS5 hAt5 hbw hb6
    go_wp2_with fail
    refine hrd.mono ?_
    clear hrd
    rintro e w7 ⟨v9, v10, rfl, hL7, hP7, hb7⟩
    obtain ⟨A9, c9, rfl, -, hAt9⟩ := hL7.any
    obtain ⟨A10, c10, rfl⟩ : ∃ A10 c10, v10 = .slice A10 0 c10 := owns_form hP7
    have hAt7 := hAt6.later hb7
    have hby := ext_trans hbx hb7
    have hS7 := hS6.after hb7
    have hAt9' := hAt9.any
    have hstu := studentsQ_walk A5 ls c5 w7 (by rw [hL.out]; omega) (fun x hx => by have := hsz.out x hx; omega) hAt7
    rw [hL.out] at hstu
    rw [hL.out]
    clear hL7 hP7 hS6 hAt6 hbx hb7 hAt9
    go_wp2_with fail
    refine hstu.mono ?_
    clear hstu
    rintro e w8 ⟨v11, rfl, hO8, hb8⟩
    obtain ⟨A11, c11, rfl⟩ := hO8.form
    have hSt := hO8.any'.any
    replace hAt7 := hAt7.later hb8
    replace hAt9' := hAt9'.later hb8
    replace hby := ext_trans hby hb8
    replace hS7 := hS7.after hb8
    clear hO8 hb8
    obtain ⟨ss, hss⟩ : ∃ ss, studsV ls = ss := ⟨_, rfl⟩
    rw [hss] at hs1 hs2 hSt ⊢
    obtain ⟨M, hM⟩ : ∃ M, ss.length = M := ⟨_, rfl⟩
    rw [hM] at hs1 ⊢
    replace hss := hide hss
    replace hM := hide hM
    go_wp2_with fail
    go_loopw [2, 10, 11, 12, 13] (fun v2 v10 v11 _ _ wr => ∃ i : Nat, v2 = .bool false ∧ v10 = .int .i64 (cntQ ls (ss.take i)) ∧ v11 = .int .i64 i ∧ i ≤ M ∧ At kReq AnyB wr A5 ls ∧ At kReq AnyB wr A9 ls ∧ At kStr AnyB wr A11 ss ∧ Std wr ∧ Below w.heap.size w wr) (fun _ _ v11 _ _ _ => M - (intOf v11).toNat)
    case atStart => exact ⟨0, rfl, rfl, rfl, Nat.zero_le _, hAt7, hAt9', hSt, hS7, hby⟩
    case round =>
      clear hAt7 hAt9' hSt hS7 hby
      obtain ⟨i, rfl, rfl, rfl, hi, hAt7, hAt9, hSt, hS7, hby⟩ := hrel
      by_cases hlt : i < M
      · obtain ⟨z, hz⟩ : ∃ z, ss[i]? = some z := ⟨_, List.getElem?_eq_getElem (by rw [hM.out]; exact hlt)⟩
        obtain ⟨sb, so, rfl, -, hsl, z0⟩ := hSt.str hz
        have hi0 : (0 : Int) ≤ (i : Int) := by omega
        have hi1 : (i : Int) < (M : Int) := by omega
        have hwq := wantQ_walk A5 ls c5 z wr (by rw [hL.out]; omega) (fun x hx => by have := hsz.out x hx; omega) hAt7
        rw [hL.out] at hwq
        go_wp2_with fail
        refine hwq.mono ?_
        clear hwq
        rintro e w12 ⟨v12, rfl, hO12, hb12⟩
        obtain ⟨A12, c12, rfl⟩ := hO12.form
        have hWt := hO12.any'.any
        replace z0 := cell_later hb12 z0
        replace hAt7 := hAt7.later hb12
        replace hAt9 := hAt9.later hb12
        replace hSt := hSt.later hb12
        replace hS7 := hS7.after hb12
        replace hby := ext_trans hby hb12
        clear hO12 hb12 hsl
        obtain ⟨W, hW⟩ : ∃ W, wantV z ls = W := ⟨_, rfl⟩
        have hWis : Hid (∀ (k : Nat) (x : Req), W[k]? = some x → x.1 = z) := hide (by rw [← hW]; exact fun k x h => (wantV_is h).1)
        have hWup : Hid (∀ (k : Nat) (x y : Req), W[k]? = some x → W[k + 1]? = some y → x.2.2.1 ≤ y.2.2.1) := hide (by rw [← hW]; exact fun k x y h1 h2 => wantV_up h1 h2)
        have hcn := cntQ_take (l := ls) hz
        have hcl : cntQ ls (ss.take (i + 1)) ≤ L := by rw [← hss.out, ← hL.out]; exact cntQ_le ls (i + 1)
        rw [hW] at hcn hWt ⊢
        clear hW
        obtain ⟨K, hK⟩ : ∃ K, W.length = K := ⟨_, rfl⟩
        rw [hK] at hcn ⊢
        obtain ⟨q, hq⟩ : ∃ q, cntQ ls (ss.take i) = q := ⟨_, rfl⟩
        rw [hq] at hcn ⊢
        rw [hcn] at hcl
        have hqw : IntKind.i64.wrap ((q : Int) + (K : Int)) = (q : Int) + (K : Int) := by rw [IntKind.wrap_i64]; omega
        replace hK := hide hK
        replace hcn := hide hcn
        clear hq
        go_wp2_with fail
        go_loopw [2, 13] (fun v2 v13 wi => ∃ k : Nat, v2 = .bool false ∧ v13 = .int .i64 k ∧ k ≤ K ∧ At kReq AnyB wi A5 ls ∧ At kReq AnyB wi A9 ls ∧ At kStr AnyB wi (some ⟨sb, so, none⟩) ss ∧ At kReq AnyB wi A12 W ∧ wi.cell? ⟨sb, so + i, none⟩ = some (.string z) ∧ Std wi ∧ Below w.heap.size w wi) (fun _ v13 _ => K - (intOf v13).toNat)
        case atStart => exact ⟨0, rfl, rfl, Nat.zero_le _, hAt7, hAt9, hSt, hWt, z0, hS7, hby⟩
        case round =>
          clear hAt7 hAt9 hSt hWt z0 hS7 hby
          obtain ⟨k, rfl, rfl, hk, hAt7, hAt9, hSt, hWt, z0, hS7, hby⟩ := hrel
          by_cases hlk : k < K
          · obtain ⟨x, hx⟩ : ∃ x, W[k]? = some x := ⟨_, List.getElem?_eq_getElem (by rw [hK.out]; exact hlk)⟩
            have hxz := hWis.out k x hx
            obtain ⟨rb, off, F, cF, rfl, -, hrb, ⟨q0, q1, q2, q3⟩, -, -⟩ := hWt.req hx
            rw [hxz] at q0
            have hk0 : (0 : Int) ≤ (k : Int) := by omega
            have hk1 : (k : Int) < (K : Int) := by omega
            have e4 : off + k * 4 + 0 = off + k * 4 := rfl
            by_cases hkz : k = 0
            · subst hkz
              go_upto_region 16 with fail
              go_quiet (fail)
              have hbd : Below wr.heap.size wr (wr.drewN nq) := ext_drewN (Below.refl _ _) nq
              have r1 := hAt7.later hbd
              have r2 := hAt9.later hbd
              have r3 := hSt.later hbd
              have r4 := hWt.later hbd
              have r5 := cell_later hbd z0
              have r6 := hS7.after hbd
              have r7 := ext_trans hby hbd
              clear hAt7 hAt9 hSt hWt z0 hS7 hby q0 q1 q2 q3 hbd
              go_wp2
              go_roundw
              case rel => exact ⟨0 + 1, rfl, by go_num, by omega, r1, r2, r3, r4, r5, r6, r7⟩
              case measure => first | (simp [intOf]; done) | (simp [intOf]; omega)
            · obtain ⟨y, hy⟩ : ∃ y, W[k - 1]? = some y := ⟨_, List.getElem?_eq_getElem (by rw [hK.out]; omega)⟩
              have hup := hWup.out (k - 1) y x hy (by rw [show k - 1 + 1 = k from by omega]; exact hx)
              obtain ⟨rb', off', F', cF', he, -, -, ⟨-, -, p2, -⟩, -, -⟩ := hWt.req hy
              injection he with he
              injection he with he1 he2
              subst he1 he2
              obtain ⟨xp, hxp⟩ : ∃ v, x.2.2.1 = v := ⟨_, rfl⟩
              obtain ⟨yp, hyp⟩ : ∃ v, y.2.2.1 = v := ⟨_, rfl⟩
              rw [hxp] at q2 hup
              rw [hyp] at p2 hup
              have hup2 : ¬ xp < yp := by omega
              have hkm : IntKind.i64.wrap ((k : Int) - 1) = ((k - 1 : Nat) : Int) := by rw [IntKind.wrap_i64]; omega
              have hkp : 0 < k := by omega
              have hkp1 : (0 : Int) < (k : Int) := by omega
              have hkm0 : (0 : Int) ≤ ((k - 1 : Nat) : Int) := by omega
              have hkm1 : ((k - 1 : Nat) : Int) < (K : Int) := by omega
              clear q1 q3 hx hy hxp hyp hxz
              go_upto_region 16 with fail
              go_quiet (fail)
              have hbd : Below wr.heap.size wr (wr.drewN nq) := ext_drewN (Below.refl _ _) nq
              have r1 := hAt7.later hbd
              have r2 := hAt9.later hbd
              have r3 := hSt.later hbd
              have r4 := hWt.later hbd
              have r5 := cell_later hbd z0
              have r6 := hS7.after hbd
              have r7 := ext_trans hby hbd
              clear hAt7 hAt9 hSt hWt z0 hS7 hby q0 q2 p2 hbd
              go_wp2
              go_roundw
              case rel => exact ⟨k + 1, rfl, by go_num, by omega, r1, r2, r3, r4, r5, r6, r7⟩
              case measure => first | (simp [intOf]; done) | (simp [intOf]; omega)
          · obtain rfl : k = K := by omega
            have hll : ¬ (k : Int) < (k : Int) := by omega
            by_cases hiz : i = 0
            · subst hiz
              go_upto_region 19 with fail
              go_quiet (fail)
              have hbd : Below wr.heap.size wr (wr.drewN nq) := ext_drewN (Below.refl _ _) nq
              have r1 := hAt7.later hbd
              have r2 := hAt9.later hbd
              have r3 := hSt.later hbd
              have r6 := hS7.after hbd
              have r7 := ext_trans hby hbd
              clear hAt7 hAt9 hSt hWt z0 hS7 hby hbd
              go_wp2
              go_roundw
              case rel => exact ⟨0 + 1, rfl, by rw [hcn.out]; go_num, by go_num, by omega, r1, r2, r3, r6, r7⟩
              case measure => first | (simp [intOf]; done) | (simp [intOf]; omega)
            · obtain ⟨y, hy⟩ : ∃ y, ss[i - 1]? = some y := ⟨_, List.getElem?_eq_getElem (by rw [hM.out]; omega)⟩
              have hup : compareV y.data.toList z.data.toList < 0 := studsV_up ls (i := i - 1) (by rw [hss.out]; exact hy) (by rw [hss.out, show i - 1 + 1 = i from by omega]; exact hz)
              obtain ⟨sb', so', he, -, hyl, y0⟩ := hSt.str hy
              injection he with he
              injection he with he1 he2
              subst he1 he2
              have hyz := hs2.out y (List.mem_of_getElem? hy)
              have hzz := hs2.out z (List.mem_of_getElem? hz)
              have him : IntKind.i64.wrap ((i : Int) - 1) = ((i - 1 : Nat) : Int) := by rw [IntKind.wrap_i64]; omega
              have hip : 0 < i := by omega
              have hip1 : (0 : Int) < (i : Int) := by omega
              have him0 : (0 : Int) ≤ ((i - 1 : Nat) : Int) := by omega
              have him1 : ((i - 1 : Nat) : Int) < (M : Int) := by omega
              obtain ⟨cv, hcv⟩ : ∃ v, compareV y.data.toList z.data.toList = v := ⟨_, rfl⟩
              rw [hcv] at hup
              have hup2 : ¬ (0 : Int) ≤ cv := by omega
              have hcmp := hide (fun (V : World) => by have := r3compare_walk y z V (by omega) (by omega); rw [hcv] at this; exact this)
              have y0d : wr.drew.cell? ⟨sb, so + (i - 1), none⟩ = some (.string y) := y0
              have z0d : wr.drew.cell? ⟨sb, so + i, none⟩ = some (.string z) := z0
              clear hcv hy hz hyz hzz
              go_upto_region 19 with fail
              go_region_held3 (fun W' => W'.cell? ⟨sb, so + (i - 1), none⟩ = some (.string y) ∧ W'.cell? ⟨sb, so + i, none⟩ = some (.string z)) (first | with_reducible assumption | exact ⟨by with_reducible assumption, by with_reducible assumption⟩) (first | (go_at_call 22; refine (hcmp.out _).mono ?_; rintro e w14 ⟨rfl, hb14⟩; have y1 := cell_later hb14 y0d; have z1 := cell_later hb14 z0d))
              have hbd : Below wr.heap.size wr w14 := ext_trans (ext_drew (Below.refl _ _)) hb14
              have r1 := hAt7.later hbd
              have r2 := hAt9.later hbd
              have r3 := hSt.later hbd
              have r6 := hS7.after hbd
              have r7 := ext_trans hby hbd
              clear hAt7 hAt9 hSt hWt z0 hS7 hby hbd hb14 y0 y1 z1 y0d z0d hcmp
              go_wp2
              go_roundw
              case rel => exact ⟨i + 1, rfl, by rw [hcn.out]; go_num, by go_num, by omega, r1, r2, r3, r6, r7⟩
              case measure => first | (simp [intOf]; done) | (simp [intOf]; omega)
      · obtain rfl : i = M := by omega
        have hll : ¬ (i : Int) < (i : Int) := by omega
        have hcl : cntQ ls (ss.take i) = L := by
          rw [← hM.out, List.take_length, ← hss.out, cntQ_studs, hL.out]
        have haw := awake12_walk wr hS7
        rw [hcl]
        clear hS7 hSt hcl
        go_wp2_with fail
        refine haw.mono ?_
        clear haw
        rintro e w8 ⟨rfl, hb8⟩
        have hsame := r12Same_walk A5 A9 ls c5 c9 w8 (by rw [hL.out]; omega) (fun x hx => by have := hsz.out x hx; omega) (hAt7.later hb8) (hAt9.later hb8)
        rw [hL.out] at hsame
        have hbz := ext_trans hby hb8
        clear hAt7 hAt9 hby hb8
        go_wp2_with fail
        refine hsame.mono ?_
        clear hsame
        rintro e w9 ⟨rfl, hb9⟩
        go_wp2
        go_ret
        exact ⟨rfl, ext_trans hbz hb9⟩
  · have hd400 : decide (n ≤ 400) = false := by simpa using hn
    go_enter Tryz.func4, Tryz.ntmps4
    go_wp2_with (go_at_call 5; refine (light_walk _ _ _ _).mono ?_; rintro e w' ⟨rfl, rfl⟩)
    refine (awake12_walk w hS).mono ?_
    rintro e w1 ⟨rfl, hb1⟩
    go_wp2
    go_ret
    exact ⟨rfl, hb1⟩
end Go.Proofs.YthejgholpkeldaaGreatDoor
