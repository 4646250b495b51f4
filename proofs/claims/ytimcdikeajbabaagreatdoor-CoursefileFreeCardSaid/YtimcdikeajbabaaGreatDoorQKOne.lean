/- Walk of the closure of coursefile.Lines: one class is read. Conditions: the scanner's cells are as Scan says; texts shorter than 2^30 bytes; a grid's bounds. -/
import Derived.Test.YtimcdikeajbabaaGreatDoorRows
import Derived.WalkKit
import Derived.WalkSpells
import Derived.WalkLawsBesides
import Derived.BigGuardPart
import Derived.Lib.Hide
import Derived.Laws.BitsAllLaws
import Derived.Laws.BitsLemmas
import Derived.Lib.LaidTab
import Derived.Test.YtimcdikeajbabaaGreatDoorShelf
import Derived.Lib.ConvBytes
import Derived.Deep.QuietTactic
import Derived.BigQuiet
import Derived.Test.YtimcdikeajbabaaGreatDoorShelfS
import Derived.Laws.ResultCell
import Derived.RegionTactic
import Derived.BigRegion
import Derived.Deep.RegionHeld3
import Derived.Deep.DeepCutAuto
import Derived.Lib.SmallJoins
import Derived.Lib.SplitLaws
import Derived.Lib.CountLaws
import Derived.Lib.IndexMore
import Derived.Lib.Split
import Derived.Lib.Join
import Derived.Lib.ItoaNum
import Derived.Laws.AppendOwn
import Derived.Test.YtimcdikeajbabaaGreatDoorShelfT
import Derived.Lib.ItoaLen
import Derived.Lib.AppendIntMem
import Derived.Deep.AppendLies
import Derived.Lib.PathFns
import Derived.Maps.Range
import Derived.Lib.OwnBridge
import Derived.Sort.OwnSorted
import Derived.Sort.Walk0
import Derived.Test.YtimcdikeajbabaaGreatDoorCards
import Derived.Test.YtimcdikeajbabaaGreatDoorTie
import Derived.ProofKit
import Derived.OpenShut
import Derived.LaidMore
import Derived.Lay
import Derived.SevenTiedAt
import Derived.Stop.Joined
import Derived.Stop.LaidErr
import Derived.Deep.DeepHandedRow
import Derived.Lib.LaidU8
import Derived.LaidSub
import Derived.Deep.Slices
import Derived.Deep.Fields
import Derived.ChangeSame
import Derived.Shelf.SlSortCmp.NoneTotal
import Derived.Ground.SlsfProg
import Derived.Lib.SliceRun
import Derived.Lib.Walk
import Derived.RangeFuncNested
import Derived.RangeFuncBound
import Derived.RangeFuncCalls
import Derived.RangeFuncLeaves
import Derived.RangeFuncBox
import Derived.RangeFuncWrites
import Derived.Shelf.Abstract
import Derived.Shelf.RegionOpen
import Derived.OwnWalkIn
import Derived.TacticsInMore
import Derived.LoopNIn
import Derived.LoopIn
import Derived.Maps.AppendAt
import Derived.Deep.RegionLaw
import Derived.Deep.RegionLawGrows
import Derived.Test.YtimcdikeajbabaaGreatDoorQFound
import Derived.Test.YtimcdikeajbabaaGreatDoorQNumI
import Derived.Test.YtimcdikeajbabaaGreatDoorQKStarts
import Derived.Test.YtimcdikeajbabaaGreatDoorQHasK
import Derived.Test.YtimcdikeajbabaaGreatDoorQClsOwn
import Derived.Test.YtimcdikeajbabaaGreatDoorQSorted
namespace Go.Proofs.YtimcdikeajbabaaGreatDoor
open Go.RowKit
set_option maxRecDepth 100000

theorem noted_false (pr : Option Prob) (p : Prob) : noted pr false p = pr := by cases pr <;> rfl
set_option maxHeartbeats 16000000 in
theorem kone_walk (B gb nb g : Nat) (d sl b m n line : Int) (F : Option Addr) (fs : List Fld) (c : Nat) (A : Option Addr) (ls : List Cls) (cr : Nat) (w : World) (hS : Std w) (hCl : Cl gb nb d sl b m n w) (hgb : gb ≠ g) (hnb : nb ≠ g)
    (hsc : Scan w g line F fs.length c 0 none) (hF : FieldsAt B w F fs) (hl : fs.length = 9) (hB : B ≤ g) (hN : 12 ≤ B) (hsz : ∀ k, (textAt fs k).size < 1073741824) (hq : ls.length ≤ 1000000000) (hw : At kCls (· < g) w A ls) (hsl : 1 ≤ sl ∧ sl ≤ 24) :
    Calls Tryz.prog 65 #[.pointer (some ⟨g, 0, none⟩), .slice A ls.length cr, .pointer (some ⟨gb, 0, none⟩), .pointer (some ⟨nb, 0, none⟩)] w fun e w' => ClsGives d sl n g line F fs c ls w e w' := by
  have hgl := hsc.lt
  go_enter Tryz.func65, Tryz.ntmps65
  go_wp2_with fail
  have hb0 : Below w.heap.size w (w.alloc (.cells #[.string ⟨#[]⟩, .string ⟨#[]⟩, .string ⟨#[]⟩, .int .i64 0, .slice none 0 0, .int .i64 0, .slice none 0 0, .slice none 0 0, .slice none 0 0] 47)) := ext_alloc (Below.refl _ _) _
  have hr9 : CBox (w.alloc (.cells #[.string ⟨#[]⟩, .string ⟨#[]⟩, .string ⟨#[]⟩, .int .i64 0, .slice none 0 0, .int .i64 0, .slice none 0 0, .slice none 0 0, .slice none 0 0] 47)) w.heap.size ⟨⟨#[]⟩, ⟨#[]⟩, ⟨#[]⟩, 0, none, 0, 0, 0, none, 0, 0, none, 0, 0, none, 0, 0⟩ := cbox_new w ⟨⟨#[]⟩, ⟨#[]⟩, ⟨#[]⟩, 0, none, 0, 0, 0, none, 0, 0, none, 0, 0, none, 0, 0⟩
  have hS0 := hS.after hb0
  have hsc0 := hsc.later hb0
  have hCl0 := hCl.later hb0
  have how := Only.later (Only.refl g w) hb0
  have hF0 := hF.below (hb0.mono (by omega) : Below B _ _)
  have hw0 := hw.below (hb0.mono (by omega) : Below g _ _)
  have hz0 : (w.alloc (.cells #[.string ⟨#[]⟩, .string ⟨#[]⟩, .string ⟨#[]⟩, .int .i64 0, .slice none 0 0, .int .i64 0, .slice none 0 0, .slice none 0 0, .slice none 0 0] 47)).heap.size = w.heap.size + 1 := World.size_alloc _ _
  obtain ⟨W0, hW0⟩ : ∃ W0, w.alloc (.cells #[.string ⟨#[]⟩, .string ⟨#[]⟩, .string ⟨#[]⟩, .int .i64 0, .slice none 0 0, .int .i64 0, .slice none 0 0, .slice none 0 0, .slice none 0 0] 47) = W0 := ⟨_, rfl⟩
  rw [hW0] at hr9 hS0 hsc0 hCl0 how hF0 hw0 hz0 ⊢
  obtain ⟨r, hr⟩ : ∃ r, w.heap.size = r := ⟨_, rfl⟩
  rw [hr] at hr9 hz0 hgl ⊢
  have hrg : r ≠ g := by omega
  have hrl : r < W0.heap.size := by omega
  have hgW : g < W0.heap.size := by omega
  replace hW0 := hide hW0
  replace hr := hide hr
  replace hr9 := hide hr9
  clear hsc hF hw hb0 hS hCl
  refine (code_any B g line F fs c 0 none W0 hsc0 hF0 (by omega) (by omega) hB (fun p hp => by cases hp)).mono ?_
  rintro e w1 ⟨k1, t0, pr1, rfl, hs1, ho1, i1, j1, a1, -⟩
  replace a1 := hide a1
  go_wp2_with fail
  refine (code_any B g line F fs c k1 pr1 w1 hs1 (hF0.only ho1 hB (by omega)) (by omega) (by omega) hB (fun _ _ => i1)).mono ?_
  rintro e w2 ⟨k2, t1, pr2, rfl, hs2, ho2, i2, j2, b1, b2⟩
  replace b1 := hide b1
  replace b2 := hide b2
  replace ho2 : Only g W0 w2 := ho1.trans ho2
  clear hs1 hsc0 ho1
  go_wp2_with fail
  refine (code_any B g line F fs c k2 pr2 w2 hs2 (hF0.only ho2 hB (by omega)) (by omega) (by omega) hB (fun _ _ => i2)).mono ?_
  rintro e wx ⟨k3, t2, pr3, rfl, hsx, hox, i3, j3, d1, d2⟩
  replace d1 := hide d1
  replace d2 := hide d2
  replace hox : Only g W0 wx := ho2.trans hox
  clear hs2 ho2
  go_wp2_with fail
  refine (num_anyS B g line F fs c k3 2 pr3 wx hsx (hF0.only hox hB (by omega)) (by omega) (by omega) hB (fun _ _ => i3) (by decide) (by have := hsz k3; omega)).mono ?_
  rintro e w3 ⟨k4, nn, prn, rfl, hs3, ho3, i4, j4, c1, c2⟩
  have hn99 : nn ≤ 99 := by
    cases hp : pr3 with
    | none => rw [(c1 hp).2.1]; exact numE_99 _
    | some p => rw [(c2 p hp).2]; exact Nat.zero_le _
  replace c1 := hide c1
  replace c2 := hide c2
  replace ho3 : Only g W0 w3 := hox.trans ho3
  have hz3 := ho3.size
  clear hsx hox
  go_upto_region 2 with fail
  have hbx : CBox (w3.alloc (.cells #[.string t0, .string t1, .string t2, .int .i64 (nn : Int), .slice none 0 0, .int .i64 0, .slice none 0 0, .slice none 0 0, .slice none 0 0] 47)) w3.heap.size ⟨t0, t1, t2, (nn : Int), none, 0, 0, 0, none, 0, 0, none, 0, 0, none, 0, 0⟩ := cbox_new w3 ⟨t0, t1, t2, (nn : Int), none, 0, 0, 0, none, 0, 0, none, 0, 0, none, 0, 0⟩
  have hb4 : Below w3.heap.size w3 (w3.alloc (.cells #[.string t0, .string t1, .string t2, .int .i64 (nn : Int), .slice none 0 0, .int .i64 0, .slice none 0 0, .slice none 0 0, .slice none 0 0] 47)) := ext_alloc (Below.refl _ _) _
  have hz4 : (w3.alloc (.cells #[.string t0, .string t1, .string t2, .int .i64 (nn : Int), .slice none 0 0, .int .i64 0, .slice none 0 0, .slice none 0 0, .slice none 0 0] 47)).heap.size = w3.heap.size + 1 := World.size_alloc _ _
  have hs4 := hs3.later hb4
  have ho4 : Only g W0 _ := Only.later ho3 hb4
  obtain ⟨x, hx⟩ : ∃ x, w3.heap.size = x := ⟨_, rfl⟩
  obtain ⟨W4, hW4⟩ : ∃ W4, w3.alloc (.cells #[.string t0, .string t1, .string t2, .int .i64 (nn : Int), .slice none 0 0, .int .i64 0, .slice none 0 0, .slice none 0 0, .slice none 0 0] 47) = W4 := ⟨_, rfl⟩
  rw [hW4] at hbx hs4 ho4 hz4 ⊢
  rw [hx] at hbx hz4 ⊢
  have hxg : x ≠ g := by omega
  have hx4 : x < W4.heap.size := by omega
  have hWx : W0.heap.size ≤ x := by omega
  clear hs3 hb4 ho3 hW4 hx
  have y3 := hbx.c3
  dsimp only at y3
  obtain ⟨gg0, gg1, gg2, gg3, nn0⟩ := hCl0.only ho4 hgb hnb
  have hgb4 : gb < W4.heap.size := World.block_lt_of_cell? _ _ gg0
  by_cases hns : sl < (nn : Int)
  · go_wp2_with fail
    refine (fail_walk B g line F fs c k4 _ 3 _ hs4 (hF0.only ho4 hB (by omega)) i4 (by omega) (by omega)).mono ?_
    rintro e wA ⟨rfl, hsA, hoA⟩
    rw [show decide ((3 : Int) ≠ 0) = decide (sl < (nn : Int)) from by rw [decide_eq_true hns]; rfl] at hsA
    replace hbx := hbx.only hoA hxg
    replace hoA : Only g W0 wA := ho4.trans hoA
    clear hs4 ho4 y3 gg0 gg1 gg2 gg3 nn0 hx4 hz4 hgb4
    (
        have hlen := hide (len_step (pr3 := pr3) (prn := prn) (line := line) (sl := sl) (fs := fs) (k3 := k3) (k4 := k4) (nn := nn) (by omega) c1.out c2.out)
        obtain ⟨pr4, hpr4⟩ : ∃ pr4, noted prn (decide (sl < (nn : Int))) (line, colAt fs k4, 3) = pr4 := ⟨_, rfl⟩
        rw [hpr4] at hlen
        rw [hpr4] at hsA
        clear c1 c2 hpr4 hns
        have hzA := hoA.size
        have hxA : x < wA.heap.size := hbx.lt
        obtain ⟨gg0, gg1, gg2, gg3, nn0⟩ := hCl0.only hoA hgb hnb
        have hgbA : gb < wA.heap.size := World.block_lt_of_cell? _ _ gg0
        have hnbA : nb < wA.heap.size := World.block_lt_of_cell? _ _ nn0
        go_wp2_with fail
        refine (readPats_walk B g line F fs c k4 n pr4 wA (hoA.std hS0 (by omega)) hsA (hF0.only hoA hB (by omega)) (by omega) (by omega) hB hN (fun _ _ => i4) (hsz k4)).mono ?_
        rintro e w5 ⟨k5, ps, v4, pr5, rfl, o4, hs5, ho5, i5, j5, e1, e2⟩
        replace e1 := hide e1
        replace e2 := hide e2
        obtain ⟨A4, c4, rfl⟩ := o4.form
        obtain ⟨n4, hn4⟩ : ∃ n4, ps.length = n4 := ⟨_, rfl⟩
        rw [hn4] at o4 ⊢
        replace hn4 := hide hn4
        have hb5 := hbx.only ho5 hxg
        have y4 := hb5.c4
        have yf := hb5.free 4
        dsimp only at y4
        have hx5 := hb5.lt
        have hb6 := hb5.set4 A4 n4 c4
        dsimp only at hb6
        have hxo : Only x w5 (w5.setCell ⟨x, 4, none⟩ (.slice A4 n4 c4)) := only_setCell (Only.refl x w5) (p := ⟨x, 4, none⟩) (Or.inl rfl) (.slice A4 n4 c4)
        have o4' := o4.noteT hxo hxA
        have hs6 := box_scan (i := 4) hs5 hb5 hxg (.slice A4 n4 c4)
        have ho6 : Only g W0 (w5.setCell ⟨x, 4, none⟩ (.slice A4 n4 c4)) := only_setCell (hoA.trans ho5) (Or.inr hWx) _
        clear hsA hoA hbx o4 hs5 ho5 hxo gg0 gg1 gg2 gg3 nn0
        go_upto_region 5 with fail
        clear y4 yf hb5
        obtain ⟨W6, hW6⟩ : ∃ W6, w5.setCell ⟨x, 4, none⟩ (.slice A4 n4 c4) = W6 := ⟨_, rfl⟩
        rw [hW6] at hb6 o4' hs6 ho6 ⊢
        clear hW6
        have hx6 := hb6.lt
        have hz6 := ho6.size
        go_wp2_with fail
        refine (num_anyF B g line F fs c k5 4 pr5 W6 hs6 (hF0.only ho6 hB (by omega)) (by omega) (by omega) hB (fun _ _ => i5) (by decide) (by have := hsz k5; omega)).mono ?_
        rintro e w7 ⟨k6, m6, pr6, rfl, hs7, ho7, i6, j6, f1, f2⟩
        replace f1 := hide f1
        replace f2 := hide f2
        have hb7 := hb6.only ho7 hxg
        have y5 := hb7.c5
        have yf := hb7.free 5
        dsimp only at y5
        have o47 := o4'.noteT ho7 (by omega)
        have hb8 := hb7.set5 (m6 : Int)
        dsimp only at hb8
        have hx7 := hb7.lt
        have hxo : Only x w7 (w7.setCell ⟨x, 5, none⟩ (.int .i64 (m6 : Int))) := only_setCell (Only.refl x w7) (p := ⟨x, 5, none⟩) (Or.inl rfl) (.int .i64 (m6 : Int))
        have o48 := o47.noteT hxo hxA
        have hs8 := box_scan (i := 5) hs7 hb7 hxg (.int .i64 (m6 : Int))
        have ho8 : Only g W0 (w7.setCell ⟨x, 5, none⟩ (.int .i64 (m6 : Int))) := only_setCell (ho6.trans ho7) (Or.inr hWx) _
        clear hb6 o4' hs6 ho6 hs7 ho7 o47 hxo
        go_upto_region 6 with fail
        clear y5 yf hb7
        obtain ⟨W8, hW8⟩ : ∃ W8, w7.setCell ⟨x, 5, none⟩ (.int .i64 (m6 : Int)) = W8 := ⟨_, rfl⟩
        rw [hW8] at hb8 o48 hs8 ho8 ⊢
        clear hW8
        have hx8 := hb8.lt
        have hz8 := ho8.size
        go_wp2_with fail
        refine (list_any B g line F fs c k6 8 pr6 W8 (ho8.std hS0 (by omega)) hs8 (hF0.only ho8 hB (by omega)) (by omega) (by omega) hB hN (fun _ _ => i6) (hsz k6)).mono ?_
        rintro e w9 ⟨k7, l6, v, pr7, rfl, hown, hs9, ho9, i7, j7, g1, g2⟩
        have hl64 : l6.length ≤ 64 := by
          cases hp : pr6 with
          | none => rw [(g1 hp).2.1]; exact listV_len64 _
          | some p => rw [(g2 p hp).2]; exact Nat.zero_le _
        replace g1 := hide g1
        replace g2 := hide g2
        obtain ⟨A6, c6, rfl, -, hat6⟩ := hown.any
        have hsort := fsorted_walk A6 l6 c6 w9 (by omega) hat6.any
        obtain ⟨L6, hL6⟩ : ∃ L6, l6.length = L6 := ⟨_, rfl⟩
        rw [hL6] at hsort ⊢
        replace hL6 := hide hL6
        have hb9 := hb8.only ho9 hxg
        have o49 := o48.noteT ho9 (by omega)
        have ho9' : Only g W0 w9 := ho8.trans ho9
        have hz9 := ho9'.size
        have hx9 := hb9.lt
        clear hb8 o48 hs8 ho8 ho9 hown hat6
        go_wp2_with fail
        refine hsort.mono ?_
        clear hsort
        rintro e wa ⟨v6, rfl, o6, hba⟩
        obtain ⟨A6, c6, rfl⟩ := o6.form
        obtain ⟨n6, hn6⟩ : ∃ n6, (ascS l6).length = n6 := ⟨_, rfl⟩
        obtain ⟨f6, hf6⟩ : ∃ f6, ascS l6 = f6 := ⟨_, rfl⟩
        rw [hf6] at o6 hn6
        rw [hf6]
        rw [hn6] at o6 ⊢
        replace hn6 := hide hn6
        replace hf6 := hide hf6
        have hb10 := hb9.later hba
        have y6 := hb10.c6
        have yf := hb10.free 6
        dsimp only at y6
        have o4a := o49.later hba
        have hsa := hs9.later hba
        have hoa : Only g W0 wa := Only.later ho9' hba
        have hb11 := hb10.set6 A6 n6 c6
        dsimp only at hb11
        have hxa := hb10.lt
        have hxo : Only x wa (wa.setCell ⟨x, 6, none⟩ (.slice A6 n6 c6)) := only_setCell (Only.refl x wa) (p := ⟨x, 6, none⟩) (Or.inl rfl) (.slice A6 n6 c6)
        have o4b := o4a.noteT hxo hxA
        have o6b := o6.noteT hxo hx9
        have hsb := box_scan (i := 6) hsa hb10 hxg (.slice A6 n6 c6)
        have hob : Only g W0 (wa.setCell ⟨x, 6, none⟩ (.slice A6 n6 c6)) := only_setCell hoa (Or.inr hWx) _
        clear hb9 o49 hs9 ho9' hba o6 o4a hsa hoa hxo
        go_upto_region 7 with fail
        clear y6 yf hb10
        obtain ⟨Wb, hWb⟩ : ∃ Wb, wa.setCell ⟨x, 6, none⟩ (.slice A6 n6 c6) = Wb := ⟨_, rfl⟩
        rw [hWb] at hb11 o4b o6b hsb hob ⊢
        clear hWb
        have hxb := hb11.lt
        have hzb := hob.size
        go_wp2_with fail
        refine (list_any B g line F fs c k7 8 pr7 Wb (hob.std hS0 (by omega)) hsb (hF0.only hob hB (by omega)) (by omega) (by omega) hB hN (fun _ _ => i7) (hsz k7)).mono ?_
        rintro e wc ⟨k8, l7, v, pr8, rfl, hown, hsc, hoc, i8, j8, h1, h2⟩
        have hl64 : l7.length ≤ 64 := by
          cases hp : pr7 with
          | none => rw [(h1 hp).2.1]; exact listV_len64 _
          | some p => rw [(h2 p hp).2]; exact Nat.zero_le _
        replace h1 := hide h1
        replace h2 := hide h2
        obtain ⟨A7, c7, rfl, -, hat7⟩ := hown.any
        have hsort := fsorted_walk A7 l7 c7 wc (by omega) hat7.any
        obtain ⟨L7, hL7⟩ : ∃ L7, l7.length = L7 := ⟨_, rfl⟩
        rw [hL7] at hsort ⊢
        replace hL7 := hide hL7
        have hbc := hb11.only hoc hxg
        have o4c := o4b.noteT hoc (by omega)
        have o6c := o6b.noteT hoc (by omega)
        have hoc' : Only g W0 wc := hob.trans hoc
        have hzc := hoc'.size
        have hxc := hbc.lt
        clear hb11 o4b o6b hsb hob hoc hown hat7
        go_wp2_with fail
        refine hsort.mono ?_
        clear hsort
        rintro e wd ⟨v7, rfl, o7, hbd⟩
        obtain ⟨A7, c7, rfl⟩ := o7.form
        obtain ⟨n7, hn7⟩ : ∃ n7, (ascS l7).length = n7 := ⟨_, rfl⟩
        obtain ⟨f7, hf7⟩ : ∃ f7, ascS l7 = f7 := ⟨_, rfl⟩
        rw [hf7] at o7 hn7
        rw [hf7]
        rw [hn7] at o7 ⊢
        replace hn7 := hide hn7
        replace hf7 := hide hf7
        have hbd1 := hbc.later hbd
        have y7 := hbd1.c7
        have yf := hbd1.free 7
        dsimp only at y7
        have o4d := o4c.later hbd
        have o6d := o6c.later hbd
        have hsd := hsc.later hbd
        have hod : Only g W0 wd := Only.later hoc' hbd
        have hbe := hbd1.set7 A7 n7 c7
        dsimp only at hbe
        have hxd := hbd1.lt
        have hxo : Only x wd (wd.setCell ⟨x, 7, none⟩ (.slice A7 n7 c7)) := only_setCell (Only.refl x wd) (p := ⟨x, 7, none⟩) (Or.inl rfl) (.slice A7 n7 c7)
        have o4e := o4d.noteT hxo hxA
        have o6e := o6d.noteT hxo hx9
        have o7e := o7.noteT hxo hxc
        have hse := box_scan (i := 7) hsd hbd1 hxg (.slice A7 n7 c7)
        have hoe : Only g W0 (wd.setCell ⟨x, 7, none⟩ (.slice A7 n7 c7)) := only_setCell hod (Or.inr hWx) _
        clear hbc o4c o6c hsc hoc' hbd o7 o4d o6d hsd hod hxo
        go_upto_region 8 with fail
        clear y7 yf hbd1
        obtain ⟨We, hWe⟩ : ∃ We, wd.setCell ⟨x, 7, none⟩ (.slice A7 n7 c7) = We := ⟨_, rfl⟩
        rw [hWe] at hbe o4e o6e o7e hse hoe ⊢
        clear hWe
        have hxe := hbe.lt
        have hze := hoe.size
        obtain ⟨gg0, gg1, gg2, gg3, nn0⟩ := hCl0.only hoe hgb hnb
        have hgbe : gb < We.heap.size := World.block_lt_of_cell? _ _ gg0
        have y3 := hbe.c3
        dsimp only at y3
        go_wp2_with fail
        refine (readStarts_walk B g line F fs c k8 d sl b m (nn : Int) pr8 We (hoe.std hS0 (by omega)) hse (hF0.only hoe hB (by omega)) (by omega) (by omega) hB hN (fun _ _ => i8) (hsz k8) hsl ⟨by omega, by omega⟩).mono ?_
        rintro e wf ⟨k9, ss, v8, pr9, rfl, o8, hsf, hof, j9, m1, m2⟩
        replace m1 := hide m1
        replace m2 := hide m2
        obtain ⟨A8, c8, rfl⟩ := o8.form
        obtain ⟨n8, hn8⟩ : ∃ n8, (ascP ss).length = n8 := ⟨_, rfl⟩
        obtain ⟨s8, hs8⟩ : ∃ s8, ascP ss = s8 := ⟨_, rfl⟩
        rw [hs8] at o8 hn8
        rw [hs8]
        rw [hn8] at o8 ⊢
        replace hn8 := hide hn8
        replace hs8 := hide hs8
        have hbf := hbe.only hof hxg
        have y8 := hbf.c8
        have yf := hbf.free 8
        dsimp only at y8
        have o4f := o4e.noteT hof (by omega)
        have o6f := o6e.noteT hof (by omega)
        have o7f := o7e.noteT hof (by omega)
        have hbg := hbf.set8 A8 n8 c8
        dsimp only at hbg
        have hxf := hbf.lt
        have hxo : Only x wf (wf.setCell ⟨x, 8, none⟩ (.slice A8 n8 c8)) := only_setCell (Only.refl x wf) (p := ⟨x, 8, none⟩) (Or.inl rfl) (.slice A8 n8 c8)
        have o4g := o4f.noteT hxo hxA
        have o6g := o6f.noteT hxo hx9
        have o7g := o7f.noteT hxo hxc
        have o8g := o8.noteT hxo hxe
        have hsg := box_scan (i := 8) hsf hbf hxg (.slice A8 n8 c8)
        have hog : Only g W0 (wf.setCell ⟨x, 8, none⟩ (.slice A8 n8 c8)) := only_setCell (hoe.trans hof) (Or.inr hWx) _
        have hwg := hw0.below (hog.below (Nat.le_refl _) (by omega))
        clear hbe o4e o6e o7e hse hoe o8 o4f o6f o7f hsf hof hxo gg0 gg1 gg2 gg3 nn0 y3
        go_upto_region 9 with fail
        clear y8 yf hbf
        obtain ⟨Wg, hWg⟩ : ∃ Wg, wf.setCell ⟨x, 8, none⟩ (.slice A8 n8 c8) = Wg := ⟨_, rfl⟩
        rw [hWg] at hbg o4g o6g o7g o8g hsg hog hwg ⊢
        clear hWg
        have hxg2 := hbg.lt
        have hzg := hog.size
        have hhas := khas_walk A ls cr t0 Wg (by omega) hwg.any
        obtain ⟨q, hqq⟩ : ∃ q, ls.length = q := ⟨_, rfl⟩
        rw [hqq] at hhas ⊢
        have key : Hid (∀ prx : Option Prob, noted pr9 (decide (0 ≤ idxS t0 (codesK ls))) (line, 0, 11) = prx → noted prx (decide (24 ≤ q)) (line, 0, 2) = clsP d sl n line fs ls ∧ (clsP d sl n line fs ls = none → (t0, t1, t2, (nn : Int), ps, (m6 : Int), f6, f7, s8) = clsOf d sl n fs)) := hide fun prx hx1 => by
          rw [← hx1, ← hqq, ← hf6.out, ← hf7.out, ← hs8.out]
          exact cls_steps (pr0 := none) (k0 := 0) rfl rfl (fun _ => by have := a1.out trivial; exact ⟨this.1, this.2.1, this.2.2.trans code_prob⟩) (fun p h => by cases h)
            (fun h => by have := b1.out h; exact ⟨this.1, this.2.1, this.2.2.trans code_prob⟩) b2.out
            (fun h => by have := d1.out h; exact ⟨this.1, this.2.1, this.2.2.trans code_prob⟩) d2.out
            hlen.out.1 hlen.out.2 e1.out e2.out
            (fun h => by have := f1.out h; exact ⟨this.1, by rw [this.2.1], this.2.2.trans num_prob⟩) (fun p h => (f2.out p h).1)
            g1.out (fun p h => (g2.out p h).1) h1.out (fun p h => (h2.out p h).1) m1.out m2.out
        rw [hqq] at hq
        clear hwg a1 b1 b2 d1 d2 e1 e2 f1 f2 g1 g2 h1 h2 m1 m2 hlen hw0
        replace hqq := hide hqq
        have y0 := hbg.c0
        dsimp only at y0
        go_wp2_with fail
        refine hhas.mono ?_
        rintro e wh ⟨rfl, hbh⟩
        have hbh1 := hbg.later hbh
        have hsh := hsg.later hbh
        have hoh : Only g W0 wh := Only.later hog hbh
        have o4h := o4g.later hbh
        have o6h := o6g.later hbh
        have o7h := o7g.later hbh
        have o8h := o8g.later hbh
        clear hbg o4g o6g o7g o8g hsg hog hbh hhas y0
        have hzh := hoh.size
        go_wp2_with fail
        refine (whole_walk g line F fs.length c k9 pr9 _ 11 wh hsh).mono ?_
        rintro e wi ⟨rfl, hsi, hoi⟩
        have hbi := hbh1.only hoi hxg
        have o4i := o4h.noteT hoi (by omega)
        have o6i := o6h.noteT hoi (by omega)
        have o7i := o7h.noteT hoi (by omega)
        have o8i := o8h.noteT hoi (by omega)
        have hoi' : Only g W0 wi := hoh.trans hoi
        obtain ⟨prx, hprx⟩ : ∃ prx, noted pr9 (decide (0 ≤ idxS t0 (codesK ls))) (line, 0, 11) = prx := ⟨_, rfl⟩
        rw [hprx] at hsi
        have hkey := hide (key.out prx hprx)
        clear hbh1 hsh hoh o4h o6h o7h o8h hoi key hprx
        have hzi := hoi'.size
        go_wp2_with fail
        refine (whole_walk g line F fs.length c k9 prx _ 2 wi hsi).mono ?_
        rintro e wj ⟨rfl, hsj, hoj⟩
        rw [show decide ((q : Int) ≥ 24) = decide (24 ≤ q) from decide_eq_decide.2 (by omega), hkey.out.1] at hsj
        have hbj := hbi.only hoj hxg
        have o4j := o4i.noteT hoj (by omega)
        have o6j := o6i.noteT hoj (by omega)
        have o7j := o7i.noteT hoj (by omega)
        have o8j := o8i.noteT hoj (by omega)
        have hoj' : Only g W0 wj := hoi'.trans hoj
        have hfin := hide hkey.out.2
        have hrj := hr9.out.only hoj' hrg
        have s0 := hrj.c0
        have s1 := hrj.c1
        have s2 := hrj.c2
        have s3 := hrj.c3
        have s4 := hrj.c4
        have s5 := hrj.c5
        have s6 := hrj.c6
        have s7 := hrj.c7
        have s8' := hrj.c8
        have p0 := hbj.c0
        have p1 := hbj.c1
        have p2 := hbj.c2
        have p3 := hbj.c3
        have p4 := hbj.c4
        have p5 := hbj.c5
        have p6 := hbj.c6
        have p7 := hbj.c7
        have p8 := hbj.c8
        dsimp only at s0 s1 s2 s3 s4 s5 s6 s7 s8' p0 p1 p2 p3 p4 p5 p6 p7 p8
        have r0 := hrj.free 0
        have r1 := hrj.free 1
        have r2 := hrj.free 2
        have r3 := hrj.free 3
        have r4 := hrj.free 4
        have r5 := hrj.free 5
        have r6 := hrj.free 6
        have r7 := hrj.free 7
        have r8 := hrj.free 8
        have hxj := hbj.lt
        have hrlj := hrj.lt
        replace hsj := hide hsj
        replace hoj' := hide hoj'
        replace hrj := hide hrj
        clear hbi o4i o6i o7i o8i hsi hoi' hoj hkey hbj
        go_wp2
        have hro : Only r wj (set9 wj r ⟨t0, t1, t2, (nn : Int), A4, n4, c4, (m6 : Int), A6, n6, c6, A7, n7, c7, A8, n8, c8⟩) := set9_only (Only.refl r wj) (Or.inl rfl)
        have hbz : w.heap.size = r := hr.out
        have hbxf := set9_box (q := ⟨t0, t1, t2, (nn : Int), A4, n4, c4, (m6 : Int), A6, n6, c6, A7, n7, c7, A8, n8, c8⟩) hrj.out
        have hscf := set9_scan (q := ⟨t0, t1, t2, (nn : Int), A4, n4, c4, (m6 : Int), A6, n6, c6, A7, n7, c7, A8, n8, c8⟩) hsj.out hrj.out hrg
        have honf := set9_only (q := ⟨t0, t1, t2, (nn : Int), A4, n4, c4, (m6 : Int), A6, n6, c6, A7, n7, c7, A8, n8, c8⟩) (how.trans hoj'.out) (Or.inr (Nat.le_of_eq hbz))
        change bodyPost _ _ _ _ _ (set9 wj r ⟨t0, t1, t2, (nn : Int), A4, n4, c4, (m6 : Int), A6, n6, c6, A7, n7, c7, A8, n8, c8⟩)
        generalize set9 wj r ⟨t0, t1, t2, (nn : Int), A4, n4, c4, (m6 : Int), A6, n6, c6, A7, n7, c7, A8, n8, c8⟩ = wk at *
        refine end_clsK rfl r ⟨t0, t1, t2, (nn : Int), A4, n4, c4, (m6 : Int), A6, n6, c6, A7, n7, c7, A8, n8, c8⟩ rfl rfl hbxf ⟨_, ps, f6, f7, s8, k9, rfl, ?_, ?_, ?_, ?_, hscf, hfin.out, honf⟩
        · exact (o4j.noteT hro (by omega)).lower (by omega)
        · exact (o6j.noteT hro (by omega)).lower (by omega)
        · exact (o7j.noteT hro (by omega)).lower (by omega)
        · exact (o8j.noteT hro (by omega)).lower (by omega))
  · have hsA : Scan W4 g line F fs.length c k4 (noted prn (decide (sl < (nn : Int))) (line, colAt fs k4, 3)) := by rw [decide_eq_false hns, noted_false]; exact hs4
    have hoA := ho4
    go_upto_region 4 with fail
    obtain ⟨wA, hren⟩ : ∃ wA, wA = W4 := ⟨_, rfl⟩
    subst hren
    clear hs4 ho4 gg0 gg1 gg2 gg3 nn0 hgb4 y3 hx4 hz4
    (
        have hlen := hide (len_step (pr3 := pr3) (prn := prn) (line := line) (sl := sl) (fs := fs) (k3 := k3) (k4 := k4) (nn := nn) (by omega) c1.out c2.out)
        obtain ⟨pr4, hpr4⟩ : ∃ pr4, noted prn (decide (sl < (nn : Int))) (line, colAt fs k4, 3) = pr4 := ⟨_, rfl⟩
        rw [hpr4] at hlen
        rw [hpr4] at hsA
        clear c1 c2 hpr4 hns
        have hzA := hoA.size
        have hxA : x < wA.heap.size := hbx.lt
        obtain ⟨gg0, gg1, gg2, gg3, nn0⟩ := hCl0.only hoA hgb hnb
        have hgbA : gb < wA.heap.size := World.block_lt_of_cell? _ _ gg0
        have hnbA : nb < wA.heap.size := World.block_lt_of_cell? _ _ nn0
        go_wp2_with fail
        refine (readPats_walk B g line F fs c k4 n pr4 wA (hoA.std hS0 (by omega)) hsA (hF0.only hoA hB (by omega)) (by omega) (by omega) hB hN (fun _ _ => i4) (hsz k4)).mono ?_
        rintro e w5 ⟨k5, ps, v4, pr5, rfl, o4, hs5, ho5, i5, j5, e1, e2⟩
        replace e1 := hide e1
        replace e2 := hide e2
        obtain ⟨A4, c4, rfl⟩ := o4.form
        obtain ⟨n4, hn4⟩ : ∃ n4, ps.length = n4 := ⟨_, rfl⟩
        rw [hn4] at o4 ⊢
        replace hn4 := hide hn4
        have hb5 := hbx.only ho5 hxg
        have y4 := hb5.c4
        have yf := hb5.free 4
        dsimp only at y4
        have hx5 := hb5.lt
        have hb6 := hb5.set4 A4 n4 c4
        dsimp only at hb6
        have hxo : Only x w5 (w5.setCell ⟨x, 4, none⟩ (.slice A4 n4 c4)) := only_setCell (Only.refl x w5) (p := ⟨x, 4, none⟩) (Or.inl rfl) (.slice A4 n4 c4)
        have o4' := o4.noteT hxo hxA
        have hs6 := box_scan (i := 4) hs5 hb5 hxg (.slice A4 n4 c4)
        have ho6 : Only g W0 (w5.setCell ⟨x, 4, none⟩ (.slice A4 n4 c4)) := only_setCell (hoA.trans ho5) (Or.inr hWx) _
        clear hsA hoA hbx o4 hs5 ho5 hxo gg0 gg1 gg2 gg3 nn0
        go_upto_region 5 with fail
        clear y4 yf hb5
        obtain ⟨W6, hW6⟩ : ∃ W6, w5.setCell ⟨x, 4, none⟩ (.slice A4 n4 c4) = W6 := ⟨_, rfl⟩
        rw [hW6] at hb6 o4' hs6 ho6 ⊢
        clear hW6
        have hx6 := hb6.lt
        have hz6 := ho6.size
        go_wp2_with fail
        refine (num_anyF B g line F fs c k5 4 pr5 W6 hs6 (hF0.only ho6 hB (by omega)) (by omega) (by omega) hB (fun _ _ => i5) (by decide) (by have := hsz k5; omega)).mono ?_
        rintro e w7 ⟨k6, m6, pr6, rfl, hs7, ho7, i6, j6, f1, f2⟩
        replace f1 := hide f1
        replace f2 := hide f2
        have hb7 := hb6.only ho7 hxg
        have y5 := hb7.c5
        have yf := hb7.free 5
        dsimp only at y5
        have o47 := o4'.noteT ho7 (by omega)
        have hb8 := hb7.set5 (m6 : Int)
        dsimp only at hb8
        have hx7 := hb7.lt
        have hxo : Only x w7 (w7.setCell ⟨x, 5, none⟩ (.int .i64 (m6 : Int))) := only_setCell (Only.refl x w7) (p := ⟨x, 5, none⟩) (Or.inl rfl) (.int .i64 (m6 : Int))
        have o48 := o47.noteT hxo hxA
        have hs8 := box_scan (i := 5) hs7 hb7 hxg (.int .i64 (m6 : Int))
        have ho8 : Only g W0 (w7.setCell ⟨x, 5, none⟩ (.int .i64 (m6 : Int))) := only_setCell (ho6.trans ho7) (Or.inr hWx) _
        clear hb6 o4' hs6 ho6 hs7 ho7 o47 hxo
        go_upto_region 6 with fail
        clear y5 yf hb7
        obtain ⟨W8, hW8⟩ : ∃ W8, w7.setCell ⟨x, 5, none⟩ (.int .i64 (m6 : Int)) = W8 := ⟨_, rfl⟩
        rw [hW8] at hb8 o48 hs8 ho8 ⊢
        clear hW8
        have hx8 := hb8.lt
        have hz8 := ho8.size
        go_wp2_with fail
        refine (list_any B g line F fs c k6 8 pr6 W8 (ho8.std hS0 (by omega)) hs8 (hF0.only ho8 hB (by omega)) (by omega) (by omega) hB hN (fun _ _ => i6) (hsz k6)).mono ?_
        rintro e w9 ⟨k7, l6, v, pr7, rfl, hown, hs9, ho9, i7, j7, g1, g2⟩
        have hl64 : l6.length ≤ 64 := by
          cases hp : pr6 with
          | none => rw [(g1 hp).2.1]; exact listV_len64 _
          | some p => rw [(g2 p hp).2]; exact Nat.zero_le _
        replace g1 := hide g1
        replace g2 := hide g2
        obtain ⟨A6, c6, rfl, -, hat6⟩ := hown.any
        have hsort := fsorted_walk A6 l6 c6 w9 (by omega) hat6.any
        obtain ⟨L6, hL6⟩ : ∃ L6, l6.length = L6 := ⟨_, rfl⟩
        rw [hL6] at hsort ⊢
        replace hL6 := hide hL6
        have hb9 := hb8.only ho9 hxg
        have o49 := o48.noteT ho9 (by omega)
        have ho9' : Only g W0 w9 := ho8.trans ho9
        have hz9 := ho9'.size
        have hx9 := hb9.lt
        clear hb8 o48 hs8 ho8 ho9 hown hat6
        go_wp2_with fail
        refine hsort.mono ?_
        clear hsort
        rintro e wa ⟨v6, rfl, o6, hba⟩
        obtain ⟨A6, c6, rfl⟩ := o6.form
        obtain ⟨n6, hn6⟩ : ∃ n6, (ascS l6).length = n6 := ⟨_, rfl⟩
        obtain ⟨f6, hf6⟩ : ∃ f6, ascS l6 = f6 := ⟨_, rfl⟩
        rw [hf6] at o6 hn6
        rw [hf6]
        rw [hn6] at o6 ⊢
        replace hn6 := hide hn6
        replace hf6 := hide hf6
        have hb10 := hb9.later hba
        have y6 := hb10.c6
        have yf := hb10.free 6
        dsimp only at y6
        have o4a := o49.later hba
        have hsa := hs9.later hba
        have hoa : Only g W0 wa := Only.later ho9' hba
        have hb11 := hb10.set6 A6 n6 c6
        dsimp only at hb11
        have hxa := hb10.lt
        have hxo : Only x wa (wa.setCell ⟨x, 6, none⟩ (.slice A6 n6 c6)) := only_setCell (Only.refl x wa) (p := ⟨x, 6, none⟩) (Or.inl rfl) (.slice A6 n6 c6)
        have o4b := o4a.noteT hxo hxA
        have o6b := o6.noteT hxo hx9
        have hsb := box_scan (i := 6) hsa hb10 hxg (.slice A6 n6 c6)
        have hob : Only g W0 (wa.setCell ⟨x, 6, none⟩ (.slice A6 n6 c6)) := only_setCell hoa (Or.inr hWx) _
        clear hb9 o49 hs9 ho9' hba o6 o4a hsa hoa hxo
        go_upto_region 7 with fail
        clear y6 yf hb10
        obtain ⟨Wb, hWb⟩ : ∃ Wb, wa.setCell ⟨x, 6, none⟩ (.slice A6 n6 c6) = Wb := ⟨_, rfl⟩
        rw [hWb] at hb11 o4b o6b hsb hob ⊢
        clear hWb
        have hxb := hb11.lt
        have hzb := hob.size
        go_wp2_with fail
        refine (list_any B g line F fs c k7 8 pr7 Wb (hob.std hS0 (by omega)) hsb (hF0.only hob hB (by omega)) (by omega) (by omega) hB hN (fun _ _ => i7) (hsz k7)).mono ?_
        rintro e wc ⟨k8, l7, v, pr8, rfl, hown, hsc, hoc, i8, j8, h1, h2⟩
        have hl64 : l7.length ≤ 64 := by
          cases hp : pr7 with
          | none => rw [(h1 hp).2.1]; exact listV_len64 _
          | some p => rw [(h2 p hp).2]; exact Nat.zero_le _
        replace h1 := hide h1
        replace h2 := hide h2
        obtain ⟨A7, c7, rfl, -, hat7⟩ := hown.any
        have hsort := fsorted_walk A7 l7 c7 wc (by omega) hat7.any
        obtain ⟨L7, hL7⟩ : ∃ L7, l7.length = L7 := ⟨_, rfl⟩
        rw [hL7] at hsort ⊢
        replace hL7 := hide hL7
        have hbc := hb11.only hoc hxg
        have o4c := o4b.noteT hoc (by omega)
        have o6c := o6b.noteT hoc (by omega)
        have hoc' : Only g W0 wc := hob.trans hoc
        have hzc := hoc'.size
        have hxc := hbc.lt
        clear hb11 o4b o6b hsb hob hoc hown hat7
        go_wp2_with fail
        refine hsort.mono ?_
        clear hsort
        rintro e wd ⟨v7, rfl, o7, hbd⟩
        obtain ⟨A7, c7, rfl⟩ := o7.form
        obtain ⟨n7, hn7⟩ : ∃ n7, (ascS l7).length = n7 := ⟨_, rfl⟩
        obtain ⟨f7, hf7⟩ : ∃ f7, ascS l7 = f7 := ⟨_, rfl⟩
        rw [hf7] at o7 hn7
        rw [hf7]
        rw [hn7] at o7 ⊢
        replace hn7 := hide hn7
        replace hf7 := hide hf7
        have hbd1 := hbc.later hbd
        have y7 := hbd1.c7
        have yf := hbd1.free 7
        dsimp only at y7
        have o4d := o4c.later hbd
        have o6d := o6c.later hbd
        have hsd := hsc.later hbd
        have hod : Only g W0 wd := Only.later hoc' hbd
        have hbe := hbd1.set7 A7 n7 c7
        dsimp only at hbe
        have hxd := hbd1.lt
        have hxo : Only x wd (wd.setCell ⟨x, 7, none⟩ (.slice A7 n7 c7)) := only_setCell (Only.refl x wd) (p := ⟨x, 7, none⟩) (Or.inl rfl) (.slice A7 n7 c7)
        have o4e := o4d.noteT hxo hxA
        have o6e := o6d.noteT hxo hx9
        have o7e := o7.noteT hxo hxc
        have hse := box_scan (i := 7) hsd hbd1 hxg (.slice A7 n7 c7)
        have hoe : Only g W0 (wd.setCell ⟨x, 7, none⟩ (.slice A7 n7 c7)) := only_setCell hod (Or.inr hWx) _
        clear hbc o4c o6c hsc hoc' hbd o7 o4d o6d hsd hod hxo
        go_upto_region 8 with fail
        clear y7 yf hbd1
        obtain ⟨We, hWe⟩ : ∃ We, wd.setCell ⟨x, 7, none⟩ (.slice A7 n7 c7) = We := ⟨_, rfl⟩
        rw [hWe] at hbe o4e o6e o7e hse hoe ⊢
        clear hWe
        have hxe := hbe.lt
        have hze := hoe.size
        obtain ⟨gg0, gg1, gg2, gg3, nn0⟩ := hCl0.only hoe hgb hnb
        have hgbe : gb < We.heap.size := World.block_lt_of_cell? _ _ gg0
        have y3 := hbe.c3
        dsimp only at y3
        go_wp2_with fail
        refine (readStarts_walk B g line F fs c k8 d sl b m (nn : Int) pr8 We (hoe.std hS0 (by omega)) hse (hF0.only hoe hB (by omega)) (by omega) (by omega) hB hN (fun _ _ => i8) (hsz k8) hsl ⟨by omega, by omega⟩).mono ?_
        rintro e wf ⟨k9, ss, v8, pr9, rfl, o8, hsf, hof, j9, m1, m2⟩
        replace m1 := hide m1
        replace m2 := hide m2
        obtain ⟨A8, c8, rfl⟩ := o8.form
        obtain ⟨n8, hn8⟩ : ∃ n8, (ascP ss).length = n8 := ⟨_, rfl⟩
        obtain ⟨s8, hs8⟩ : ∃ s8, ascP ss = s8 := ⟨_, rfl⟩
        rw [hs8] at o8 hn8
        rw [hs8]
        rw [hn8] at o8 ⊢
        replace hn8 := hide hn8
        replace hs8 := hide hs8
        have hbf := hbe.only hof hxg
        have y8 := hbf.c8
        have yf := hbf.free 8
        dsimp only at y8
        have o4f := o4e.noteT hof (by omega)
        have o6f := o6e.noteT hof (by omega)
        have o7f := o7e.noteT hof (by omega)
        have hbg := hbf.set8 A8 n8 c8
        dsimp only at hbg
        have hxf := hbf.lt
        have hxo : Only x wf (wf.setCell ⟨x, 8, none⟩ (.slice A8 n8 c8)) := only_setCell (Only.refl x wf) (p := ⟨x, 8, none⟩) (Or.inl rfl) (.slice A8 n8 c8)
        have o4g := o4f.noteT hxo hxA
        have o6g := o6f.noteT hxo hx9
        have o7g := o7f.noteT hxo hxc
        have o8g := o8.noteT hxo hxe
        have hsg := box_scan (i := 8) hsf hbf hxg (.slice A8 n8 c8)
        have hog : Only g W0 (wf.setCell ⟨x, 8, none⟩ (.slice A8 n8 c8)) := only_setCell (hoe.trans hof) (Or.inr hWx) _
        have hwg := hw0.below (hog.below (Nat.le_refl _) (by omega))
        clear hbe o4e o6e o7e hse hoe o8 o4f o6f o7f hsf hof hxo gg0 gg1 gg2 gg3 nn0 y3
        go_upto_region 9 with fail
        clear y8 yf hbf
        obtain ⟨Wg, hWg⟩ : ∃ Wg, wf.setCell ⟨x, 8, none⟩ (.slice A8 n8 c8) = Wg := ⟨_, rfl⟩
        rw [hWg] at hbg o4g o6g o7g o8g hsg hog hwg ⊢
        clear hWg
        have hxg2 := hbg.lt
        have hzg := hog.size
        have hhas := khas_walk A ls cr t0 Wg (by omega) hwg.any
        obtain ⟨q, hqq⟩ : ∃ q, ls.length = q := ⟨_, rfl⟩
        rw [hqq] at hhas ⊢
        have key : Hid (∀ prx : Option Prob, noted pr9 (decide (0 ≤ idxS t0 (codesK ls))) (line, 0, 11) = prx → noted prx (decide (24 ≤ q)) (line, 0, 2) = clsP d sl n line fs ls ∧ (clsP d sl n line fs ls = none → (t0, t1, t2, (nn : Int), ps, (m6 : Int), f6, f7, s8) = clsOf d sl n fs)) := hide fun prx hx1 => by
          rw [← hx1, ← hqq, ← hf6.out, ← hf7.out, ← hs8.out]
          exact cls_steps (pr0 := none) (k0 := 0) rfl rfl (fun _ => by have := a1.out trivial; exact ⟨this.1, this.2.1, this.2.2.trans code_prob⟩) (fun p h => by cases h)
            (fun h => by have := b1.out h; exact ⟨this.1, this.2.1, this.2.2.trans code_prob⟩) b2.out
            (fun h => by have := d1.out h; exact ⟨this.1, this.2.1, this.2.2.trans code_prob⟩) d2.out
            hlen.out.1 hlen.out.2 e1.out e2.out
            (fun h => by have := f1.out h; exact ⟨this.1, by rw [this.2.1], this.2.2.trans num_prob⟩) (fun p h => (f2.out p h).1)
            g1.out (fun p h => (g2.out p h).1) h1.out (fun p h => (h2.out p h).1) m1.out m2.out
        rw [hqq] at hq
        clear hwg a1 b1 b2 d1 d2 e1 e2 f1 f2 g1 g2 h1 h2 m1 m2 hlen hw0
        replace hqq := hide hqq
        have y0 := hbg.c0
        dsimp only at y0
        go_wp2_with fail
        refine hhas.mono ?_
        rintro e wh ⟨rfl, hbh⟩
        have hbh1 := hbg.later hbh
        have hsh := hsg.later hbh
        have hoh : Only g W0 wh := Only.later hog hbh
        have o4h := o4g.later hbh
        have o6h := o6g.later hbh
        have o7h := o7g.later hbh
        have o8h := o8g.later hbh
        clear hbg o4g o6g o7g o8g hsg hog hbh hhas y0
        have hzh := hoh.size
        go_wp2_with fail
        refine (whole_walk g line F fs.length c k9 pr9 _ 11 wh hsh).mono ?_
        rintro e wi ⟨rfl, hsi, hoi⟩
        have hbi := hbh1.only hoi hxg
        have o4i := o4h.noteT hoi (by omega)
        have o6i := o6h.noteT hoi (by omega)
        have o7i := o7h.noteT hoi (by omega)
        have o8i := o8h.noteT hoi (by omega)
        have hoi' : Only g W0 wi := hoh.trans hoi
        obtain ⟨prx, hprx⟩ : ∃ prx, noted pr9 (decide (0 ≤ idxS t0 (codesK ls))) (line, 0, 11) = prx := ⟨_, rfl⟩
        rw [hprx] at hsi
        have hkey := hide (key.out prx hprx)
        clear hbh1 hsh hoh o4h o6h o7h o8h hoi key hprx
        have hzi := hoi'.size
        go_wp2_with fail
        refine (whole_walk g line F fs.length c k9 prx _ 2 wi hsi).mono ?_
        rintro e wj ⟨rfl, hsj, hoj⟩
        rw [show decide ((q : Int) ≥ 24) = decide (24 ≤ q) from decide_eq_decide.2 (by omega), hkey.out.1] at hsj
        have hbj := hbi.only hoj hxg
        have o4j := o4i.noteT hoj (by omega)
        have o6j := o6i.noteT hoj (by omega)
        have o7j := o7i.noteT hoj (by omega)
        have o8j := o8i.noteT hoj (by omega)
        have hoj' : Only g W0 wj := hoi'.trans hoj
        have hfin := hide hkey.out.2
        have hrj := hr9.out.only hoj' hrg
        have s0 := hrj.c0
        have s1 := hrj.c1
        have s2 := hrj.c2
        have s3 := hrj.c3
        have s4 := hrj.c4
        have s5 := hrj.c5
        have s6 := hrj.c6
        have s7 := hrj.c7
        have s8' := hrj.c8
        have p0 := hbj.c0
        have p1 := hbj.c1
        have p2 := hbj.c2
        have p3 := hbj.c3
        have p4 := hbj.c4
        have p5 := hbj.c5
        have p6 := hbj.c6
        have p7 := hbj.c7
        have p8 := hbj.c8
        dsimp only at s0 s1 s2 s3 s4 s5 s6 s7 s8' p0 p1 p2 p3 p4 p5 p6 p7 p8
        have r0 := hrj.free 0
        have r1 := hrj.free 1
        have r2 := hrj.free 2
        have r3 := hrj.free 3
        have r4 := hrj.free 4
        have r5 := hrj.free 5
        have r6 := hrj.free 6
        have r7 := hrj.free 7
        have r8 := hrj.free 8
        have hxj := hbj.lt
        have hrlj := hrj.lt
        replace hsj := hide hsj
        replace hoj' := hide hoj'
        replace hrj := hide hrj
        clear hbi o4i o6i o7i o8i hsi hoi' hoj hkey hbj
        go_wp2
        have hro : Only r wj (set9 wj r ⟨t0, t1, t2, (nn : Int), A4, n4, c4, (m6 : Int), A6, n6, c6, A7, n7, c7, A8, n8, c8⟩) := set9_only (Only.refl r wj) (Or.inl rfl)
        have hbz : w.heap.size = r := hr.out
        have hbxf := set9_box (q := ⟨t0, t1, t2, (nn : Int), A4, n4, c4, (m6 : Int), A6, n6, c6, A7, n7, c7, A8, n8, c8⟩) hrj.out
        have hscf := set9_scan (q := ⟨t0, t1, t2, (nn : Int), A4, n4, c4, (m6 : Int), A6, n6, c6, A7, n7, c7, A8, n8, c8⟩) hsj.out hrj.out hrg
        have honf := set9_only (q := ⟨t0, t1, t2, (nn : Int), A4, n4, c4, (m6 : Int), A6, n6, c6, A7, n7, c7, A8, n8, c8⟩) (how.trans hoj'.out) (Or.inr (Nat.le_of_eq hbz))
        change bodyPost _ _ _ _ _ (set9 wj r ⟨t0, t1, t2, (nn : Int), A4, n4, c4, (m6 : Int), A6, n6, c6, A7, n7, c7, A8, n8, c8⟩)
        generalize set9 wj r ⟨t0, t1, t2, (nn : Int), A4, n4, c4, (m6 : Int), A6, n6, c6, A7, n7, c7, A8, n8, c8⟩ = wk at *
        refine end_clsK rfl r ⟨t0, t1, t2, (nn : Int), A4, n4, c4, (m6 : Int), A6, n6, c6, A7, n7, c7, A8, n8, c8⟩ rfl rfl hbxf ⟨_, ps, f6, f7, s8, k9, rfl, ?_, ?_, ?_, ?_, hscf, hfin.out, honf⟩
        · exact (o4j.noteT hro (by omega)).lower (by omega)
        · exact (o6j.noteT hro (by omega)).lower (by omega)
        · exact (o7j.noteT hro (by omega)).lower (by omega)
        · exact (o8j.noteT hro (by omega)).lower (by omega))
end Go.Proofs.YtimcdikeajbabaaGreatDoor
