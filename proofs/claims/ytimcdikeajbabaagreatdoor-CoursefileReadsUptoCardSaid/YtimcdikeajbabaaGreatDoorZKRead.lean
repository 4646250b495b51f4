/- Walk of the closure of coursefile.Lines: one class is read. Conditions: the scanner's cells are as Scan says; texts shorter than 2^30 bytes; a grid's bounds. Classes in rows of their own. No condition. What fields.Read gathers at classes: some of their rows are of the lines' type, but apart from them. No condition. Walk of fields.Read at classes. Conditions: texts shorter than 2^30 bytes; what the program's variables hold. -/
import Derived.Test.YtimcdikeajbabaaGreatDoorRows
import Derived.WalkKit
import Derived.WalkSpells
import Derived.WalkLawsBesides
import Derived.BigGuardPart
import Derived.Lib.Hide
import Derived.Laws.BitsAllLaws
import Derived.Laws.BitsLemmas
import Derived.Lib.LaidTab
import Derived.Test.YtimcdikeajbabaaGreatDoorShelf
import Derived.Lib.ConvBytes
import Derived.Deep.QuietTactic
import Derived.BigQuiet
import Derived.Test.YtimcdikeajbabaaGreatDoorShelfS
import Derived.Laws.ResultCell
import Derived.RegionTactic
import Derived.BigRegion
import Derived.Deep.RegionHeld3
import Derived.Deep.DeepCutAuto
import Derived.Lib.SmallJoins
import Derived.Lib.SplitLaws
import Derived.Lib.CountLaws
import Derived.Lib.IndexMore
import Derived.Lib.Split
import Derived.Lib.Join
import Derived.Lib.ItoaNum
import Derived.Laws.AppendOwn
import Derived.Test.YtimcdikeajbabaaGreatDoorShelfT
import Derived.Lib.ItoaLen
import Derived.Lib.AppendIntMem
import Derived.Deep.AppendLies
import Derived.Lib.PathFns
import Derived.Maps.Range
import Derived.Lib.OwnBridge
import Derived.Sort.OwnSorted
import Derived.Sort.Walk0
import Derived.Test.YtimcdikeajbabaaGreatDoorCards
import Derived.Test.YtimcdikeajbabaaGreatDoorTie
import Derived.ProofKit
import Derived.OpenShut
import Derived.LaidMore
import Derived.Lay
import Derived.SevenTiedAt
import Derived.Stop.Joined
import Derived.Stop.LaidErr
import Derived.Deep.DeepHandedRow
import Derived.Lib.LaidU8
import Derived.LaidSub
import Derived.Deep.Slices
import Derived.Deep.Fields
import Derived.ChangeSame
import Derived.Shelf.SlSortCmp.NoneTotal
import Derived.Ground.SlsfProg
import Derived.Lib.SliceRun
import Derived.Lib.Walk
import Derived.RangeFuncNested
import Derived.RangeFuncBound
import Derived.RangeFuncCalls
import Derived.RangeFuncLeaves
import Derived.RangeFuncBox
import Derived.RangeFuncWrites
import Derived.Shelf.Abstract
import Derived.Shelf.RegionOpen
import Derived.OwnWalkIn
import Derived.TacticsInMore
import Derived.LoopNIn
import Derived.LoopIn
import Derived.Maps.AppendAt
import Derived.Deep.RegionLaw
import Derived.Deep.RegionLawGrows
import Derived.Test.YtimcdikeajbabaaGreatDoorZFound
import Derived.Test.YtimcdikeajbabaaGreatDoorZHasK
import Derived.Test.YtimcdikeajbabaaGreatDoorZKStart1
import Derived.Test.YtimcdikeajbabaaGreatDoorZKStarts
import Derived.Test.YtimcdikeajbabaaGreatDoorZSorted
import Derived.Test.YtimcdikeajbabaaGreatDoorZSameL
import Derived.Test.YtimcdikeajbabaaGreatDoorZCBox
namespace Go.Proofs.YtimcdikeajbabaaGreatDoor
open Go.RowKit
set_option maxRecDepth 100000

theorem noted_false (pr : Option Prob) (p : Prob) : noted pr false p = pr := by cases pr <;> rfl
set_option maxHeartbeats 16000000 in
theorem kone_walk (B gb nb g : Nat) (d sl b m n line : Int) (F : Option Addr) (fs : List Fld) (c : Nat) (A : Option Addr) (ls : List Cls) (cr : Nat) (w : World) (hS : Std w) (hCl : Cl gb nb d sl b m n w) (hgb : gb ≠ g) (hnb : nb ≠ g)
    (hsc : Scan w g line F fs.length c 0 none) (hF : FieldsAt B w F fs) (hl : fs.length = 9) (hB : B ≤ g) (hN : 12 ≤ B) (hsz : ∀ k, (textAt fs k).size < 1073741824) (hq : ls.length ≤ 1000000000) (hw : At kCls (· < g) w A ls) (hsl : 1 ≤ sl ∧ sl ≤ 24) :
    Calls Tryz.prog 65 #[.pointer (some ⟨g, 0, none⟩), .slice A ls.length cr, .pointer (some ⟨gb, 0, none⟩), .pointer (some ⟨nb, 0, none⟩)] w fun e w' => ClsGives d sl n g line F fs c ls w e w' := by
  have hgl := hsc.lt
  go_enter Tryz.func65, Tryz.ntmps65
  go_wp2_with fail
  have hb0 : Below w.heap.size w (w.alloc (.cells #[.string ⟨#[]⟩, .string ⟨#[]⟩, .string ⟨#[]⟩, .int .i64 0, .slice none 0 0, .int .i64 0, .slice none 0 0, .slice none 0 0, .slice none 0 0] 47)) := ext_alloc (Below.refl _ _) _
  have hr9 : CBox (w.alloc (.cells #[.string ⟨#[]⟩, .string ⟨#[]⟩, .string ⟨#[]⟩, .int .i64 0, .slice none 0 0, .int .i64 0, .slice none 0 0, .slice none 0 0, .slice none 0 0] 47)) w.heap.size ⟨⟨#[]⟩, ⟨#[]⟩, ⟨#[]⟩, 0, none, 0, 0, 0, none, 0, 0, none, 0, 0, none, 0, 0⟩ := cbox_new w ⟨⟨#[]⟩, ⟨#[]⟩, ⟨#[]⟩, 0, none, 0, 0, 0, none, 0, 0, none, 0, 0, none, 0, 0⟩
  have hS0 := hS.after hb0
  have hsc0 := hsc.later hb0
  have hCl0 := hCl.later hb0
  have how := Only.later (Only.refl g w) hb0
  have hF0 := hF.below (hb0.mono (by omega) : Below B _ _)
  have hw0 := hw.below (hb0.mono (by omega) : Below g _ _)
  have hz0 : (w.alloc (.cells #[.string ⟨#[]⟩, .string ⟨#[]⟩, .string ⟨#[]⟩, .int .i64 0, .slice none 0 0, .int .i64 0, .slice none 0 0, .slice none 0 0, .slice none 0 0] 47)).heap.size = w.heap.size + 1 := World.size_alloc _ _
  obtain ⟨W0, hW0⟩ : ∃ W0, w.alloc (.cells #[.string ⟨#[]⟩, .string ⟨#[]⟩, .string ⟨#[]⟩, .int .i64 0, .slice none 0 0, .int .i64 0, .slice none 0 0, .slice none 0 0, .slice none 0 0] 47) = W0 := ⟨_, rfl⟩
  rw [hW0] at hr9 hS0 hsc0 hCl0 how hF0 hw0 hz0 ⊢
  obtain ⟨r, hr⟩ : ∃ r, w.heap.size = r := ⟨_, rfl⟩
  rw [hr] at hr9 hz0 hgl ⊢
  have hrg : r ≠ g := by omega
  have hrl : r < W0.heap.size := by omega
  have hgW : g < W0.heap.size := by omega
  replace hW0 := hide hW0
  replace hr := hide hr
  replace hr9 := hide hr9
  clear hsc hF hw hb0 hS hCl
  refine (code_any B g line F fs c 0 none W0 hsc0 hF0 (by omega) (by omega) hB (fun p hp => by cases hp)).mono ?_
  rintro e w1 ⟨k1, t0, pr1, rfl, hs1, ho1, i1, j1, a1, -⟩
  replace a1 := hide a1
  go_wp2_with fail
  refine (code_any B g line F fs c k1 pr1 w1 hs1 (hF0.only ho1 hB (by omega)) (by omega) (by omega) hB (fun _ _ => i1)).mono ?_
  rintro e w2 ⟨k2, t1, pr2, rfl, hs2, ho2, i2, j2, b1, b2⟩
  replace b1 := hide b1
  replace b2 := hide b2
  replace ho2 : Only g W0 w2 := ho1.trans ho2
  clear hs1 hsc0 ho1
  go_wp2_with fail
  refine (code_any B g line F fs c k2 pr2 w2 hs2 (hF0.only ho2 hB (by omega)) (by omega) (by omega) hB (fun _ _ => i2)).mono ?_
  rintro e wx ⟨k3, t2, pr3, rfl, hsx, hox, i3, j3, d1, d2⟩
  replace d1 := hide d1
  replace d2 := hide d2
  replace hox : Only g W0 wx := ho2.trans hox
  clear hs2 ho2
  go_wp2_with fail
  refine (num_anyS B g line F fs c k3 2 pr3 wx hsx (hF0.only hox hB (by omega)) (by omega) (by omega) hB (fun _ _ => i3) (by decide) (by have := hsz k3; omega)).mono ?_
  rintro e w3 ⟨k4, nn, prn, rfl, hs3, ho3, i4, j4, c1, c2⟩
  have hn99 : nn ≤ 99 := by
    cases hp : pr3 with
    | none => rw [(c1 hp).2.1]; exact numE_99 _
    | some p => rw [(c2 p hp).2]; exact Nat.zero_le _
  replace c1 := hide c1
  replace c2 := hide c2
  replace ho3 : Only g W0 w3 := hox.trans ho3
  have hz3 := ho3.size
  clear hsx hox
  go_upto_region 2 with fail
  have hbx : CBox (w3.alloc (.cells #[.string t0, .string t1, .string t2, .int .i64 (nn : Int), .slice none 0 0, .int .i64 0, .slice none 0 0, .slice none 0 0, .slice none 0 0] 47)) w3.heap.size ⟨t0, t1, t2, (nn : Int), none, 0, 0, 0, none, 0, 0, none, 0, 0, none, 0, 0⟩ := cbox_new w3 ⟨t0, t1, t2, (nn : Int), none, 0, 0, 0, none, 0, 0, none, 0, 0, none, 0, 0⟩
  have hb4 : Below w3.heap.size w3 (w3.alloc (.cells #[.string t0, .string t1, .string t2, .int .i64 (nn : Int), .slice none 0 0, .int .i64 0, .slice none 0 0, .slice none 0 0, .slice none 0 0] 47)) := ext_alloc (Below.refl _ _) _
  have hz4 : (w3.alloc (.cells #[.string t0, .string t1, .string t2, .int .i64 (nn : Int), .slice none 0 0, .int .i64 0, .slice none 0 0, .slice none 0 0, .slice none 0 0] 47)).heap.size = w3.heap.size + 1 := World.size_alloc _ _
  have hs4 := hs3.later hb4
  have ho4 : Only g W0 _ := Only.later ho3 hb4
  obtain ⟨x, hx⟩ : ∃ x, w3.heap.size = x := ⟨_, rfl⟩
  obtain ⟨W4, hW4⟩ : ∃ W4, w3.alloc (.cells #[.string t0, .string t1, .string t2, .int .i64 (nn : Int), .slice none 0 0, .int .i64 0, .slice none 0 0, .slice none 0 0, .slice none 0 0] 47) = W4 := ⟨_, rfl⟩
  rw [hW4] at hbx hs4 ho4 hz4 ⊢
  rw [hx] at hbx hz4 ⊢
  have hxg : x ≠ g := by omega
  have hx4 : x < W4.heap.size := by omega
  have hWx : W0.heap.size ≤ x := by omega
  clear hs3 hb4 ho3 hW4 hx
  have y3 := hbx.c3
  dsimp only at y3
  obtain ⟨gg0, gg1, gg2, gg3, nn0⟩ := hCl0.only ho4 hgb hnb
  have hgb4 : gb < W4.heap.size := World.block_lt_of_cell? _ _ gg0
  by_cases hns : sl < (nn : Int)
  · go_wp2_with fail
    refine (fail_walk B g line F fs c k4 _ 3 _ hs4 (hF0.only ho4 hB (by omega)) i4 (by omega) (by omega)).mono ?_
    rintro e wA ⟨rfl, hsA, hoA⟩
    rw [show decide ((3 : Int) ≠ 0) = decide (sl < (nn : Int)) from by rw [decide_eq_true hns]; rfl] at hsA
    replace hbx := hbx.only hoA hxg
    replace hoA : Only g W0 wA := ho4.trans hoA
    clear hs4 ho4 y3 gg0 gg1 gg2 gg3 nn0 hx4 hz4 hgb4
    (
        have hlen := hide (len_step (pr3 := pr3) (prn := prn) (line := line) (sl := sl) (fs := fs) (k3 := k3) (k4 := k4) (nn := nn) (by omega) c1.out c2.out)
        obtain ⟨pr4, hpr4⟩ : ∃ pr4, noted prn (decide (sl < (nn : Int))) (line, colAt fs k4, 3) = pr4 := ⟨_, rfl⟩
        rw [hpr4] at hlen
        rw [hpr4] at hsA
        clear c1 c2 hpr4 hns
        have hzA := hoA.size
        have hxA : x < wA.heap.size := hbx.lt
        obtain ⟨gg0, gg1, gg2, gg3, nn0⟩ := hCl0.only hoA hgb hnb
        have hgbA : gb < wA.heap.size := World.block_lt_of_cell? _ _ gg0
        have hnbA : nb < wA.heap.size := World.block_lt_of_cell? _ _ nn0
        go_wp2_with fail
        refine (readPats_walk B g line F fs c k4 n pr4 wA (hoA.std hS0 (by omega)) hsA (hF0.only hoA hB (by omega)) (by omega) (by omega) hB hN (fun _ _ => i4) (hsz k4)).mono ?_
        rintro e w5 ⟨k5, ps, v4, pr5, rfl, o4, hs5, ho5, i5, j5, e1, e2⟩
        replace e1 := hide e1
        replace e2 := hide e2
        obtain ⟨A4, c4, rfl⟩ := o4.form
        obtain ⟨n4, hn4⟩ : ∃ n4, ps.length = n4 := ⟨_, rfl⟩
        rw [hn4] at o4 ⊢
        replace hn4 := hide hn4
        have hb5 := hbx.only ho5 hxg
        have y4 := hb5.c4
        have yf := hb5.free 4
        dsimp only at y4
        have hx5 := hb5.lt
        have hb6 := hb5.set4 A4 n4 c4
        dsimp only at hb6
        have hxo : Only x w5 (w5.setCell ⟨x, 4, none⟩ (.slice A4 n4 c4)) := only_setCell (Only.refl x w5) (p := ⟨x, 4, none⟩) (Or.inl rfl) (.slice A4 n4 c4)
        have o4' := o4.noteT hxo hxA
        have hs6 := box_scan (i := 4) hs5 hb5 hxg (.slice A4 n4 c4)
        have ho6 : Only g W0 (w5.setCell ⟨x, 4, none⟩ (.slice A4 n4 c4)) := only_setCell (hoA.trans ho5) (Or.inr hWx) _
        clear hsA hoA hbx o4 hs5 ho5 hxo gg0 gg1 gg2 gg3 nn0
        go_upto_region 5 with fail
        clear y4 yf hb5
        obtain ⟨W6, hW6⟩ : ∃ W6, w5.setCell ⟨x, 4, none⟩ (.slice A4 n4 c4) = W6 := ⟨_, rfl⟩
        rw [hW6] at hb6 o4' hs6 ho6 ⊢
        clear hW6
        have hx6 := hb6.lt
        have hz6 := ho6.size
        go_wp2_with fail
        refine (num_anyF B g line F fs c k5 4 pr5 W6 hs6 (hF0.only ho6 hB (by omega)) (by omega) (by omega) hB (fun _ _ => i5) (by decide) (by have := hsz k5; omega)).mono ?_
        rintro e w7 ⟨k6, m6, pr6, rfl, hs7, ho7, i6, j6, f1, f2⟩
        replace f1 := hide f1
        replace f2 := hide f2
        have hb7 := hb6.only ho7 hxg
        have y5 := hb7.c5
        have yf := hb7.free 5
        dsimp only at y5
        have o47 := o4'.noteT ho7 (by omega)
        have hb8 := hb7.set5 (m6 : Int)
        dsimp only at hb8
        have hx7 := hb7.lt
        have hxo : Only x w7 (w7.setCell ⟨x, 5, none⟩ (.int .i64 (m6 : Int))) := only_setCell (Only.refl x w7) (p := ⟨x, 5, none⟩) (Or.inl rfl) (.int .i64 (m6 : Int))
        have o48 := o47.noteT hxo hxA
        have hs8 := box_scan (i := 5) hs7 hb7 hxg (.int .i64 (m6 : Int))
        have ho8 : Only g W0 (w7.setCell ⟨x, 5, none⟩ (.int .i64 (m6 : Int))) := only_setCell (ho6.trans ho7) (Or.inr hWx) _
        clear hb6 o4' hs6 ho6 hs7 ho7 o47 hxo
        go_upto_region 6 with fail
        clear y5 yf hb7
        obtain ⟨W8, hW8⟩ : ∃ W8, w7.setCell ⟨x, 5, none⟩ (.int .i64 (m6 : Int)) = W8 := ⟨_, rfl⟩
        rw [hW8] at hb8 o48 hs8 ho8 ⊢
        clear hW8
        have hx8 := hb8.lt
        have hz8 := ho8.size
        go_wp2_with fail
        refine (list_any B g line F fs c k6 8 pr6 W8 (ho8.std hS0 (by omega)) hs8 (hF0.only ho8 hB (by omega)) (by omega) (by omega) hB hN (fun _ _ => i6) (hsz k6)).mono ?_
        rintro e w9 ⟨k7, l6, v, pr7, rfl, hown, hs9, ho9, i7, j7, g1, g2⟩
        have hl64 : l6.length ≤ 64 := by
          cases hp : pr6 with
          | none => rw [(g1 hp).2.1]; exact listV_len64 _
          | some p => rw [(g2 p hp).2]; exact Nat.zero_le _
        replace g1 := hide g1
        replace g2 := hide g2
        obtain ⟨A6, c6, rfl, -, hat6⟩ := hown.any
        have hsort := fsorted_walk A6 l6 c6 w9 (by omega) hat6.any
        obtain ⟨L6, hL6⟩ : ∃ L6, l6.length = L6 := ⟨_, rfl⟩
        rw [hL6] at hsort ⊢
        replace hL6 := hide hL6
        have hb9 := hb8.only ho9 hxg
        have o49 := o48.noteT ho9 (by omega)
        have ho9' : Only g W0 w9 := ho8.trans ho9
        have hz9 := ho9'.size
        have hx9 := hb9.lt
        clear hb8 o48 hs8 ho8 ho9 hown hat6
        go_wp2_with fail
        refine hsort.mono ?_
        clear hsort
        rintro e wa ⟨v6, rfl, o6, hba⟩
        obtain ⟨A6, c6, rfl⟩ := o6.form
        obtain ⟨n6, hn6⟩ : ∃ n6, (ascS l6).length = n6 := ⟨_, rfl⟩
        obtain ⟨f6, hf6⟩ : ∃ f6, ascS l6 = f6 := ⟨_, rfl⟩
        rw [hf6] at o6 hn6
        rw [hf6]
        rw [hn6] at o6 ⊢
        replace hn6 := hide hn6
        replace hf6 := hide hf6
        have hb10 := hb9.later hba
        have y6 := hb10.c6
        have yf := hb10.free 6
        dsimp only at y6
        have o4a := o49.later hba
        have hsa := hs9.later hba
        have hoa : Only g W0 wa := Only.later ho9' hba
        have hb11 := hb10.set6 A6 n6 c6
        dsimp only at hb11
        have hxa := hb10.lt
        have hxo : Only x wa (wa.setCell ⟨x, 6, none⟩ (.slice A6 n6 c6)) := only_setCell (Only.refl x wa) (p := ⟨x, 6, none⟩) (Or.inl rfl) (.slice A6 n6 c6)
        have o4b := o4a.noteT hxo hxA
        have o6b := o6.noteT hxo hx9
        have hsb := box_scan (i := 6) hsa hb10 hxg (.slice A6 n6 c6)
        have hob : Only g W0 (wa.setCell ⟨x, 6, none⟩ (.slice A6 n6 c6)) := only_setCell hoa (Or.inr hWx) _
        clear hb9 o49 hs9 ho9' hba o6 o4a hsa hoa hxo
        go_upto_region 7 with fail
        clear y6 yf hb10
        obtain ⟨Wb, hWb⟩ : ∃ Wb, wa.setCell ⟨x, 6, none⟩ (.slice A6 n6 c6) = Wb := ⟨_, rfl⟩
        rw [hWb] at hb11 o4b o6b hsb hob ⊢
        clear hWb
        have hxb := hb11.lt
        have hzb := hob.size
        go_wp2_with fail
        refine (list_any B g line F fs c k7 8 pr7 Wb (hob.std hS0 (by omega)) hsb (hF0.only hob hB (by omega)) (by omega) (by omega) hB hN (fun _ _ => i7) (hsz k7)).mono ?_
        rintro e wc ⟨k8, l7, v, pr8, rfl, hown, hsc, hoc, i8, j8, h1, h2⟩
        have hl64 : l7.length ≤ 64 := by
          cases hp : pr7 with
          | none => rw [(h1 hp).2.1]; exact listV_len64 _
          | some p => rw [(h2 p hp).2]; exact Nat.zero_le _
        replace h1 := hide h1
        replace h2 := hide h2
        obtain ⟨A7, c7, rfl, -, hat7⟩ := hown.any
        have hsort := fsorted_walk A7 l7 c7 wc (by omega) hat7.any
        obtain ⟨L7, hL7⟩ : ∃ L7, l7.length = L7 := ⟨_, rfl⟩
        rw [hL7] at hsort ⊢
        replace hL7 := hide hL7
        have hbc := hb11.only hoc hxg
        have o4c := o4b.noteT hoc (by omega)
        have o6c := o6b.noteT hoc (by omega)
        have hoc' : Only g W0 wc := hob.trans hoc
        have hzc := hoc'.size
        have hxc := hbc.lt
        clear hb11 o4b o6b hsb hob hoc hown hat7
        go_wp2_with fail
        refine hsort.mono ?_
        clear hsort
        rintro e wd ⟨v7, rfl, o7, hbd⟩
        obtain ⟨A7, c7, rfl⟩ := o7.form
        obtain ⟨n7, hn7⟩ : ∃ n7, (ascS l7).length = n7 := ⟨_, rfl⟩
        obtain ⟨f7, hf7⟩ : ∃ f7, ascS l7 = f7 := ⟨_, rfl⟩
        rw [hf7] at o7 hn7
        rw [hf7]
        rw [hn7] at o7 ⊢
        replace hn7 := hide hn7
        replace hf7 := hide hf7
        have hbd1 := hbc.later hbd
        have y7 := hbd1.c7
        have yf := hbd1.free 7
        dsimp only at y7
        have o4d := o4c.later hbd
        have o6d := o6c.later hbd
        have hsd := hsc.later hbd
        have hod : Only g W0 wd := Only.later hoc' hbd
        have hbe := hbd1.set7 A7 n7 c7
        dsimp only at hbe
        have hxd := hbd1.lt
        have hxo : Only x wd (wd.setCell ⟨x, 7, none⟩ (.slice A7 n7 c7)) := only_setCell (Only.refl x wd) (p := ⟨x, 7, none⟩) (Or.inl rfl) (.slice A7 n7 c7)
        have o4e := o4d.noteT hxo hxA
        have o6e := o6d.noteT hxo hx9
        have o7e := o7.noteT hxo hxc
        have hse := box_scan (i := 7) hsd hbd1 hxg (.slice A7 n7 c7)
        have hoe : Only g W0 (wd.setCell ⟨x, 7, none⟩ (.slice A7 n7 c7)) := only_setCell hod (Or.inr hWx) _
        clear hbc o4c o6c hsc hoc' hbd o7 o4d o6d hsd hod hxo
        go_upto_region 8 with fail
        clear y7 yf hbd1
        obtain ⟨We, hWe⟩ : ∃ We, wd.setCell ⟨x, 7, none⟩ (.slice A7 n7 c7) = We := ⟨_, rfl⟩
        rw [hWe] at hbe o4e o6e o7e hse hoe ⊢
        clear hWe
        have hxe := hbe.lt
        have hze := hoe.size
        obtain ⟨gg0, gg1, gg2, gg3, nn0⟩ := hCl0.only hoe hgb hnb
        have hgbe : gb < We.heap.size := World.block_lt_of_cell? _ _ gg0
        have y3 := hbe.c3
        dsimp only at y3
        go_wp2_with fail
        refine (readStarts_walk B g line F fs c k8 d sl b m (nn : Int) pr8 We (hoe.std hS0 (by omega)) hse (hF0.only hoe hB (by omega)) (by omega) (by omega) hB hN (fun _ _ => i8) (hsz k8) hsl ⟨by omega, by omega⟩).mono ?_
        rintro e wf ⟨k9, ss, v8, pr9, rfl, o8, hsf, hof, j9, m1, m2⟩
        replace m1 := hide m1
        replace m2 := hide m2
        obtain ⟨A8, c8, rfl⟩ := o8.form
        obtain ⟨n8, hn8⟩ : ∃ n8, (ascP ss).length = n8 := ⟨_, rfl⟩
        obtain ⟨s8, hs8⟩ : ∃ s8, ascP ss = s8 := ⟨_, rfl⟩
        rw [hs8] at o8 hn8
        rw [hs8]
        rw [hn8] at o8 ⊢
        replace hn8 := hide hn8
        replace hs8 := hide hs8
        have hbf := hbe.only hof hxg
        have y8 := hbf.c8
        have yf := hbf.free 8
        dsimp only at y8
        have o4f := o4e.noteT hof (by omega)
        have o6f := o6e.noteT hof (by omega)
        have o7f := o7e.noteT hof (by omega)
        have hbg := hbf.set8 A8 n8 c8
        dsimp only at hbg
        have hxf := hbf.lt
        have hxo : Only x wf (wf.setCell ⟨x, 8, none⟩ (.slice A8 n8 c8)) := only_setCell (Only.refl x wf) (p := ⟨x, 8, none⟩) (Or.inl rfl) (.slice A8 n8 c8)
        have o4g := o4f.noteT hxo hxA
        have o6g := o6f.noteT hxo hx9
        have o7g := o7f.noteT hxo hxc
        have o8g := o8.noteT hxo hxe
        have hsg := box_scan (i := 8) hsf hbf hxg (.slice A8 n8 c8)
        have hog : Only g W0 (wf.setCell ⟨x, 8, none⟩ (.slice A8 n8 c8)) := only_setCell (hoe.trans hof) (Or.inr hWx) _
        have hwg := hw0.below (hog.below (Nat.le_refl _) (by omega))
        clear hbe o4e o6e o7e hse hoe o8 o4f o6f o7f hsf hof hxo gg0 gg1 gg2 gg3 nn0 y3
        go_upto_region 9 with fail
        clear y8 yf hbf
        obtain ⟨Wg, hWg⟩ : ∃ Wg, wf.setCell ⟨x, 8, none⟩ (.slice A8 n8 c8) = Wg := ⟨_, rfl⟩
        rw [hWg] at hbg o4g o6g o7g o8g hsg hog hwg ⊢
        clear hWg
        have hxg2 := hbg.lt
        have hzg := hog.size
        have hhas := khas_walk A ls cr t0 Wg (by omega) hwg.any
        obtain ⟨q, hqq⟩ : ∃ q, ls.length = q := ⟨_, rfl⟩
        rw [hqq] at hhas ⊢
        have key : Hid (∀ prx : Option Prob, noted pr9 (decide (0 ≤ idxS t0 (codesK ls))) (line, 0, 11) = prx → noted prx (decide (24 ≤ q)) (line, 0, 2) = clsP d sl n line fs ls ∧ (clsP d sl n line fs ls = none → (t0, t1, t2, (nn : Int), ps, (m6 : Int), f6, f7, s8) = clsOf d sl n fs)) := hide fun prx hx1 => by
          rw [← hx1, ← hqq, ← hf6.out, ← hf7.out, ← hs8.out]
          exact cls_steps (pr0 := none) (k0 := 0) rfl rfl (fun _ => by have := a1.out trivial; exact ⟨this.1, this.2.1, this.2.2.trans code_prob⟩) (fun p h => by cases h)
            (fun h => by have := b1.out h; exact ⟨this.1, this.2.1, this.2.2.trans code_prob⟩) b2.out
            (fun h => by have := d1.out h; exact ⟨this.1, this.2.1, this.2.2.trans code_prob⟩) d2.out
            hlen.out.1 hlen.out.2 e1.out e2.out
            (fun h => by have := f1.out h; exact ⟨this.1, by rw [this.2.1], this.2.2.trans num_prob⟩) (fun p h => (f2.out p h).1)
            g1.out (fun p h => (g2.out p h).1) h1.out (fun p h => (h2.out p h).1) m1.out m2.out
        rw [hqq] at hq
        clear hwg a1 b1 b2 d1 d2 e1 e2 f1 f2 g1 g2 h1 h2 m1 m2 hlen hw0
        replace hqq := hide hqq
        have y0 := hbg.c0
        dsimp only at y0
        go_wp2_with fail
        refine hhas.mono ?_
        rintro e wh ⟨rfl, hbh⟩
        have hbh1 := hbg.later hbh
        have hsh := hsg.later hbh
        have hoh : Only g W0 wh := Only.later hog hbh
        have o4h := o4g.later hbh
        have o6h := o6g.later hbh
        have o7h := o7g.later hbh
        have o8h := o8g.later hbh
        clear hbg o4g o6g o7g o8g hsg hog hbh hhas y0
        have hzh := hoh.size
        go_wp2_with fail
        refine (whole_walk g line F fs.length c k9 pr9 _ 11 wh hsh).mono ?_
        rintro e wi ⟨rfl, hsi, hoi⟩
        have hbi := hbh1.only hoi hxg
        have o4i := o4h.noteT hoi (by omega)
        have o6i := o6h.noteT hoi (by omega)
        have o7i := o7h.noteT hoi (by omega)
        have o8i := o8h.noteT hoi (by omega)
        have hoi' : Only g W0 wi := hoh.trans hoi
        obtain ⟨prx, hprx⟩ : ∃ prx, noted pr9 (decide (0 ≤ idxS t0 (codesK ls))) (line, 0, 11) = prx := ⟨_, rfl⟩
        rw [hprx] at hsi
        have hkey := hide (key.out prx hprx)
        clear hbh1 hsh hoh o4h o6h o7h o8h hoi key hprx
        have hzi := hoi'.size
        go_wp2_with fail
        refine (whole_walk g line F fs.length c k9 prx _ 2 wi hsi).mono ?_
        rintro e wj ⟨rfl, hsj, hoj⟩
        rw [show decide ((q : Int) ≥ 24) = decide (24 ≤ q) from decide_eq_decide.2 (by omega), hkey.out.1] at hsj
        have hbj := hbi.only hoj hxg
        have o4j := o4i.noteT hoj (by omega)
        have o6j := o6i.noteT hoj (by omega)
        have o7j := o7i.noteT hoj (by omega)
        have o8j := o8i.noteT hoj (by omega)
        have hoj' : Only g W0 wj := hoi'.trans hoj
        have hfin := hide hkey.out.2
        have hrj := hr9.out.only hoj' hrg
        have s0 := hrj.c0
        have s1 := hrj.c1
        have s2 := hrj.c2
        have s3 := hrj.c3
        have s4 := hrj.c4
        have s5 := hrj.c5
        have s6 := hrj.c6
        have s7 := hrj.c7
        have s8' := hrj.c8
        have p0 := hbj.c0
        have p1 := hbj.c1
        have p2 := hbj.c2
        have p3 := hbj.c3
        have p4 := hbj.c4
        have p5 := hbj.c5
        have p6 := hbj.c6
        have p7 := hbj.c7
        have p8 := hbj.c8
        dsimp only at s0 s1 s2 s3 s4 s5 s6 s7 s8' p0 p1 p2 p3 p4 p5 p6 p7 p8
        have r0 := hrj.free 0
        have r1 := hrj.free 1
        have r2 := hrj.free 2
        have r3 := hrj.free 3
        have r4 := hrj.free 4
        have r5 := hrj.free 5
        have r6 := hrj.free 6
        have r7 := hrj.free 7
        have r8 := hrj.free 8
        have hxj := hbj.lt
        have hrlj := hrj.lt
        replace hsj := hide hsj
        replace hoj' := hide hoj'
        replace hrj := hide hrj
        clear hbi o4i o6i o7i o8i hsi hoi' hoj hkey hbj
        go_wp2
        have hro : Only r wj (set9 wj r ⟨t0, t1, t2, (nn : Int), A4, n4, c4, (m6 : Int), A6, n6, c6, A7, n7, c7, A8, n8, c8⟩) := set9_only (Only.refl r wj) (Or.inl rfl)
        have hbz : w.heap.size = r := hr.out
        have hbxf := set9_box (q := ⟨t0, t1, t2, (nn : Int), A4, n4, c4, (m6 : Int), A6, n6, c6, A7, n7, c7, A8, n8, c8⟩) hrj.out
        have hscf := set9_scan (q := ⟨t0, t1, t2, (nn : Int), A4, n4, c4, (m6 : Int), A6, n6, c6, A7, n7, c7, A8, n8, c8⟩) hsj.out hrj.out hrg
        have honf := set9_only (q := ⟨t0, t1, t2, (nn : Int), A4, n4, c4, (m6 : Int), A6, n6, c6, A7, n7, c7, A8, n8, c8⟩) (how.trans hoj'.out) (Or.inr (Nat.le_of_eq hbz))
        change bodyPost _ _ _ _ _ (set9 wj r ⟨t0, t1, t2, (nn : Int), A4, n4, c4, (m6 : Int), A6, n6, c6, A7, n7, c7, A8, n8, c8⟩)
        generalize set9 wj r ⟨t0, t1, t2, (nn : Int), A4, n4, c4, (m6 : Int), A6, n6, c6, A7, n7, c7, A8, n8, c8⟩ = wk at *
        refine end_clsK rfl r ⟨t0, t1, t2, (nn : Int), A4, n4, c4, (m6 : Int), A6, n6, c6, A7, n7, c7, A8, n8, c8⟩ rfl rfl hbxf ⟨_, ps, f6, f7, s8, k9, rfl, ?_, ?_, ?_, ?_, hscf, hfin.out, honf⟩
        · exact (o4j.noteT hro (by omega)).lower (by omega)
        · exact (o6j.noteT hro (by omega)).lower (by omega)
        · exact (o7j.noteT hro (by omega)).lower (by omega)
        · exact (o8j.noteT hro (by omega)).lower (by omega))
  · have hsA : Scan W4 g line F fs.length c k4 (noted prn (decide (sl < (nn : Int))) (line, colAt fs k4, 3)) := by rw [decide_eq_false hns, noted_false]; exact hs4
    have hoA := ho4
    go_upto_region 4 with fail
    obtain ⟨wA, hren⟩ : ∃ wA, wA = W4 := ⟨_, rfl⟩
    subst hren
    clear hs4 ho4 gg0 gg1 gg2 gg3 nn0 hgb4 y3 hx4 hz4
    (
        have hlen := hide (len_step (pr3 := pr3) (prn := prn) (line := line) (sl := sl) (fs := fs) (k3 := k3) (k4 := k4) (nn := nn) (by omega) c1.out c2.out)
        obtain ⟨pr4, hpr4⟩ : ∃ pr4, noted prn (decide (sl < (nn : Int))) (line, colAt fs k4, 3) = pr4 := ⟨_, rfl⟩
        rw [hpr4] at hlen
        rw [hpr4] at hsA
        clear c1 c2 hpr4 hns
        have hzA := hoA.size
        have hxA : x < wA.heap.size := hbx.lt
        obtain ⟨gg0, gg1, gg2, gg3, nn0⟩ := hCl0.only hoA hgb hnb
        have hgbA : gb < wA.heap.size := World.block_lt_of_cell? _ _ gg0
        have hnbA : nb < wA.heap.size := World.block_lt_of_cell? _ _ nn0
        go_wp2_with fail
        refine (readPats_walk B g line F fs c k4 n pr4 wA (hoA.std hS0 (by omega)) hsA (hF0.only hoA hB (by omega)) (by omega) (by omega) hB hN (fun _ _ => i4) (hsz k4)).mono ?_
        rintro e w5 ⟨k5, ps, v4, pr5, rfl, o4, hs5, ho5, i5, j5, e1, e2⟩
        replace e1 := hide e1
        replace e2 := hide e2
        obtain ⟨A4, c4, rfl⟩ := o4.form
        obtain ⟨n4, hn4⟩ : ∃ n4, ps.length = n4 := ⟨_, rfl⟩
        rw [hn4] at o4 ⊢
        replace hn4 := hide hn4
        have hb5 := hbx.only ho5 hxg
        have y4 := hb5.c4
        have yf := hb5.free 4
        dsimp only at y4
        have hx5 := hb5.lt
        have hb6 := hb5.set4 A4 n4 c4
        dsimp only at hb6
        have hxo : Only x w5 (w5.setCell ⟨x, 4, none⟩ (.slice A4 n4 c4)) := only_setCell (Only.refl x w5) (p := ⟨x, 4, none⟩) (Or.inl rfl) (.slice A4 n4 c4)
        have o4' := o4.noteT hxo hxA
        have hs6 := box_scan (i := 4) hs5 hb5 hxg (.slice A4 n4 c4)
        have ho6 : Only g W0 (w5.setCell ⟨x, 4, none⟩ (.slice A4 n4 c4)) := only_setCell (hoA.trans ho5) (Or.inr hWx) _
        clear hsA hoA hbx o4 hs5 ho5 hxo gg0 gg1 gg2 gg3 nn0
        go_upto_region 5 with fail
        clear y4 yf hb5
        obtain ⟨W6, hW6⟩ : ∃ W6, w5.setCell ⟨x, 4, none⟩ (.slice A4 n4 c4) = W6 := ⟨_, rfl⟩
        rw [hW6] at hb6 o4' hs6 ho6 ⊢
        clear hW6
        have hx6 := hb6.lt
        have hz6 := ho6.size
        go_wp2_with fail
        refine (num_anyF B g line F fs c k5 4 pr5 W6 hs6 (hF0.only ho6 hB (by omega)) (by omega) (by omega) hB (fun _ _ => i5) (by decide) (by have := hsz k5; omega)).mono ?_
        rintro e w7 ⟨k6, m6, pr6, rfl, hs7, ho7, i6, j6, f1, f2⟩
        replace f1 := hide f1
        replace f2 := hide f2
        have hb7 := hb6.only ho7 hxg
        have y5 := hb7.c5
        have yf := hb7.free 5
        dsimp only at y5
        have o47 := o4'.noteT ho7 (by omega)
        have hb8 := hb7.set5 (m6 : Int)
        dsimp only at hb8
        have hx7 := hb7.lt
        have hxo : Only x w7 (w7.setCell ⟨x, 5, none⟩ (.int .i64 (m6 : Int))) := only_setCell (Only.refl x w7) (p := ⟨x, 5, none⟩) (Or.inl rfl) (.int .i64 (m6 : Int))
        have o48 := o47.noteT hxo hxA
        have hs8 := box_scan (i := 5) hs7 hb7 hxg (.int .i64 (m6 : Int))
        have ho8 : Only g W0 (w7.setCell ⟨x, 5, none⟩ (.int .i64 (m6 : Int))) := only_setCell (ho6.trans ho7) (Or.inr hWx) _
        clear hb6 o4' hs6 ho6 hs7 ho7 o47 hxo
        go_upto_region 6 with fail
        clear y5 yf hb7
        obtain ⟨W8, hW8⟩ : ∃ W8, w7.setCell ⟨x, 5, none⟩ (.int .i64 (m6 : Int)) = W8 := ⟨_, rfl⟩
        rw [hW8] at hb8 o48 hs8 ho8 ⊢
        clear hW8
        have hx8 := hb8.lt
        have hz8 := ho8.size
        go_wp2_with fail
        refine (list_any B g line F fs c k6 8 pr6 W8 (ho8.std hS0 (by omega)) hs8 (hF0.only ho8 hB (by omega)) (by omega) (by omega) hB hN (fun _ _ => i6) (hsz k6)).mono ?_
        rintro e w9 ⟨k7, l6, v, pr7, rfl, hown, hs9, ho9, i7, j7, g1, g2⟩
        have hl64 : l6.length ≤ 64 := by
          cases hp : pr6 with
          | none => rw [(g1 hp).2.1]; exact listV_len64 _
          | some p => rw [(g2 p hp).2]; exact Nat.zero_le _
        replace g1 := hide g1
        replace g2 := hide g2
        obtain ⟨A6, c6, rfl, -, hat6⟩ := hown.any
        have hsort := fsorted_walk A6 l6 c6 w9 (by omega) hat6.any
        obtain ⟨L6, hL6⟩ : ∃ L6, l6.length = L6 := ⟨_, rfl⟩
        rw [hL6] at hsort ⊢
        replace hL6 := hide hL6
        have hb9 := hb8.only ho9 hxg
        have o49 := o48.noteT ho9 (by omega)
        have ho9' : Only g W0 w9 := ho8.trans ho9
        have hz9 := ho9'.size
        have hx9 := hb9.lt
        clear hb8 o48 hs8 ho8 ho9 hown hat6
        go_wp2_with fail
        refine hsort.mono ?_
        clear hsort
        rintro e wa ⟨v6, rfl, o6, hba⟩
        obtain ⟨A6, c6, rfl⟩ := o6.form
        obtain ⟨n6, hn6⟩ : ∃ n6, (ascS l6).length = n6 := ⟨_, rfl⟩
        obtain ⟨f6, hf6⟩ : ∃ f6, ascS l6 = f6 := ⟨_, rfl⟩
        rw [hf6] at o6 hn6
        rw [hf6]
        rw [hn6] at o6 ⊢
        replace hn6 := hide hn6
        replace hf6 := hide hf6
        have hb10 := hb9.later hba
        have y6 := hb10.c6
        have yf := hb10.free 6
        dsimp only at y6
        have o4a := o49.later hba
        have hsa := hs9.later hba
        have hoa : Only g W0 wa := Only.later ho9' hba
        have hb11 := hb10.set6 A6 n6 c6
        dsimp only at hb11
        have hxa := hb10.lt
        have hxo : Only x wa (wa.setCell ⟨x, 6, none⟩ (.slice A6 n6 c6)) := only_setCell (Only.refl x wa) (p := ⟨x, 6, none⟩) (Or.inl rfl) (.slice A6 n6 c6)
        have o4b := o4a.noteT hxo hxA
        have o6b := o6.noteT hxo hx9
        have hsb := box_scan (i := 6) hsa hb10 hxg (.slice A6 n6 c6)
        have hob : Only g W0 (wa.setCell ⟨x, 6, none⟩ (.slice A6 n6 c6)) := only_setCell hoa (Or.inr hWx) _
        clear hb9 o49 hs9 ho9' hba o6 o4a hsa hoa hxo
        go_upto_region 7 with fail
        clear y6 yf hb10
        obtain ⟨Wb, hWb⟩ : ∃ Wb, wa.setCell ⟨x, 6, none⟩ (.slice A6 n6 c6) = Wb := ⟨_, rfl⟩
        rw [hWb] at hb11 o4b o6b hsb hob ⊢
        clear hWb
        have hxb := hb11.lt
        have hzb := hob.size
        go_wp2_with fail
        refine (list_any B g line F fs c k7 8 pr7 Wb (hob.std hS0 (by omega)) hsb (hF0.only hob hB (by omega)) (by omega) (by omega) hB hN (fun _ _ => i7) (hsz k7)).mono ?_
        rintro e wc ⟨k8, l7, v, pr8, rfl, hown, hsc, hoc, i8, j8, h1, h2⟩
        have hl64 : l7.length ≤ 64 := by
          cases hp : pr7 with
          | none => rw [(h1 hp).2.1]; exact listV_len64 _
          | some p => rw [(h2 p hp).2]; exact Nat.zero_le _
        replace h1 := hide h1
        replace h2 := hide h2
        obtain ⟨A7, c7, rfl, -, hat7⟩ := hown.any
        have hsort := fsorted_walk A7 l7 c7 wc (by omega) hat7.any
        obtain ⟨L7, hL7⟩ : ∃ L7, l7.length = L7 := ⟨_, rfl⟩
        rw [hL7] at hsort ⊢
        replace hL7 := hide hL7
        have hbc := hb11.only hoc hxg
        have o4c := o4b.noteT hoc (by omega)
        have o6c := o6b.noteT hoc (by omega)
        have hoc' : Only g W0 wc := hob.trans hoc
        have hzc := hoc'.size
        have hxc := hbc.lt
        clear hb11 o4b o6b hsb hob hoc hown hat7
        go_wp2_with fail
        refine hsort.mono ?_
        clear hsort
        rintro e wd ⟨v7, rfl, o7, hbd⟩
        obtain ⟨A7, c7, rfl⟩ := o7.form
        obtain ⟨n7, hn7⟩ : ∃ n7, (ascS l7).length = n7 := ⟨_, rfl⟩
        obtain ⟨f7, hf7⟩ : ∃ f7, ascS l7 = f7 := ⟨_, rfl⟩
        rw [hf7] at o7 hn7
        rw [hf7]
        rw [hn7] at o7 ⊢
        replace hn7 := hide hn7
        replace hf7 := hide hf7
        have hbd1 := hbc.later hbd
        have y7 := hbd1.c7
        have yf := hbd1.free 7
        dsimp only at y7
        have o4d := o4c.later hbd
        have o6d := o6c.later hbd
        have hsd := hsc.later hbd
        have hod : Only g W0 wd := Only.later hoc' hbd
        have hbe := hbd1.set7 A7 n7 c7
        dsimp only at hbe
        have hxd := hbd1.lt
        have hxo : Only x wd (wd.setCell ⟨x, 7, none⟩ (.slice A7 n7 c7)) := only_setCell (Only.refl x wd) (p := ⟨x, 7, none⟩) (Or.inl rfl) (.slice A7 n7 c7)
        have o4e := o4d.noteT hxo hxA
        have o6e := o6d.noteT hxo hx9
        have o7e := o7.noteT hxo hxc
        have hse := box_scan (i := 7) hsd hbd1 hxg (.slice A7 n7 c7)
        have hoe : Only g W0 (wd.setCell ⟨x, 7, none⟩ (.slice A7 n7 c7)) := only_setCell hod (Or.inr hWx) _
        clear hbc o4c o6c hsc hoc' hbd o7 o4d o6d hsd hod hxo
        go_upto_region 8 with fail
        clear y7 yf hbd1
        obtain ⟨We, hWe⟩ : ∃ We, wd.setCell ⟨x, 7, none⟩ (.slice A7 n7 c7) = We := ⟨_, rfl⟩
        rw [hWe] at hbe o4e o6e o7e hse hoe ⊢
        clear hWe
        have hxe := hbe.lt
        have hze := hoe.size
        obtain ⟨gg0, gg1, gg2, gg3, nn0⟩ := hCl0.only hoe hgb hnb
        have hgbe : gb < We.heap.size := World.block_lt_of_cell? _ _ gg0
        have y3 := hbe.c3
        dsimp only at y3
        go_wp2_with fail
        refine (readStarts_walk B g line F fs c k8 d sl b m (nn : Int) pr8 We (hoe.std hS0 (by omega)) hse (hF0.only hoe hB (by omega)) (by omega) (by omega) hB hN (fun _ _ => i8) (hsz k8) hsl ⟨by omega, by omega⟩).mono ?_
        rintro e wf ⟨k9, ss, v8, pr9, rfl, o8, hsf, hof, j9, m1, m2⟩
        replace m1 := hide m1
        replace m2 := hide m2
        obtain ⟨A8, c8, rfl⟩ := o8.form
        obtain ⟨n8, hn8⟩ : ∃ n8, (ascP ss).length = n8 := ⟨_, rfl⟩
        obtain ⟨s8, hs8⟩ : ∃ s8, ascP ss = s8 := ⟨_, rfl⟩
        rw [hs8] at o8 hn8
        rw [hs8]
        rw [hn8] at o8 ⊢
        replace hn8 := hide hn8
        replace hs8 := hide hs8
        have hbf := hbe.only hof hxg
        have y8 := hbf.c8
        have yf := hbf.free 8
        dsimp only at y8
        have o4f := o4e.noteT hof (by omega)
        have o6f := o6e.noteT hof (by omega)
        have o7f := o7e.noteT hof (by omega)
        have hbg := hbf.set8 A8 n8 c8
        dsimp only at hbg
        have hxf := hbf.lt
        have hxo : Only x wf (wf.setCell ⟨x, 8, none⟩ (.slice A8 n8 c8)) := only_setCell (Only.refl x wf) (p := ⟨x, 8, none⟩) (Or.inl rfl) (.slice A8 n8 c8)
        have o4g := o4f.noteT hxo hxA
        have o6g := o6f.noteT hxo hx9
        have o7g := o7f.noteT hxo hxc
        have o8g := o8.noteT hxo hxe
        have hsg := box_scan (i := 8) hsf hbf hxg (.slice A8 n8 c8)
        have hog : Only g W0 (wf.setCell ⟨x, 8, none⟩ (.slice A8 n8 c8)) := only_setCell (hoe.trans hof) (Or.inr hWx) _
        have hwg := hw0.below (hog.below (Nat.le_refl _) (by omega))
        clear hbe o4e o6e o7e hse hoe o8 o4f o6f o7f hsf hof hxo gg0 gg1 gg2 gg3 nn0 y3
        go_upto_region 9 with fail
        clear y8 yf hbf
        obtain ⟨Wg, hWg⟩ : ∃ Wg, wf.setCell ⟨x, 8, none⟩ (.slice A8 n8 c8) = Wg := ⟨_, rfl⟩
        rw [hWg] at hbg o4g o6g o7g o8g hsg hog hwg ⊢
        clear hWg
        have hxg2 := hbg.lt
        have hzg := hog.size
        have hhas := khas_walk A ls cr t0 Wg (by omega) hwg.any
        obtain ⟨q, hqq⟩ : ∃ q, ls.length = q := ⟨_, rfl⟩
        rw [hqq] at hhas ⊢
        have key : Hid (∀ prx : Option Prob, noted pr9 (decide (0 ≤ idxS t0 (codesK ls))) (line, 0, 11) = prx → noted prx (decide (24 ≤ q)) (line, 0, 2) = clsP d sl n line fs ls ∧ (clsP d sl n line fs ls = none → (t0, t1, t2, (nn : Int), ps, (m6 : Int), f6, f7, s8) = clsOf d sl n fs)) := hide fun prx hx1 => by
          rw [← hx1, ← hqq, ← hf6.out, ← hf7.out, ← hs8.out]
          exact cls_steps (pr0 := none) (k0 := 0) rfl rfl (fun _ => by have := a1.out trivial; exact ⟨this.1, this.2.1, this.2.2.trans code_prob⟩) (fun p h => by cases h)
            (fun h => by have := b1.out h; exact ⟨this.1, this.2.1, this.2.2.trans code_prob⟩) b2.out
            (fun h => by have := d1.out h; exact ⟨this.1, this.2.1, this.2.2.trans code_prob⟩) d2.out
            hlen.out.1 hlen.out.2 e1.out e2.out
            (fun h => by have := f1.out h; exact ⟨this.1, by rw [this.2.1], this.2.2.trans num_prob⟩) (fun p h => (f2.out p h).1)
            g1.out (fun p h => (g2.out p h).1) h1.out (fun p h => (h2.out p h).1) m1.out m2.out
        rw [hqq] at hq
        clear hwg a1 b1 b2 d1 d2 e1 e2 f1 f2 g1 g2 h1 h2 m1 m2 hlen hw0
        replace hqq := hide hqq
        have y0 := hbg.c0
        dsimp only at y0
        go_wp2_with fail
        refine hhas.mono ?_
        rintro e wh ⟨rfl, hbh⟩
        have hbh1 := hbg.later hbh
        have hsh := hsg.later hbh
        have hoh : Only g W0 wh := Only.later hog hbh
        have o4h := o4g.later hbh
        have o6h := o6g.later hbh
        have o7h := o7g.later hbh
        have o8h := o8g.later hbh
        clear hbg o4g o6g o7g o8g hsg hog hbh hhas y0
        have hzh := hoh.size
        go_wp2_with fail
        refine (whole_walk g line F fs.length c k9 pr9 _ 11 wh hsh).mono ?_
        rintro e wi ⟨rfl, hsi, hoi⟩
        have hbi := hbh1.only hoi hxg
        have o4i := o4h.noteT hoi (by omega)
        have o6i := o6h.noteT hoi (by omega)
        have o7i := o7h.noteT hoi (by omega)
        have o8i := o8h.noteT hoi (by omega)
        have hoi' : Only g W0 wi := hoh.trans hoi
        obtain ⟨prx, hprx⟩ : ∃ prx, noted pr9 (decide (0 ≤ idxS t0 (codesK ls))) (line, 0, 11) = prx := ⟨_, rfl⟩
        rw [hprx] at hsi
        have hkey := hide (key.out prx hprx)
        clear hbh1 hsh hoh o4h o6h o7h o8h hoi key hprx
        have hzi := hoi'.size
        go_wp2_with fail
        refine (whole_walk g line F fs.length c k9 prx _ 2 wi hsi).mono ?_
        rintro e wj ⟨rfl, hsj, hoj⟩
        rw [show decide ((q : Int) ≥ 24) = decide (24 ≤ q) from decide_eq_decide.2 (by omega), hkey.out.1] at hsj
        have hbj := hbi.only hoj hxg
        have o4j := o4i.noteT hoj (by omega)
        have o6j := o6i.noteT hoj (by omega)
        have o7j := o7i.noteT hoj (by omega)
        have o8j := o8i.noteT hoj (by omega)
        have hoj' : Only g W0 wj := hoi'.trans hoj
        have hfin := hide hkey.out.2
        have hrj := hr9.out.only hoj' hrg
        have s0 := hrj.c0
        have s1 := hrj.c1
        have s2 := hrj.c2
        have s3 := hrj.c3
        have s4 := hrj.c4
        have s5 := hrj.c5
        have s6 := hrj.c6
        have s7 := hrj.c7
        have s8' := hrj.c8
        have p0 := hbj.c0
        have p1 := hbj.c1
        have p2 := hbj.c2
        have p3 := hbj.c3
        have p4 := hbj.c4
        have p5 := hbj.c5
        have p6 := hbj.c6
        have p7 := hbj.c7
        have p8 := hbj.c8
        dsimp only at s0 s1 s2 s3 s4 s5 s6 s7 s8' p0 p1 p2 p3 p4 p5 p6 p7 p8
        have r0 := hrj.free 0
        have r1 := hrj.free 1
        have r2 := hrj.free 2
        have r3 := hrj.free 3
        have r4 := hrj.free 4
        have r5 := hrj.free 5
        have r6 := hrj.free 6
        have r7 := hrj.free 7
        have r8 := hrj.free 8
        have hxj := hbj.lt
        have hrlj := hrj.lt
        replace hsj := hide hsj
        replace hoj' := hide hoj'
        replace hrj := hide hrj
        clear hbi o4i o6i o7i o8i hsi hoi' hoj hkey hbj
        go_wp2
        have hro : Only r wj (set9 wj r ⟨t0, t1, t2, (nn : Int), A4, n4, c4, (m6 : Int), A6, n6, c6, A7, n7, c7, A8, n8, c8⟩) := set9_only (Only.refl r wj) (Or.inl rfl)
        have hbz : w.heap.size = r := hr.out
        have hbxf := set9_box (q := ⟨t0, t1, t2, (nn : Int), A4, n4, c4, (m6 : Int), A6, n6, c6, A7, n7, c7, A8, n8, c8⟩) hrj.out
        have hscf := set9_scan (q := ⟨t0, t1, t2, (nn : Int), A4, n4, c4, (m6 : Int), A6, n6, c6, A7, n7, c7, A8, n8, c8⟩) hsj.out hrj.out hrg
        have honf := set9_only (q := ⟨t0, t1, t2, (nn : Int), A4, n4, c4, (m6 : Int), A6, n6, c6, A7, n7, c7, A8, n8, c8⟩) (how.trans hoj'.out) (Or.inr (Nat.le_of_eq hbz))
        change bodyPost _ _ _ _ _ (set9 wj r ⟨t0, t1, t2, (nn : Int), A4, n4, c4, (m6 : Int), A6, n6, c6, A7, n7, c7, A8, n8, c8⟩)
        generalize set9 wj r ⟨t0, t1, t2, (nn : Int), A4, n4, c4, (m6 : Int), A6, n6, c6, A7, n7, c7, A8, n8, c8⟩ = wk at *
        refine end_clsK rfl r ⟨t0, t1, t2, (nn : Int), A4, n4, c4, (m6 : Int), A6, n6, c6, A7, n7, c7, A8, n8, c8⟩ rfl rfl hbxf ⟨_, ps, f6, f7, s8, k9, rfl, ?_, ?_, ?_, ?_, hscf, hfin.out, honf⟩
        · exact (o4j.noteT hro (by omega)).lower (by omega)
        · exact (o6j.noteT hro (by omega)).lower (by omega)
        · exact (o7j.noteT hro (by omega)).lower (by omega)
        · exact (o8j.noteT hro (by omega)).lower (by omega))
end Go.Proofs.YtimcdikeajbabaaGreatDoor

namespace Go.Proofs.YtimcdikeajbabaaGreatDoor
open Go.RowKit
set_option maxRecDepth 100000

theorem apd_clss : Apd Tryz.prog 29 47 9 160 := apd Tryz.underlying29 (z := .agg #[.string ⟨#[]⟩, .string ⟨#[]⟩, .string ⟨#[]⟩, .int .i64 0, .slice none 0 0, .int .i64 0, .slice none 0 0, .slice none 0 0, .slice none 0 0]) (by kernel_rfl) rfl
abbrev clsTs : List TypeId := [3, 9, 70]
/-- A class whose rows are known. -/
theorem cls_rep {S : Nat → Prop} {W : World} {q : Nine} {ps : List Int} {fs st : List ByteArray} {ss : List (Int × Int)} (h4 : (kSlice kInt).rep S W ps [.slice q.A4 q.n4 q.c4]) (h6 : (kSlice kStr).rep S W fs [.slice q.A6 q.n6 q.c6]) (h7 : (kSlice kStr).rep S W st [.slice q.A7 q.n7 q.c7]) (h8 : (kSlice kStart).rep S W ss [.slice q.A8 q.n8 q.c8]) :
    kCls.rep S W (q.z, q.co, q.pa, q.n, ps, q.m, fs, st, ss) (cboxV q).toList :=
  ⟨[_], _, rfl, rfl, [_], _, rfl, rfl, [_], _, rfl, rfl, [_], _, rfl, rfl, [_], _, rfl, h4, [_], _, rfl, rfl, [_], _, rfl, h6, [_], _, rfl, h7, h8⟩
end Go.Proofs.YtimcdikeajbabaaGreatDoor

namespace Go.Proofs.YtimcdikeajbabaaGreatDoor
open Go.RowKit
set_option maxRecDepth 100000

/-- A row of its own; what its elements point to lies in S. -/
def OwnO {α : Type} (K : Kind α) (t : TypeId) (S : Nat → Prop) (B : Nat) (w : World) (v : Value) (l : List α) : Prop :=
  ∃ vss : List (List Value), vss.length = l.length ∧ w.ownsRow B t K.k v l.length vss.flatten ∧ ∀ (j : Nat) (x : α) (vs : List Value), l[j]? = some x → vss[j]? = some vs → K.rep S w x vs
/-- Rows of these types from B on, but not the one of u. -/
def Off (ts : List TypeId) (B : Nat) (u : Value) (w : World) : Nat → Prop := fun b => (B ≤ b ∧ TyAt ts w b) ∧ some b ≠ u.ownBlock
theorem tyAt_same {ts : List TypeId} {w w' : World} {b : Nat} (h : TyAt ts w b) (e : w'.heap[b]? = w.heap[b]?) : TyAt ts w' b := by
  obtain ⟨cs, t, h1, h2⟩ := h
  exact ⟨cs, t, e.trans h1, h2⟩
theorem Off.same {ts : List TypeId} {B b : Nat} {u : Value} {w w' : World} (h : Off ts B u w b) (e : w'.heap[b]? = w.heap[b]?) : Off ts B u w' b := ⟨⟨h.1.1, tyAt_same h.1.2 e⟩, h.2⟩
theorem tyAt_ne {ts : List TypeId} {w : World} {b g : Nat} {cs : Array Value} {e : TypeId} {fr : Nat × Nat} (h : TyAt ts w b) (hg : w.heap[g]? = some (.cells cs e fr)) (he : e ∉ ts) : b ≠ g := by
  rintro rfl
  obtain ⟨cs', t', hc, ht⟩ := h
  rw [hg] at hc
  injection hc with h3
  injection h3 with _ h4
  exact he (h4 ▸ ht)
section
variable {α : Type} {K : Kind α} {t : TypeId} {S S' : Nat → Prop} {B : Nat} {w w' : World} {v : Value} {l : List α}
theorem OwnO.nil : OwnO K t S B w (.slice none 0 0) ([] : List α) := ⟨[], rfl, World.ownsRow_nil _ _ _ _, fun j x vs h => by simp at h⟩
theorem OwnO.kept {row : Option Nat} (h : OwnO K t S B w v l) (hg : w.grownBy w' row) (h1 : v.ownBlock = none ∨ v.ownBlock ≠ row) (h2 : ∀ b, S b → b < w.heap.size → some b ≠ row ∧ (w'.heap[b]? = w.heap[b]? → S' b)) : OwnO K t S' B w' v l := by
  obtain ⟨vss, e1, e2, e3⟩ := h
  refine ⟨vss, e1, e2.kept hg h1, fun j x vs hj hv => K.kept (e3 j x vs hj hv) fun b hs hlt => ?_⟩
  obtain ⟨h3, h4⟩ := h2 b hs hlt
  have hb := hg.block b hlt h3
  exact ⟨h4 hb, Nat.lt_of_lt_of_le hlt hg.size, hb⟩
theorem OwnO.own {ts : List TypeId} (h : OwnO K t S B w v l) (hS : ∀ b, S b → B ≤ b ∧ TyAt ts w b) : Own K t ts 0 B w v l := by
  obtain ⟨vss, e1, e2, e3⟩ := h
  exact ⟨vss, e1, e2, fun j x vs hj hv => K.more (e3 j x vs hj hv) fun b hs => .inr (hS b hs)⟩
/-- Its row, if it has one, is of its type. -/
theorem owns_ne {e : TypeId} {k n g : Nat} {xs : List Value} {cs : Array Value} {t2 : TypeId} {fr : Nat × Nat} (h : w.ownsRow B e k v n xs) (hg : w.heap[g]? = some (.cells cs t2 fr)) (he : e ≠ t2) : v.ownBlock = none ∨ v.ownBlock ≠ some g := by
  rcases h.2 with ⟨rfl, _⟩ | ⟨x, cap, cur, rfl, _, hx, _⟩
  · exact .inl rfl
  · refine .inr fun e2 => ?_
    have : x = g := by simpa [Value.ownBlock] using e2
    subst this
    rw [hx] at hg
    injection hg with h3
    injection h3 with _ h4
    exact he h4
/-- Whatever rows of type e another one has, blocks of types apart are not among them. -/
theorem tyAt_far {ts : List TypeId} {e : TypeId} {k n b : Nat} {xs : List Value} (h : w.ownsRow B e k v n xs) (hb : TyAt ts w b) (he : e ∉ ts) : some b ≠ v.ownBlock := by
  rcases h.2 with ⟨rfl, _⟩ | ⟨x, cap, cur, rfl, _, hx, _⟩
  · intro e2; simp [Value.ownBlock] at e2
  · intro e2
    have : b = x := by simpa [Value.ownBlock] using e2
    exact tyAt_ne hb hx he this
end
/-- Rows from B on, as parts of a datum: apart from the row of u, which lies below. -/
theorem own_repS {α : Type} {K : Kind α} {t : TypeId} {ts : List TypeId} {B C : Nat} {w : World} {v u : Value} {l : List α} (h : Own K t [] 0 B w v l) (ht : t ∈ ts) (hC : C ≤ B) (hu : ∀ y, u.ownBlock = some y → y < B) : (kSlice K).rep (Off ts C u w) w l [v] := by
  obtain ⟨A, c, rfl, h1, h2⟩ := h.at
  refine ⟨A, c, rfl, h1, h2.more fun b hb => ?_⟩
  rcases hb with hb | ⟨hB, cs, t', hc, hm⟩
  · exact absurd hb (Nat.not_lt_zero _)
  · refine ⟨⟨Nat.le_trans hC hB, cs, t', hc, by simp at hm; rw [hm]; exact ht⟩, fun e => ?_⟩
    have := hu b e.symm
    omega
/-- What is gathered at classes. -/
structure GK (w0 : World) (u6 u7 u8 : Value) (ls : List Cls) (lines : List Int) (ps : List Prob) (W : World) : Prop where
  ls : OwnO kCls 47 (Off clsTs w0.heap.size u7 W) w0.heap.size W u6 ls
  ins : Own kInt 3 [] 0 w0.heap.size W u7 lines
  ps : ProbsOwn w0.heap.size W u8 ps
  below : Below w0.heap.size w0 W
section
variable {w0 W W' : World} {u6 u7 u8 : Value} {ls : List Cls} {lines : List Int} {ps : List Prob}
theorem GK.own (h : GK w0 u6 u7 u8 ls lines ps W) : Own kCls 47 clsTs 0 w0.heap.size W u6 ls := h.ls.own fun _ hb => hb.1
theorem GK.later (h : GK w0 u6 u7 u8 ls lines ps W) (hb : Below W.heap.size W W') : GK w0 u6 u7 u8 ls lines ps W' :=
  ⟨h.ls.kept (row := none) ⟨hb.os, hb.tape, hb.output, hb.size, fun k hk _ => hb.block k hk⟩ (by cases u6.ownBlock <;> simp) (fun b hs _ => ⟨by simp, fun e => hs.same e⟩), h.ins.later hb, owns_later h.ps hb, ext_trans h.below hb⟩
theorem GK.alloc (h : GK w0 u6 u7 u8 ls lines ps W) (o : Obj) : GK w0 u6 u7 u8 ls lines ps (W.alloc o) := h.later (ext_alloc (Below.refl _ _) _)
theorem GK.drew (h : GK w0 u6 u7 u8 ls lines ps W) : GK w0 u6 u7 u8 ls lines ps W.drew := h.later (ext_drew (Below.refl _ _))
theorem GK.scan {g : Nat} {line : Int} {F : Option Addr} {m c j : Nat} {pr : Option Prob} (h : GK w0 u6 u7 u8 ls lines ps W) (hs : Scan W g line F m c j pr) (ho : Only g W W') (hg : w0.heap.size ≤ g) : GK w0 u6 u7 u8 ls lines ps W' := by
  have hs' := hs
  obtain ⟨v, hgb, -⟩ := hs'
  refine ⟨h.ls.kept ho ?_ (fun b hb _ => ⟨fun e => tyAt_ne hb.1.2 hgb (by decide) (by injection e), fun e => hb.same e⟩), h.ins.only ho hgb (Nat.zero_le _) (by decide) (by decide), owns_scan h.ps hs (by decide) ho, h.below.trans (Only.below ho hg h.below.size)⟩
  obtain ⟨vss, -, e2, -⟩ := h.ls
  exact owns_ne e2 hgb (by decide)
theorem GK.prob {v' : Value} {p : Prob} (h : GK w0 u6 u7 u8 ls lines ps W) (hg : W.grownBy W' u8.ownBlock) (hn : W'.ownsRow w0.heap.size 74 4 v' (ps.length + 1) (ps.flatMap encP ++ encP p)) : GK w0 u6 u7 v' ls lines (ps ++ [p]) W' := by
  refine ⟨h.ls.kept hg ?_ (fun b hb _ => ⟨tyAt_far h.ps hb.1.2 (by decide), fun e => hb.same e⟩), h.ins.grown h.ps (Nat.zero_le _) hg (by decide) (by decide), by unfold ProbsOwn; rw [List.length_append, flatP_snoc]; exact hn, Below.grown h.below hg h.below.size (fun j hj => (h.ps.lt j hj).1)⟩
  obtain ⟨vss, -, e2, -⟩ := h.ls
  exact own_ne e2 h.ps (by decide)
theorem stepk_ls {ops : Array Oper} {o : Oper} {a : Act} {K' : Act → World → Prop} {Q : Exit → Act → World → Prop} {E : Prop} {S : World → Prop} (hgd : o.guard = none) (s x : Operand)
    (ho : o.op = .call { callee := .builtin .append, args := #[s, x], argTypes := #[29, 29] }) (hs : a.eval s = u6) (h : GK w0 u6 u7 u8 ls lines ps W) (hl : ls.length ≤ 100000)
    (ad : Addr) (c : Nat) (hx : a.eval x = .slice (some ad) 1 c) (e : Cls) (vs : List Value) (hrep : kCls.rep (Off clsTs w0.heap.size u7 W) W e vs) (hnews : ∀ j u, vs[j]? = some u → W.cell? (ad.add j) = some u) (hS : ∀ w', W.grownBy w' u6.ownBlock → S w')
    (hk : ∀ g cap w', GK w0 (.slice (some ⟨g, 0, none⟩) (ls.length + 1) cap) u7 u8 (ls ++ [e]) lines ps w' → W.grownBy w' u6.ownBlock → S w' → K' (a.put o.dst (.slice (some ⟨g, 0, none⟩) (ls.length + 1) cap)) w') :
    if Region.wanted o (yielded ops a.tmps) = true then Oper.wp Tryz.prog o a W K' Q else E := by
  obtain ⟨i, z, hi, hz, h1, h2, h3⟩ := apd_clss.i
  obtain ⟨vss, e1, e2, e3⟩ := h.ls
  refine step_append_lies W hgd s x 29 ho w0.heap.size 47 i z 9 160 apd_clss.u hi hz h1 h2 h3 (by decide) u6 ls.length vss.flatten hs e2 ad 1 c vs hx (by rw [kCls.len hrep]; rfl) hnews (kCls.one hrep) (by omega) (by unfold maxLen; omega) (by omega) h.below.size W.heap.size rfl fun g cap w' hn hg _ _ => hk g cap w' ⟨?_, h.ins.grown e2 (Nat.zero_le _) hg (by decide) (by simp), World.ownsRow.kept h.ps hg (own_ne h.ps e2 (by decide)), Below.grown h.below hg h.below.size (fun j hj => (e2.lt j hj).1)⟩ hg (hS w' hg)
  have hk : ∀ {a : Cls} {us : List Value}, kCls.rep (Off clsTs w0.heap.size u7 W) W a us → kCls.rep (Off clsTs w0.heap.size u7 w') w' a us := fun h => kCls.kept h fun b hb hlt => by
    have hbb := hg.block b hlt (tyAt_far e2 hb.1.2 (by decide))
    exact ⟨hb.same hbb, Nat.lt_of_lt_of_le hlt hg.size, hbb⟩
  refine ⟨vss ++ [vs], by simp [e1], ?_, fun j y us hj hv => ?_⟩
  · rw [show (vss ++ [vs]).flatten = vss.flatten ++ vs from by simp, show (ls ++ [e]).length = ls.length + 1 from by simp]
    exact hn
  · rcases Nat.lt_or_ge j ls.length with hlt | hge
    · rw [List.getElem?_append_left hlt] at hj
      rw [List.getElem?_append_left (by omega)] at hv
      exact hk (e3 j y us hj hv)
    · rw [List.getElem?_append_right hge] at hj
      rw [List.getElem?_append_right (by omega)] at hv
      have hj0 : j - ls.length = 0 := by
        have := (List.getElem?_eq_some_iff.1 hj).1
        simp at this; omega
      rw [hj0] at hj
      rw [e1, hj0] at hv
      simp at hj hv
      subst hj hv
      exact hk hrep
theorem stepk_ins {ops : Array Oper} {o : Oper} {a : Act} {K' : Act → World → Prop} {Q : Exit → Act → World → Prop} {E : Prop} {S : World → Prop} (hgd : o.guard = none) (s x : Operand)
    (ho : o.op = .call { callee := .builtin .append, args := #[s, x], argTypes := #[36, 36] }) (hs : a.eval s = u7) (h : GK w0 u6 u7 u8 ls lines ps W) (hl : lines.length ≤ 100000)
    (ad : Addr) (c : Nat) (hx : a.eval x = .slice (some ad) 1 c) (e : Int) (hnews : ∀ j u, [Value.int .i64 e][j]? = some u → W.cell? (ad.add j) = some u) (hS : ∀ w', W.grownBy w' u7.ownBlock → S w')
    (hk : ∀ g cap w', GK w0 u6 (.slice (some ⟨g, 0, none⟩) (lines.length + 1) cap) u8 ls (lines ++ [e]) ps w' → W.grownBy w' u7.ownBlock → S w' → K' (a.put o.dst (.slice (some ⟨g, 0, none⟩) (lines.length + 1) cap)) w') :
    if Region.wanted o (yielded ops a.tmps) = true then Oper.wp Tryz.prog o a W K' Q else E := by
  obtain ⟨i, z, hi, hz, h1, h2, h3⟩ := apd_intsG.i
  obtain ⟨vss, e1, e2, e3⟩ := h.ins
  refine step_append_lies W hgd s x 36 ho w0.heap.size 3 i z 1 8 apd_intsG.u hi hz h1 h2 h3 (by decide) u7 lines.length vss.flatten hs e2 ad 1 c [.int .i64 e] hx rfl hnews (kInt.one (S := AnyB) (w := W) (a := e) rfl) (by omega) (by unfold maxLen; omega) (by omega) h.below.size W.heap.size rfl fun g cap w' hn hg hwh _ => hk g cap w' ⟨?_, Own.snoc vss e1 e2 e3 rfl (by simp) (Nat.zero_le _) hg hn, World.ownsRow.kept h.ps hg (own_ne h.ps e2 (by decide)), Below.grown h.below hg h.below.size (fun j hj => (e2.lt j hj).1)⟩ hg (hS w' hg)
  refine h.ls.kept hg ?_ fun b hb hlt => ⟨hb.2, fun hbb => ⟨⟨hb.1.1, tyAt_same hb.1.2 hbb⟩, fun e => ?_⟩⟩
  · obtain ⟨vss', -, e2', -⟩ := h.ls
    exact own_ne e2' e2 (by decide)
  · have e : b = g := by simpa [Value.ownBlock] using e
    subst e
    rcases hwh with h4 | h4
    · exact hb.2 h4.symm
    · omega
end
end Go.Proofs.YtimcdikeajbabaaGreatDoor

namespace Go.Proofs.YtimcdikeajbabaaGreatDoor
open Go.RowKit
set_option maxRecDepth 100000

def ReadKGives (d sl _b _m n : Int) (rs : List Rec) (w : World) (e : Ending) (w' : World) : Prop :=
  ∃ v6 v7 v8, e = .returned (.tuple #[v6, v7, v8]) ∧ GK w v6 v7 v8 (readCls d sl n rs).ls (readCls d sl n rs).lines (readCls d sl n rs).ps w'
def ReadKLoop (d sl _b _m n : Int) (rs : List Rec) (w : World) (v6 v7 v8 i : Value) (wr : World) : Prop :=
  ∃ j : Nat, j ≤ rs.length ∧ i = .int .i64 j ∧ GK w v6 v7 v8 (readCls d sl n (rs.take j)).ls (readCls d sl n (rs.take j)).lines (readCls d sl n (rs.take j)).ps wr
set_option maxHeartbeats 8000000 in
theorem kread_walk (gb nb : Nat) (d sl b m n : Int) (A : Option Addr) (rs : List Rec) (cap : Nat) (w : World) (hS : Std w) (hCl : Cl gb nb d sl b m n w) (hR : RecsAt w.heap.size w A rs) (hN : rs.length ≤ 4000000000000) (hs : ∀ r ∈ rs, ∀ f ∈ r.2, f.1.size < 1073741824) (hsl : 1 ≤ sl ∧ sl ≤ 24) :
    Calls Tryz.prog 64 #[.slice A rs.length cap, .int .i64 9, .func (.func 65) #[] #[.pointer (some ⟨gb, 0, none⟩), .pointer (some ⟨nb, 0, none⟩)]] w fun e w' => ReadKGives d sl b m n rs w e w' := by
  have eg : ∀ args w, (callFunc 65 args).run Tryz.prog w = .ok (.enter 65 args) w := enters_of Tryz.func65 (by kernel_rfl) rfl
  obtain ⟨iP, hiP, hP0, hP1, hP2⟩ := info_parts infoProb
  obtain ⟨N, hNN⟩ : ∃ N, rs.length = N := ⟨_, rfl⟩
  have hbig := hS.big
  rw [hNN] at hN ⊢
  replace hNN := hide hNN
  replace hs := hide hs
  go_enter Tryz.func64, Tryz.ntmps64
  go_wp2
  go_loopw [6, 7, 8, 15] (fun v6 v7 v8 i wr => ReadKLoop d sl b m n rs w v6 v7 v8 i wr) (fun _ _ _ i _ => N - (intOf i).toNat)
  case atStart => exact ⟨0, Nat.zero_le _, rfl, OwnO.nil, Own.nil, World.ownsRow_nil _ _ _ _, Below.refl _ _⟩
  case round =>
    obtain ⟨j, hj, rfl, hG⟩ := hrel
    rw [hNN.out] at hj
    by_cases hlt : j < N
    · obtain ⟨r, hr⟩ : ∃ r, rs[j]? = some r := ⟨_, List.getElem?_eq_getElem (by rw [hNN.out]; exact hlt)⟩
      obtain ⟨rb, off, rfl, hrb, hcell⟩ := (hR.below hG.below) (by rw [hNN.out]; omega)
      obtain ⟨F, c, k0, k1, hF⟩ := hcell j r hr
      have hsr := hide (hs.out r (List.mem_of_getElem? hr))
      have hstep := hide (readAll_take (n := 9) (P := clsP d sl n) (f := clsOf d sl n) rs j r hr)
      obtain ⟨st, hst⟩ : ∃ st, readAll 9 (clsP d sl n) (clsOf d sl n) (rs.take j) = st := ⟨_, rfl⟩
      have hlen := readCls_len d sl n (rs.take j)
      rw [List.length_take, hNN.out] at hlen
      unfold readCls at hG hlen
      rw [hst] at hG hlen hstep
      obtain ⟨n1, n2, n3⟩ := hlen
      obtain ⟨line, fs⟩ := r
      dsimp only at k0 k1 hF hsr
      have hz := hG.below.size
      have hrb2 : rb < wr.heap.size := by omega
      have h3N : st.ps.length ≤ 4000000000000 := by omega
      have hSr := hS.after hG.below
      clear hcell hr hst hR n3
      replace n2 := hide n2
      obtain ⟨g, hg⟩ : ∃ g, wr.heap.size + 1 = g := ⟨_, rfl⟩
      have hsc0 : Scan ((wr.alloc (.cells #[.int .i64 line, .slice F fs.length c] 27)).alloc (.cells #[.int .i64 line, .slice F fs.length c, .int .i64 0, .pointer none] 149)) g line F fs.length c 0 none :=
        ⟨.pointer none, by rw [← hg]; exact heap_new2 _ _ _, rfl⟩
      have hb1 : Below wr.heap.size wr ((wr.alloc (.cells #[.int .i64 line, .slice F fs.length c] 27)).alloc (.cells #[.int .i64 line, .slice F fs.length c, .int .i64 0, .pointer none] 149)) := (by repeat (first | exact Below.refl _ _ | refine ext_alloc ?_ _ | refine ext_drewN ?_ _ | refine ext_drew ?_ | refine ext_trans ?_ (by assumption)))
      have q0 : ((wr.alloc (.cells #[.int .i64 line, .slice F fs.length c] 27)).alloc (.cells #[.int .i64 line, .slice F fs.length c, .int .i64 0, .pointer none] 149)).cell? ⟨wr.heap.size, 0, none⟩ = some (.int .i64 line) := by simp
      have hgw : wr.heap.size < g := by omega
      replace hg := hide hg
      obtain ⟨A6, c6, rfl⟩ := hG.own.form
      have hu6 : Hid (∀ y, (Value.slice A6 st.ls.length c6).ownBlock = some y → y < wr.heap.size) := hide fun y e => (hG.own.lt y e).2
      have hu7 : Hid (∀ y, u7.ownBlock = some y → y < wr.heap.size) := hide fun y e => (hG.ins.lt y e).2
      have hat := hG.own.any'
      have hwz : Hid (w.heap.size ≤ wr.heap.size) := hide hz
      by_cases hm : fs.length = 9
      · have hm2 : ((fs.length : Int) != 9) = false := by simp; omega
        have h1s : ∀ k, (textAt fs k).size < 1073741824 := by
          intro k
          unfold textAt
          rw [List.getD_eq_getElem?_getD]
          cases hk : fs[k]? with
          | none => decide
          | some f => exact hsr.out _ (List.mem_of_getElem? hk)
        rw [show gathStep 9 (clsP d sl n) (clsOf d sl n) st (line, fs) = (match clsP d sl n line fs st.ls with | some p => ⟨st.ls, st.lines, st.ps ++ [p]⟩ | none => ⟨st.ls ++ [clsOf d sl n fs], st.lines ++ [line], st.ps⟩) from if_pos hm] at hstep
        replace hm := hide hm
        go_wp2_with fail
        rw [hg.out]
        refine (whole_walk g line F fs.length c 0 none false 9 _ hsc0).mono ?_
        rintro e w2 ⟨rfl, hs2, ho2⟩
        have hs2 : Scan w2 g line F fs.length c 0 none := hs2
        have c3 := scan_none hs2
        have hb2 : Below wr.heap.size wr w2 := hb1.trans (Only.below ho2 (by omega) hb1.size)
        have q2 := (ho2.cell (by rw [World.size_alloc, World.size_alloc]; omega) (by omega)).trans q0
        have hG2 := hG.later hb2
        have hS2 := hSr.after hb2
        have v1 : g < w2.heap.size := World.block_lt_of_cell? _ _ c3
        have v0 : wr.heap.size < w2.heap.size := World.block_lt_of_cell? _ _ q2
        have hF2 : FieldsAt w.heap.size w2 F fs := hF.below (hb2.mono hz)
        have hat2 : At kCls (· < g) w2 A6 st.ls := (hat.below hb2).up (by omega)
        have hbx : Below w2.heap.size w2 (w2.alloc (.cells #[.string ⟨#[]⟩, .string ⟨#[]⟩, .string ⟨#[]⟩, .int .i64 0, .slice none 0 0, .int .i64 0, .slice none 0 0, .slice none 0 0, .slice none 0 0] 47)) := ext_alloc (Below.refl _ _) _
        have hsx := hs2.later hbx
        have hFx := hF2.below (hbx.mono (by omega) : Below w.heap.size _ _)
        have hax := hat2.below (hbx.mono (by omega) : Below g _ _)
        have hcall := hide (kone_walk w.heap.size gb nb g d sl b m n line F fs c A6 st.ls c6 _ (hS2.after hbx) ((hCl.later (ext_trans hG2.below hbx))) (by have := hCl.lt.1; omega) (by have := hCl.lt.2; omega) hsx hFx hm.out (by omega) hbig h1s (by omega) hax hsl)
        clear hsc0 hb1 q0 ho2 hG hb2 hF hat hat2 hF2 hsx hFx hax hSr hS2
        have hbox := (cbox_new w2 ⟨⟨#[]⟩, ⟨#[]⟩, ⟨#[]⟩, 0, none, 0, 0, 0, none, 0, 0, none, 0, 0, none, 0, 0⟩)
        have hzx : (w2.alloc (.cells (cboxV ⟨⟨#[]⟩, ⟨#[]⟩, ⟨#[]⟩, 0, none, 0, 0, 0, none, 0, 0, none, 0, 0, none, 0, 0⟩) 47)).heap.size = w2.heap.size + 1 := World.size_alloc _ _
        go_upto_region 9 with (go_at_fn 65; refine hcall.out.mono ?_; rintro e w3 ⟨⟨z, co, pa, nl, A4, n4, c4, mm, Aa, n6, c6', Ab, n7, c7, Ac, n8, c8⟩, ps, f6, f7, ss, k, rfl, o4, o6, o7, o8, hs3, hP3, ho3⟩; dsimp only [cboxV] at o4 o6 o7 o8 hP3 ⊢; have hbox3 := hbox.only ho3 (by omega); have x0 := hbox3.c0; have x1 := hbox3.c1; have x2 := hbox3.c2; have x3 := hbox3.c3; have x4 := hbox3.c4; have x5 := hbox3.c5; have x6 := hbox3.c6; have x7 := hbox3.c7; have x8 := hbox3.c8; dsimp only at x0 x1 x2 x3 x4 x5 x6 x7 x8; have xf0 := hbox3.free 0; have xf1 := hbox3.free 1; have xf2 := hbox3.free 2; have xf3 := hbox3.free 3; have xf4 := hbox3.free 4; have xf5 := hbox3.free 5; have xf6 := hbox3.free 6; have xf7 := hbox3.free 7; have xf8 := hbox3.free 8)
        have hgx : w2.heap.size ≠ g := by omega
        have hbox4 := set9_box (q := ⟨z, co, pa, nl, A4, n4, c4, mm, Aa, n6, c6', Ab, n7, c7, Ac, n8, c8⟩) hbox3
        have hs4 := set9_scan (q := ⟨z, co, pa, nl, A4, n4, c4, mm, Aa, n6, c6', Ab, n7, c7, Ac, n8, c8⟩) hs3 hbox3 hgx
        have ho4 : Only g w2 (set9 w3 w2.heap.size ⟨z, co, pa, nl, A4, n4, c4, mm, Aa, n6, c6', Ab, n7, c7, Ac, n8, c8⟩) := set9_only ((Only.later (Only.refl g w2) (ext_alloc (Below.refl _ _) _)).trans ho3) (Or.inr (Nat.le_refl _))
        have hxo : Only w2.heap.size w3 (set9 w3 w2.heap.size ⟨z, co, pa, nl, A4, n4, c4, mm, Aa, n6, c6', Ab, n7, c7, Ac, n8, c8⟩) := set9_only (Only.refl _ w3) (Or.inl rfl)
        have hlo : wr.heap.size ≤ w2.heap.size := by omega
        have p4 := (o4.noteT hxo (by rw [World.size_alloc]; omega)).lower (C := wr.heap.size) (by rw [World.size_alloc]; omega)
        have p6 := (o6.noteT hxo (by rw [World.size_alloc]; omega)).lower (C := wr.heap.size) (by rw [World.size_alloc]; omega)
        have p7 := (o7.noteT hxo (by rw [World.size_alloc]; omega)).lower (C := wr.heap.size) (by rw [World.size_alloc]; omega)
        have p8 := (o8.noteT hxo (by rw [World.size_alloc]; omega)).lower (C := wr.heap.size) (by rw [World.size_alloc]; omega)
        obtain ⟨U, hU⟩ : ∃ U, set9 w3 w2.heap.size ⟨z, co, pa, nl, A4, n4, c4, mm, Aa, n6, c6', Ab, n7, c7, Ac, n8, c8⟩ = U := ⟨_, rfl⟩
        rw [hU] at hbox4 hs4 ho4 p4 p6 p7 p8
        unfold set9 at hU
        dsimp only at hU
        have hG4 := hG2.scan hs2 ho4 (by omega)
        have q4 := (ho4.cell v0 (by omega)).trans q2
        rw [hU]
        have hzU : w.heap.size ≤ U.heap.size := hG4.below.size
        have y0 := hbox4.c0; have y1 := hbox4.c1; have y2 := hbox4.c2; have y3 := hbox4.c3; have y4 := hbox4.c4; have y5 := hbox4.c5; have y6 := hbox4.c6; have y7 := hbox4.c7; have y8 := hbox4.c8
        dsimp only at y0 y1 y2 y3 y4 y5 y6 y7 y8
        clear hU x0 x1 x2 x3 x4 x5 x6 x7 x8 xf0 xf1 xf2 xf3 xf4 xf5 xf6 xf7 xf8 hs3 ho3 ho4 o4 o6 o7 o8 hxo hG2 hs2 c3 q2 eg hcall hbx hbox hbox3 hbox4 hzx
        cases hsp : clsP d sl n line fs st.ls with
        | some p =>
          rw [hsp] at hs4 hstep
          obtain ⟨line', col, er⟩ := p
          obtain ⟨h, c3, p0, p1, p2, p3⟩ := scan_some hs4
          dsimp only at p0 p1 p2 p3 hstep
          clear hsp hs4 y0 y1 y2 y3 y4 y5 y6 y7 y8 q4 hP3 p4 p6 p7 p8
          have v1 : g < U.heap.size := World.block_lt_of_cell? _ _ c3
          have v2 : h < U.heap.size := World.block_lt_of_cell? _ _ p0
          go_wp2_with (at_builtin; refine wpList_append_own _ rfl _ _ 30 rfl w.heap.size 74 iP (.agg #[.int .i64 0, .int .i64 0, .int .i64 0, .int .i64 0]) 4 32 Tryz.underlying30 hiP hP0 hP1 hP2 rfl (by decide) _ _ _ rfl (hG4.alloc _).ps ⟨U.heap.size, 0, none⟩ 1 1 (encP (line', col, er)) rfl rfl (new_prob _ _ _ _ _) (one_prob _) ?c3 ?c4 ?c5 ?_)
          case c3 => unfold maxLen; omega
          case c4 => omega
          case c5 => rw [World.size_alloc]; omega
          intro v' w4 hPn hgrow _
          have hGn := (hG4.alloc _).prob (p := (line', col, er)) hgrow hPn
          clear hG4 c3 p0 p1 p2 p3 hPn hgrow
          go_wp2
          go_roundw
          case rel => exact ⟨j + 1, by rw [hNN.out]; omega, by go_num, by unfold readCls; rw [hstep.out]; exact hGn⟩
          case measure => simp [intOf]; omega
        | none =>
          rw [hsp] at hs4 hstep
          have hcur := hP3 hsp
          have c3 := scan_none hs4
          have v1 : g < U.heap.size := World.block_lt_of_cell? _ _ c3
          have v2 : w2.heap.size < U.heap.size := World.block_lt_of_cell? _ _ y0
          have v3 : wr.heap.size < U.heap.size := World.block_lt_of_cell? _ _ q4
          dsimp only at hstep
          rw [← hcur] at hstep
          have n32 : st.lines.length ≤ 100000 := by rw [n2.out]; omega
          have n31 : st.ls.length ≤ 100000 := by omega
          have hn6 : Hid (∀ k, wr.heap.size ≤ k → some k ≠ (Value.slice A6 st.ls.length c6).ownBlock) := hide fun k hk e => by have := hu6.out k e.symm; omega
          have hn7 : Hid (∀ k, wr.heap.size ≤ k → some k ≠ u7.ownBlock) := hide fun k hk e => by have := hu7.out k e.symm; omega
          have e1 := hide (hn6.out w2.heap.size (by omega))
          have e2 := hide (hn6.out wr.heap.size (Nat.le_refl _))
          have e3 := hide (hn7.out w2.heap.size (by omega))
          have e4 := hide (hn7.out wr.heap.size (Nat.le_refl _))
          clear hsp hs4 hcur hP3
          go_upto_region 11 with fail
          clear c3
          have hGd := hG4.drew
          have hSd : Cn10 w2.heap.size 0 ((.string z)) w2.heap.size 1 ((.string co)) w2.heap.size 2 ((.string pa)) w2.heap.size 3 ((.int .i64 nl)) w2.heap.size 4 ((.slice A4 n4 c4)) w2.heap.size 5 ((.int .i64 mm)) w2.heap.size 6 ((.slice Aa n6 c6')) w2.heap.size 7 ((.slice Ab n7 c7)) w2.heap.size 8 ((.slice Ac n8 c8)) wr.heap.size 0 ((.int .i64 line)) U.drew := ⟨y0, y1, y2, y3, y4, y5, y6, y7, y8, q4⟩
          have hS0 : Cn10 w2.heap.size 0 ((.string z)) w2.heap.size 1 ((.string co)) w2.heap.size 2 ((.string pa)) w2.heap.size 3 ((.int .i64 nl)) w2.heap.size 4 ((.slice A4 n4 c4)) w2.heap.size 5 ((.int .i64 mm)) w2.heap.size 6 ((.slice Aa n6 c6')) w2.heap.size 7 ((.slice Ab n7 c7)) w2.heap.size 8 ((.slice Ac n8 c8)) wr.heap.size 0 ((.int .i64 line)) U := ⟨y0, y1, y2, y3, y4, y5, y6, y7, y8, q4⟩
          have p4d := p4.drew
          have p6d := p6.drew
          have p7d := p7.drew
          have p8d := p8.drew
          clear y0 y1 y2 y3 y4 y5 y6 y7 y8 q4
          go_region_held3 (fun W' => W'.cell? ⟨w2.heap.size, 0, none⟩ = some ((.string z)) ∧ W'.cell? ⟨w2.heap.size, 1, none⟩ = some ((.string co)) ∧ W'.cell? ⟨w2.heap.size, 2, none⟩ = some ((.string pa)) ∧ W'.cell? ⟨w2.heap.size, 3, none⟩ = some ((.int .i64 nl)) ∧ W'.cell? ⟨w2.heap.size, 4, none⟩ = some ((.slice A4 n4 c4)) ∧ W'.cell? ⟨w2.heap.size, 5, none⟩ = some ((.int .i64 mm)) ∧ W'.cell? ⟨w2.heap.size, 6, none⟩ = some ((.slice Aa n6 c6')) ∧ W'.cell? ⟨w2.heap.size, 7, none⟩ = some ((.slice Ab n7 c7)) ∧ W'.cell? ⟨w2.heap.size, 8, none⟩ = some ((.slice Ac n8 c8)) ∧ W'.cell? ⟨wr.heap.size, 0, none⟩ = some ((.int .i64 line))) (first | ((repeat (first | (with_reducible assumption) | (with_reducible refine Cn10.alloc ?_ _) | (with_reducible refine Cn10.drew ?_) | (with_reducible refine Cn10.set ?_ ?_ ?_ ?_ ?_ ?_ ?_ ?_ ?_ ?_ ?_ _) | omega)); done)) (first | (refine stepk_ls (S := Cn10 w2.heap.size 0 ((.string z)) w2.heap.size 1 ((.string co)) w2.heap.size 2 ((.string pa)) w2.heap.size 3 ((.int .i64 nl)) w2.heap.size 4 ((.slice A4 n4 c4)) w2.heap.size 5 ((.int .i64 mm)) w2.heap.size 6 ((.slice Aa n6 c6')) w2.heap.size 7 ((.slice Ab n7 c7)) w2.heap.size 8 ((.slice Ac n8 c8)) wr.heap.size 0 ((.int .i64 line))) (w0 := w) (u6 := .slice A6 st.ls.length c6) (u7 := u7) (u8 := u8) (ls := st.ls) (lines := st.lines) (ps := st.ps) rfl (.tmp 52) (.tmp 54) rfl (by rfl) (by repeat (first | (with_reducible assumption) | (with_reducible refine GK.alloc ?_ _) | (with_reducible refine GK.drew ?_))) n31 _ _ (by rfl) (z, co, pa, nl, ps, mm, f6, f7, ss) [.string z, .string co, .string pa, .int .i64 nl, .slice A4 n4 c4, .int .i64 mm, .slice Aa n6 c6', .slice Ab n7 c7, .slice Ac n8 c8] (cls_rep (q := ⟨z, co, pa, nl, A4, n4, c4, mm, Aa, n6, c6', Ab, n7, c7, Ac, n8, c8⟩) (own_repS (K := kInt) (t := 3) (B := wr.heap.size) (by repeat (first | (with_reducible assumption) | (with_reducible refine Own.alloc ?_ _) | (with_reducible refine Own.drew ?_))) (by decide) hwz.out hu7.out) (own_repS (K := kStr) (t := 9) (B := wr.heap.size) (by repeat (first | (with_reducible assumption) | (with_reducible refine Own.alloc ?_ _) | (with_reducible refine Own.drew ?_))) (by decide) hwz.out hu7.out) (own_repS (K := kStr) (t := 9) (B := wr.heap.size) (by repeat (first | (with_reducible assumption) | (with_reducible refine Own.alloc ?_ _) | (with_reducible refine Own.drew ?_))) (by decide) hwz.out hu7.out) (own_repS (K := kStart) (t := 70) (B := wr.heap.size) (by repeat (first | (with_reducible assumption) | (with_reducible refine Own.alloc ?_ _) | (with_reducible refine Own.drew ?_))) (by decide) hwz.out hu7.out)) (World.news_of_block (cs := #[.string z, .string co, .string pa, .int .i64 nl, .slice A4 n4 c4, .int .i64 mm, .slice Aa n6 c6', .slice Ab n7 c7, .slice Ac n8 c8]) (t := 47) (fr := (0, 0)) (by first | exact heap_alloc_new _ _ | exact heap_new2 _ _ _ | exact (Below.heap_alloc _ _ _ (by first | (simp; done) | (simp; omega))).trans (heap_alloc_new _ _))) (fun W' hg => Cn10.grown (by repeat (first | (with_reducible assumption) | (with_reducible refine Cn10.alloc ?_ _) | (with_reducible refine Cn10.drew ?_))) hg e1.out e1.out e1.out e1.out e1.out e1.out e1.out e1.out e1.out e2.out) ?_; intro gA capA w4 hg2 hgrow hs4) | (refine stepk_ins (S := Cn10 w2.heap.size 0 ((.string z)) w2.heap.size 1 ((.string co)) w2.heap.size 2 ((.string pa)) w2.heap.size 3 ((.int .i64 nl)) w2.heap.size 4 ((.slice A4 n4 c4)) w2.heap.size 5 ((.int .i64 mm)) w2.heap.size 6 ((.slice Aa n6 c6')) w2.heap.size 7 ((.slice Ab n7 c7)) w2.heap.size 8 ((.slice Ac n8 c8)) wr.heap.size 0 ((.int .i64 line))) (w0 := w) (u6 := .slice (some ⟨gA, 0, none⟩) (st.ls.length + 1) capA) (u7 := u7) (u8 := u8) (ls := st.ls ++ [(z, co, pa, nl, ps, mm, f6, f7, ss)]) (lines := st.lines) (ps := st.ps) rfl (.tmp 56) (.tmp 59) rfl (by rfl) (by repeat (first | (with_reducible assumption) | (with_reducible refine GK.alloc ?_ _) | (with_reducible refine GK.drew ?_))) n32 _ _ (by rfl) line (World.news_of_block (cs := #[.int .i64 line]) (t := 3) (fr := (0, 0)) (by first | exact heap_alloc_new _ _ | exact heap_new2 _ _ _ | exact (Below.heap_alloc _ _ _ (by first | (simp; done) | (simp; omega))).trans (heap_alloc_new _ _) | exact (hgrow.block _ (by first | (simp; done) | (simp; omega)) (hn6.out _ (by first | omega | (simp; done) | (simp; omega)))).trans (by first | exact heap_alloc_new _ _ | exact heap_new2 _ _ _ | exact (Below.heap_alloc _ _ _ (by first | (simp; done) | (simp; omega))).trans (heap_alloc_new _ _)))) (fun W' hg => Cn10.grown (by repeat (first | (with_reducible assumption) | (with_reducible refine Cn10.alloc ?_ _) | (with_reducible refine Cn10.drew ?_))) hg e3.out e3.out e3.out e3.out e3.out e3.out e3.out e3.out e3.out e4.out) ?_; intro gB capB w5 hg3 hgrow3 hs5))
          all_goals
            clear hGd hSd hS0 hG4 p4 p6 p7 p8 p4d p6d p7d p8d
            go_wp2
            go_roundw
            case rel => exact ⟨j + 1, by rw [hNN.out]; omega, by go_num, by unfold readCls; rw [hstep.out]; exact hg3⟩
            case measure => simp [intOf]; omega
      · have hm2 : ((fs.length : Int) != 9) = true := by simp; omega
        rw [show gathStep 9 (clsP d sl n) (clsOf d sl n) st (line, fs) = ⟨st.ls, st.lines, st.ps ++ [(line, 0, 9)]⟩ from if_neg hm] at hstep
        replace hm := hide hm
        clear hat hSr
        go_wp2_with fail
        rw [hg.out]
        refine (whole_walk g line F fs.length c 0 none true 9 _ hsc0).mono ?_
        rintro e w2 ⟨rfl, hs2, ho2⟩
        obtain ⟨h, c3, p0, p1, p2, p3⟩ := scan_some hs2
        have hb2 : Below wr.heap.size wr w2 := hb1.trans (Only.below ho2 (by omega) hb1.size)
        have hG2 := hG.later hb2
        clear hsc0 hb1 q0 hs2 ho2 hG
        dsimp only at p0 p1 p2 p3
        have v1 := World.block_lt_of_cell? _ _ c3
        have v2 := World.block_lt_of_cell? _ _ p0
        have hz2 := hG2.below.size
        go_wp2_with (at_builtin; refine wpList_append_own _ rfl _ _ 30 rfl w.heap.size 74 iP (.agg #[.int .i64 0, .int .i64 0, .int .i64 0, .int .i64 0]) 4 32 Tryz.underlying30 hiP hP0 hP1 hP2 rfl (by decide) _ _ _ rfl ((hG2.alloc _).alloc _).ps ⟨w2.heap.size + 1, 0, none⟩ 1 1 (encP (line, 0, 9)) rfl rfl ?c0 (one_prob _) ?c3 ?c4 ?c5 ?_)
        case c0 => exact new_prob2 _ _ _ _ _ _
        case c3 => unfold maxLen; omega
        case c4 => omega
        case c5 => rw [World.size_alloc, World.size_alloc]; omega
        intro v' w4 hPn hgrow _
        have hGn := ((hG2.alloc _).alloc _).prob (p := (line, 0, 9)) hgrow hPn
        clear hG2 c3 p0 p1 p2 p3 hb2 hPn hgrow
        go_wp2
        go_roundw
        case rel => exact ⟨j + 1, by rw [hNN.out]; omega, by go_num, by unfold readCls; rw [hstep.out]; exact hGn⟩
        case measure => simp [intOf]; omega
    · obtain rfl : j = N := by omega
      have hall : Hid (rs.take j = rs) := hide (by rw [← hNN.out]; exact List.take_length)
      rw [hall.out] at hG
      clear hall
      go_wp2
      go_ret3
      exact ⟨_, _, _, rfl, hG⟩
end Go.Proofs.YtimcdikeajbabaaGreatDoor
