/- Walk of coursefile.readStarts, whether a problem is noted or not. Conditions: the scanner's cells are as Scan says; a text shorter than 2^30 bytes; a grid's bounds. -/
import Derived.Test.YtimcdikeajbabaaGreatDoorShelfS
import Derived.Test.YtimcdikeajbabaaGreatDoorRows
import Derived.WalkKit
import Derived.WalkSpells
import Derived.WalkLawsBesides
import Derived.BigGuardPart
import Derived.Lib.Hide
import Derived.Laws.BitsAllLaws
import Derived.Laws.BitsLemmas
import Derived.Lib.LaidTab
import Derived.Test.YtimcdikeajbabaaGreatDoorShelf
import Derived.Lib.ConvBytes
import Derived.Deep.QuietTactic
import Derived.BigQuiet
import Derived.Laws.ResultCell
import Derived.RegionTactic
import Derived.BigRegion
import Derived.Deep.RegionHeld3
import Derived.Deep.DeepCutAuto
import Derived.Lib.SmallJoins
import Derived.Lib.SplitLaws
import Derived.Lib.CountLaws
import Derived.Lib.IndexMore
import Derived.Lib.Split
import Derived.Lib.Join
import Derived.Lib.ItoaNum
import Derived.Laws.AppendOwn
import Derived.Test.YtimcdikeajbabaaGreatDoorShelfT
import Derived.Lib.ItoaLen
import Derived.Lib.AppendIntMem
import Derived.Deep.AppendLies
import Derived.Lib.PathFns
import Derived.Maps.Range
import Derived.Lib.OwnBridge
import Derived.Sort.OwnSorted
import Derived.Sort.Walk0
import Derived.Test.YtimcdikeajbabaaGreatDoorCards
import Derived.Test.YtimcdikeajbabaaGreatDoorTie
import Derived.ProofKit
import Derived.OpenShut
import Derived.LaidMore
import Derived.Lay
import Derived.SevenTiedAt
import Derived.Stop.Joined
import Derived.Stop.LaidErr
import Derived.Deep.DeepHandedRow
import Derived.Lib.LaidU8
import Derived.LaidSub
import Derived.Deep.Slices
import Derived.Deep.Fields
import Derived.ChangeSame
import Derived.Shelf.SlSortCmp.NoneTotal
import Derived.Ground.SlsfProg
import Derived.Lib.SliceRun
import Derived.Lib.Walk
import Derived.Test.YtimcdikeajbabaaGreatDoorZCBox
import Derived.Test.YtimcdikeajbabaaGreatDoorZPatRd
import Derived.Test.YtimcdikeajbabaaGreatDoorZHasK
import Derived.Test.YtimcdikeajbabaaGreatDoorZKStart1
namespace Go.Proofs.YtimcdikeajbabaaGreatDoor
open Go.RowKit
set_option maxRecDepth 100000

def PartsAny (g : Nat) (line : Int) (F : Option Addr) (fs : List Fld) (c k : Nat) (pr : Option Prob) (w : World) (e : Ending) (w' : World) : Prop :=
  ∃ (zs : List ByteArray) (A : Option Addr) (n k' : Nat), e = .returned (.slice A zs.length n) ∧ PcsAt w' w.heap.size A zs ∧ Scan w' g line F fs.length c k' pr ∧ Only g w w' ∧ 1 ≤ k' ∧ k' ≤ k + 1 ∧ zs.length ≤ 1073741825 ∧ (∀ z ∈ zs, z.size < 1073741824) ∧ (pr = none → k' = k + 1 ∧ zs = partsOf (textAt fs k))
theorem parts_any (B g : Nat) (line : Int) (F : Option Addr) (fs : List Fld) (c k : Nat) (pr : Option Prob) (w : World) (hS : Std w) (h : Scan w g line F fs.length c k pr) (hF : FieldsAt B w F fs) (h2 : k < fs.length) (hm : fs.length ≤ 1000) (hB : B ≤ g) (hG : 12 ≤ g) (h1 : ∀ p, pr = some p → 1 ≤ k) (hs : (textAt fs k).size < 1073741824) :
    Calls Tryz.prog 109 #[.pointer (some ⟨g, 0, none⟩), .string ⟨#[59]⟩] w fun e w' => PartsAny g line F fs c k pr w e w' := by
  cases pr with
  | none =>
    refine (fparts_go B g line F fs c k w hS h hF h2 hm hB hG hs).mono ?_
    rintro e w' ⟨A, n, rfl, hp, hsc, ho⟩
    exact ⟨_, A, n, k + 1, rfl, hp, hsc, ho, by omega, Nat.le_refl _, by have := partsOf_len (textAt fs k); omega, fun z hz => by have := partsOf_mem _ z hz; omega, fun _ => ⟨rfl, rfl⟩⟩
  | some p =>
    have hk := h1 p rfl
    have hst := fun V h' => fnext_stop g line F fs.length c k p V h'
    go_enter Tryz.func109, Tryz.ntmps109
    go_wp2_with fail
    refine (hst _ h).mono ?_
    rintro e w1 ⟨rfl, rfl⟩
    go_wp2
    go_ret
    exact ⟨[], none, 0, k, rfl, fun hn => absurd hn (by simp), h, Only.refl g w, hk, by omega, by decide, (fun z hz => by cases hz), fun hp => by cases hp⟩
def StartsAny (d sl len : Int) (g : Nat) (line : Int) (F : Option Addr) (fs : List Fld) (c k : Nat) (pr : Option Prob) (w : World) (e : Ending) (w' : World) : Prop :=
  ∃ (k' : Nat) (ss : List (Int × Int)) (v : Value) (pr' : Option Prob), e = .returned v ∧ Own kStart 70 [] 0 w.heap.size w' v (ascP ss) ∧ Scan w' g line F fs.length c k' pr' ∧ Only g w w' ∧ k' ≤ k + 1 ∧
    (pr = none → k' = k + 1 ∧ ss = (partsOf (textAt fs k)).map (startP d sl len) ∧ pr' = probOf line (colAt fs (k + 1)) (startsRE d sl len (partsOf (textAt fs k)))) ∧ (∀ p, pr = some p → pr' = some p)
def StLoop (d sl len : Int) (zs : List ByteArray) (B : Nat) (w1 : World) (g : Nat) (line col : Int) (F : Option Addr) (q c k : Nat) (pr0 : Option Prob) (v i : Value) (wr : World) : Prop :=
  ∃ j : Nat, j ≤ zs.length ∧ i = .int .i64 j ∧ Own kStart 70 [] 0 B wr v ((zs.take j).map (startP d sl len)) ∧ Scan wr g line F q c k (orP pr0 (probOf line col (firstE (startE d sl len) (zs.take j)))) ∧ Only g w1 wr
theorem starts_total (d sl len : Int) (zs : List ByteArray) {a : Int} (ha : a = if 24 < zs.length then (if firstE (startE d sl len) zs = 0 then 2 else firstE (startE d sl len) zs) else firstE (startE d sl len) zs) :
    (nextDiff (ascP (zs.map (startP d sl len))) = true → a = startsRE d sl len zs) ∧ (nextDiff (ascP (zs.map (startP d sl len))) = false → (if a = 0 then 11 else a) = startsRE d sl len zs) := by
  rw [ascP_next, List.length_map, ha]
  unfold startsRE
  constructor
  · intro h
    rw [h]
    by_cases h0 : firstE (startE d sl len) zs = 0
    · by_cases h8 : 24 < zs.length
      · simp [h0, h8]
      · simp [h0, h8]
    · by_cases h8 : 24 < zs.length
      · simp [h0, h8]
      · simp [h0, h8]
  · intro h
    rw [h]
    by_cases h0 : firstE (startE d sl len) zs = 0
    · by_cases h8 : 24 < zs.length
      · simp [h0, h8]
      · simp [h0, h8]
    · by_cases h8 : 24 < zs.length
      · simp [h0, h8]
      · simp [h0, h8]
set_option maxHeartbeats 8000000 in
theorem readStarts_walk (B g : Nat) (line : Int) (F : Option Addr) (fs : List Fld) (c k : Nat) (d sl b m len0 : Int) (pr : Option Prob) (w : World) (hS : Std w) (h : Scan w g line F fs.length c k pr) (hF : FieldsAt B w F fs) (h2 : k < fs.length) (hm : fs.length ≤ 1000) (hB : B ≤ g) (hG : 12 ≤ B) (h1 : ∀ p, pr = some p → 1 ≤ k) (hsz : (textAt fs k).size < 1073741824) (hsl : 1 ≤ sl ∧ sl ≤ 24) (hl0 : 0 ≤ len0 ∧ len0 ≤ 100) :
    Calls Tryz.prog 72 #[.pointer (some ⟨g, 0, none⟩), .int .i64 len0, .agg #[.int .i64 d, .int .i64 sl, .int .i64 b, .int .i64 m]] w fun e w' => StartsAny d sl len0 g line F fs c k pr w e w' := by
  have hgl := h.lt
  have hb0 : Below w.heap.size w (w.alloc (.cells #[.int .i64 d, .int .i64 sl, .int .i64 b, .int .i64 m] 24)) := ext_alloc (Below.refl _ _) _
  have bG := Box4.new w 24 (.int .i64 d) (.int .i64 sl) (.int .i64 b) (.int .i64 m)
  have hparts := parts_any B g line F fs c k pr _ (hS.after hb0) (h.later hb0) (hF.below (hb0.mono (by omega))) h2 hm hB (by omega) h1 hsz
  have hF00 := hF.below (hb0.mono (by omega) : Below B _ _)
  have hS00 := hS.after hb0
  have hz0 : (w.alloc (.cells #[.int .i64 d, .int .i64 sl, .int .i64 b, .int .i64 m] 24)).heap.size = w.heap.size + 1 := World.size_alloc _ _
  obtain ⟨gb, hgb⟩ : ∃ gb, w.heap.size = gb := ⟨_, rfl⟩
  obtain ⟨W, hWW⟩ : ∃ W, w.alloc (.cells #[.int .i64 d, .int .i64 sl, .int .i64 b, .int .i64 m] 24) = W := ⟨_, rfl⟩
  rw [hWW] at hb0 bG hparts hF00 hS00 hz0
  rw [hgb] at bG
  have hF0 := hF
  have hgg : gb ≠ g := by omega
  replace hWW := hide hWW
  replace hgb := hide hgb
  clear h hF hS
  go_enter Tryz.func72, Tryz.ntmps72
  go_wp2_with fail
  rw [hWW.out, hgb.out]
  refine hparts.mono ?_
  clear hparts
  rintro e w1 ⟨zs, A, cap, k1, rfl, hA, hs1, ho1, i1, j1, hzl, hzm, hnone⟩
  have hS1 := ho1.std hS00 (by omega)
  have hF1 := hF00.only ho1 hB (by omega)
  have bG1 := bG.only ho1 hgg
  have ho2 : Only g w w1 := (only_of_below hb0 _).trans ho1
  have hz2 := ho1.size
  obtain ⟨col, hcol⟩ : ∃ col, colAt fs k1 = col := ⟨_, rfl⟩
  obtain ⟨len, hlen⟩ : ∃ len, zs.length = len := ⟨_, rfl⟩
  rw [hlen] at hzl ⊢
  have hgb1 : gb < w1.heap.size := bG1.lt
  obtain ⟨w2, hren⟩ : ∃ w2, w2 = w1 := ⟨_, rfl⟩
  subst hren
  replace hlen := hide hlen
  replace hcol := hide hcol
  replace hzm := hide hzm
  replace hnone := hide hnone
  replace hA := hide hA
  clear ho1 hS00 hF00 bG
  go_wp2_with fail
  go_loopw [7, 15] (fun v i wr => StLoop d sl len0 zs w2.heap.size w2 g line col F fs.length c k1 pr v i wr) (fun _ i _ => len - (intOf i).toNat)
  case atStart => exact ⟨0, Nat.zero_le _, rfl, Own.nil, by rw [List.take_zero]; show Scan w2 g line F fs.length c k1 (orP pr (probOf line col 0)); cases pr <;> exact hs1, World.grownBy.refl _ _⟩
  case round =>
    obtain ⟨j, hj, rfl, hown, hsr, hor⟩ := hrel
    rw [hlen.out] at hj
    by_cases hlt : j < len
    · obtain ⟨z, hzj⟩ : ∃ z, zs[j]? = some z := ⟨_, List.getElem?_eq_getElem (by rw [hlen.out]; exact hlt)⟩
      have hzz := hzm.out z (List.mem_of_getElem? hzj)
      obtain ⟨pb, rfl, q1, q2, hcl⟩ := (hA.out.only hor (by omega)) (by rw [hlen.out]; omega)
      have hcj := hcl j z hzj
      clear hcl
      have bGr := bG1.only hor hgg
      obtain ⟨a0, a1, a2, a3⟩ := bGr
      have hSr := hor.std hS1 (by omega)
      have hFr := hF1.only hor hB (by omega)
      have hwr := hor.size
      have hgbr : gb < wr.heap.size := by omega
      have hj0 : (0 : Int) ≤ (j : Int) := by omega
      have hj1 : (j : Int) < (len : Int) := by omega
      have hcall := start_walk z d sl b m len0 wr hSr hzz hl0 hsl
      obtain ⟨⟨⟨x1, x2⟩, er⟩, hT⟩ : ∃ V, startV d sl len0 z = V := ⟨_, rfl⟩
      have hts : Hid ((zs.take (j + 1)).map (startP d sl len0) = (zs.take j).map (startP d sl len0) ++ [(x1, x2)]) := hide ((take_map _ zs j z hzj).trans (by unfold startP; rw [hT]))
      have hes : Hid (firstE (startE d sl len0) (zs.take (j + 1)) = if firstE (startE d sl len0) (zs.take j) = 0 then er else firstE (startE d sl len0) (zs.take j)) := hide ((take_first _ zs j z hzj).trans (by unfold startE; rw [hT]))
      rw [hT] at hcall
      dsimp only at hcall
      obtain ⟨ps, hps⟩ : ∃ ps, (zs.take j).map (startP d sl len0) = ps := ⟨_, rfl⟩
      have htl : ps.length ≤ j := by rw [← hps, List.length_map]; exact List.length_take_le _ _
      rw [hps] at hown hts
      obtain ⟨e0, he0⟩ : ∃ e0, firstE (startE d sl len0) (zs.take j) = e0 := ⟨_, rfl⟩
      rw [he0] at hsr hes
      clear hps he0 hzj hT
      go_wp2_with fail
      refine hcall.mono ?_
      rintro e w3 ⟨rfl, hb3⟩
      have hs3 := (hsr.later hb3).later (ext_alloc (Below.refl _ _) (.cells #[.int .i64 x1, .int .i64 x2] 70))
      have hF3 := (hFr.below (hb3.mono (by omega))).below ((ext_alloc (Below.refl _ _) (.cells #[.int .i64 x1, .int .i64 x2] 70) : Below w3.heap.size w3 _).mono (by have := hb3.size; omega))
      have hown3 := (hown.later hb3).alloc (.cells #[.int .i64 x1, .int .i64 x2] 70)
      have ho3 := Only.later (hor.later hb3) (ext_alloc (Below.refl _ _) (.cells #[.int .i64 x1, .int .i64 x2] 70))
      have hz3 := hb3.size
      have t0 : (w3.alloc (.cells #[.int .i64 x1, .int .i64 x2] 70)).cell? ⟨w3.heap.size, 0, none⟩ = some (.int .i64 x1) := by simp
      have t1 : (w3.alloc (.cells #[.int .i64 x1, .int .i64 x2] 70)).cell? ⟨w3.heap.size, 1, none⟩ = some (.int .i64 x2) := by simp
      have hza : (w3.alloc (.cells #[.int .i64 x1, .int .i64 x2] 70)).heap.size = w3.heap.size + 1 := World.size_alloc _ _
      clear hcall hown hsr hor hFr hSr hb3 hcj
      go_wp2_with fail
      refine (fail_walk B g line F fs c k1 _ er _ hs3 hF3 i1 (by omega) hm).mono ?_
      rintro e w4 ⟨rfl, hs4, ho4⟩
      rw [hcol.out, noted_or] at hs4
      have hown4 := hown3.noteT ho4 (by omega)
      have t04 := (ho4.cell (by omega) (by omega)).trans t0
      have t14 := (ho4.cell (by omega) (by omega)).trans t1
      have ho4' := ho3.trans ho4
      have hz4 := ho4.size
      have hb4l : w3.heap.size < w4.heap.size := by omega
      clear hown3 hs3 ho3 ho4 hF3 t0 t1
      go_wp2_with (at_builtin; refine wpList_own (K := kStart) (t := 70) (ts := []) (B0 := 0) (B := w2.heap.size) rfl _ _ rfl apd_st (by decide) rfl (hown4.alloc _) (by omega) (by decide) ⟨w4.heap.size, 0, none⟩ 1 rfl (x1, x2) [.int .i64 x1, .int .i64 x2] (start_rep _ _) (World.news_of_block (cs := #[.int .i64 x1, .int .i64 x2]) (t := 70) (fr := (0, 0)) (heap_alloc_new _ _)) (by decide) (Nat.zero_le _) (by rw [World.size_alloc]; omega) ?_; intro v' w5 hown5 hgrow)
      have hfar : some g ≠ u7.ownBlock := fun e => by have := (hown4.lt g e.symm).1; omega
      have hs5 : Scan w5 g line F fs.length c k1 (orP pr (probOf line col (if e0 = 0 then er else e0))) := by
        obtain ⟨vss, e1, e2, e3⟩ := hown4
        exact (hs4.later (ext_alloc (Below.refl _ _) _)).grown (e2.alloc _) hgrow hfar (by decide)
      have ho5 : Only g w2 w5 := (Only.later ho4' (ext_alloc (Below.refl _ _) _)).trans_own hgrow (fun x e => (hown4.lt x e).1)
      clear hown4 hs4 ho4' hgrow hfar
      go_wp2
      go_roundw
      case rel => exact ⟨j + 1, by rw [hlen.out]; omega, by go_num, by rw [hts.out]; exact hown5, by rw [hes.out]; exact hs5, ho5⟩
      case measure => simp [intOf]; omega
    · obtain rfl : j = len := by omega
      have hall : zs.take j = zs := by rw [← hlen.out]; exact List.take_length
      rw [hall] at hown hsr
      obtain ⟨E0, hE0⟩ : ∃ E0, firstE (startE d sl len0) zs = E0 := ⟨_, rfl⟩
      rw [hE0] at hsr
      have hFr := hF1.only hor hB (by omega)
      have how := ho2.trans hor
      have hwr := hor.size
      have hmap : (zs.map (startP d sl len0)).length = j := by rw [List.length_map]; exact hlen.out
      obtain ⟨A6, c6, rfl⟩ := hown.form
      rw [hmap] at hown ⊢
      clear hall hzm hA
      by_cases h8 : 24 < j
      · have h8i : (24 : Int) < (j : Int) := by omega
        go_wp2_with fail
        refine (fail_walk B g line F fs c k1 _ 2 _ hsr hFr i1 (by omega) hm).mono ?_
        rintro e wq ⟨rfl, hsq, ho3⟩
        rw [hcol.out, noted_or] at hsq
        have hoq := how.trans ho3
        have hownq := hown.noteT ho3 (by omega)
        have hFq := hFr.only ho3 hB (by omega)
        have hzq := ho3.size
        obtain ⟨a, ha⟩ : ∃ a, (if E0 = 0 then 2 else E0) = a := ⟨_, rfl⟩
        rw [ha] at hsq
        have htot : Hid (a = if 24 < zs.length then (if firstE (startE d sl len0) zs = 0 then 2 else firstE (startE d sl len0) zs) else firstE (startE d sl len0) zs) := hide (by rw [hlen.out, if_pos h8, hE0]; exact ha.symm)
        clear hown hsr hFr how ho3 ha hor hE0 hmap
        (
            obtain ⟨ss, hss⟩ : ∃ ss, zs.map (startP d sl len0) = ss := ⟨_, rfl⟩
            have hsl2 : ss.length = j := by rw [← hss, List.length_map]; exact hlen.out
            rw [hss] at hownq
            have hsort := sortS_walk w2.heap.size A6 c6 ss wq (by omega) (by rw [hsl2]; exact hownq)
            unfold SortedGives at hsort
            rw [hsl2] at hsort
            have hlo : ∀ y, (Value.slice A6 j c6).ownBlock = some y → w2.heap.size ≤ y := fun y hy => (hownq.lt y hy).1
            replace hss := hide hss
            replace hsl2 := hide hsl2
            go_wp2_with fail
            refine hsort.mono ?_
            clear hsort
            rintro e w5 ⟨rfl, how5, hg5⟩
            have hs5 : Scan w5 g line F fs.length c k1 (orP pr (probOf line col a)) := by
              obtain ⟨vss, -, e2, -⟩ := hownq
              exact hsq.grown e2 hg5 (fun e => by have := hlo g e.symm; omega) (by decide)
            have ho5 : Only g w w5 := Only.trans_own hoq hg5 (fun x e => by have := hlo x e; omega)
            have hF5 := hF0.only ho5 hB (by omega)
            have hz5 := ho5.size
            have hz25 : w2.heap.size ≤ w5.heap.size := by have := hg5.size; omega
            clear hownq hsq hoq hg5 hFq
            have hclone := cloneS_walk w2.heap.size A6 (ascP ss) j c6 w5 (by rw [ascG_len, hsl2.out]) (by omega) how5
            go_wp2_with fail
            refine hclone.mono ?_
            clear hclone
            rintro e w6 ⟨A7, c7, rfl, how6, hb6⟩
            have hcomp := compown_walk w5.heap.size A7 (ascP ss) j c7 w6 (by rw [ascG_len, hsl2.out]) (by omega) how6
            go_wp2_with fail
            refine hcomp.mono ?_
            clear hcomp
            rintro e w7 ⟨A8, m8, c8, rfl, hm1, hm2, hm3, hg7⟩
            have hb7 : Below w5.heap.size w5 w7 := Below.grown hb6 hg7 hb6.size (fun y hy => (how6.lt y hy).1)
            have hs7 := hs5.later hb7
            have ho7 := Only.later ho5 hb7
            have how7 := how5.later hb7
            have hF7 := hF5.below (hb7.mono (by omega))
            have hz7 := hb7.size
            have hfin := hide (starts_total d sl len0 zs htot.out)
            rw [hss.out] at hfin
            clear hs5 ho5 how5 hb6 how6 hg7 hF5 hb7
            cases hnd : nextDiff (ascP ss) with
            | true =>
              have hmi : ¬ (m8 : Int) < (j : Int) := by have := hm2 hnd; omega
              have hea := hide (hfin.out.1 hnd)
              clear hm1 hm2 hm3 hnd hfin
              go_wp2_with fail
              go_ret
              exact ⟨k1, ss, _, _, rfl, how7.lower (by omega), hs7, ho7, j1, (fun hp => by
                obtain ⟨e1, e2⟩ := hnone.out hp
                subst hp
                refine ⟨e1, by rw [← e2, hss.out], ?_⟩
                rw [← e2, ← e1, hcol.out, hea.out]
                rfl), fun p hp => by subst hp; rfl⟩
            | false =>
              have hmi : (m8 : Int) < (j : Int) := by have := hm3 hnd; omega
              have hea := hide (hfin.out.2 hnd)
              clear hm1 hm2 hm3 hnd hfin
              go_wp2_with fail
              refine (fail_walk B g line F fs c k1 _ 11 _ hs7 hF7 i1 (by omega) hm).mono ?_
              rintro e w8 ⟨rfl, hs8, ho8⟩
              rw [hcol.out, noted_or] at hs8
              have how8 := how7.noteT ho8 (by omega)
              have ho9 := ho7.trans ho8
              clear hs7 ho7 how7 ho8
              go_wp2_with fail
              go_ret
              exact ⟨k1, ss, _, _, rfl, how8.lower (by omega), hs8, ho9, j1, (fun hp => by
                obtain ⟨e1, e2⟩ := hnone.out hp
                subst hp
                refine ⟨e1, by rw [← e2, hss.out], ?_⟩
                rw [← e2, ← e1, hcol.out, hea.out]
                rfl), fun p hp => by subst hp; rfl⟩)
      · have h8i : ¬ (24 : Int) < (j : Int) := by omega
        have hsq := hsr
        have hoq := how
        have hownq := hown
        have hFq := hFr
        have hzq := Nat.le_refl wr.heap.size
        obtain ⟨a, ha⟩ : ∃ a, E0 = a := ⟨_, rfl⟩
        rw [ha] at hsq
        have htot : Hid (a = if 24 < zs.length then (if firstE (startE d sl len0) zs = 0 then 2 else firstE (startE d sl len0) zs) else firstE (startE d sl len0) zs) := hide (by rw [hlen.out, if_neg h8, hE0]; exact ha.symm)
        clear hown hsr hFr how ha hor hE0 hmap
        obtain ⟨wq, hren⟩ : ∃ wq, wq = wr := ⟨_, rfl⟩
        subst hren
        (
            obtain ⟨ss, hss⟩ : ∃ ss, zs.map (startP d sl len0) = ss := ⟨_, rfl⟩
            have hsl2 : ss.length = j := by rw [← hss, List.length_map]; exact hlen.out
            rw [hss] at hownq
            have hsort := sortS_walk w2.heap.size A6 c6 ss wq (by omega) (by rw [hsl2]; exact hownq)
            unfold SortedGives at hsort
            rw [hsl2] at hsort
            have hlo : ∀ y, (Value.slice A6 j c6).ownBlock = some y → w2.heap.size ≤ y := fun y hy => (hownq.lt y hy).1
            replace hss := hide hss
            replace hsl2 := hide hsl2
            go_wp2_with fail
            refine hsort.mono ?_
            clear hsort
            rintro e w5 ⟨rfl, how5, hg5⟩
            have hs5 : Scan w5 g line F fs.length c k1 (orP pr (probOf line col a)) := by
              obtain ⟨vss, -, e2, -⟩ := hownq
              exact hsq.grown e2 hg5 (fun e => by have := hlo g e.symm; omega) (by decide)
            have ho5 : Only g w w5 := Only.trans_own hoq hg5 (fun x e => by have := hlo x e; omega)
            have hF5 := hF0.only ho5 hB (by omega)
            have hz5 := ho5.size
            have hz25 : w2.heap.size ≤ w5.heap.size := by have := hg5.size; omega
            clear hownq hsq hoq hg5 hFq
            have hclone := cloneS_walk w2.heap.size A6 (ascP ss) j c6 w5 (by rw [ascG_len, hsl2.out]) (by omega) how5
            go_wp2_with fail
            refine hclone.mono ?_
            clear hclone
            rintro e w6 ⟨A7, c7, rfl, how6, hb6⟩
            have hcomp := compown_walk w5.heap.size A7 (ascP ss) j c7 w6 (by rw [ascG_len, hsl2.out]) (by omega) how6
            go_wp2_with fail
            refine hcomp.mono ?_
            clear hcomp
            rintro e w7 ⟨A8, m8, c8, rfl, hm1, hm2, hm3, hg7⟩
            have hb7 : Below w5.heap.size w5 w7 := Below.grown hb6 hg7 hb6.size (fun y hy => (how6.lt y hy).1)
            have hs7 := hs5.later hb7
            have ho7 := Only.later ho5 hb7
            have how7 := how5.later hb7
            have hF7 := hF5.below (hb7.mono (by omega))
            have hz7 := hb7.size
            have hfin := hide (starts_total d sl len0 zs htot.out)
            rw [hss.out] at hfin
            clear hs5 ho5 how5 hb6 how6 hg7 hF5 hb7
            cases hnd : nextDiff (ascP ss) with
            | true =>
              have hmi : ¬ (m8 : Int) < (j : Int) := by have := hm2 hnd; omega
              have hea := hide (hfin.out.1 hnd)
              clear hm1 hm2 hm3 hnd hfin
              go_wp2_with fail
              go_ret
              exact ⟨k1, ss, _, _, rfl, how7.lower (by omega), hs7, ho7, j1, (fun hp => by
                obtain ⟨e1, e2⟩ := hnone.out hp
                subst hp
                refine ⟨e1, by rw [← e2, hss.out], ?_⟩
                rw [← e2, ← e1, hcol.out, hea.out]
                rfl), fun p hp => by subst hp; rfl⟩
            | false =>
              have hmi : (m8 : Int) < (j : Int) := by have := hm3 hnd; omega
              have hea := hide (hfin.out.2 hnd)
              clear hm1 hm2 hm3 hnd hfin
              go_wp2_with fail
              refine (fail_walk B g line F fs c k1 _ 11 _ hs7 hF7 i1 (by omega) hm).mono ?_
              rintro e w8 ⟨rfl, hs8, ho8⟩
              rw [hcol.out, noted_or] at hs8
              have how8 := how7.noteT ho8 (by omega)
              have ho9 := ho7.trans ho8
              clear hs7 ho7 how7 ho8
              go_wp2_with fail
              go_ret
              exact ⟨k1, ss, _, _, rfl, how8.lower (by omega), hs8, ho9, j1, (fun hp => by
                obtain ⟨e1, e2⟩ := hnone.out hp
                subst hp
                refine ⟨e1, by rw [← e2, hss.out], ?_⟩
                rw [← e2, ← e1, hcol.out, hea.out]
                rfl), fun p hp => by subst hp; rfl⟩)
end Go.Proofs.YtimcdikeajbabaaGreatDoor
