/- Walk of coursefile.readPatterns, whether a problem is noted or not. Conditions: the scanner's cells are as Scan says; a text shorter than 2^30 bytes. Walks of Scanner.Number, whether a problem is noted or not: at most so many digits, of which the first may be 0; and the bound of a length. Conditions: at most 18 digits. Walk of coursefile.start. Conditions: a text shorter than 2^30 bytes; a grid's bounds. -/
import Derived.Test.YtimcdikeajbabaaGreatDoorRows
import Derived.WalkKit
import Derived.WalkSpells
import Derived.WalkLawsBesides
import Derived.BigGuardPart
import Derived.Lib.Hide
import Derived.Laws.BitsAllLaws
import Derived.Laws.BitsLemmas
import Derived.Lib.LaidTab
import Derived.Test.YtimcdikeajbabaaGreatDoorShelf
import Derived.Lib.ConvBytes
import Derived.Deep.QuietTactic
import Derived.BigQuiet
import Derived.Test.YtimcdikeajbabaaGreatDoorShelfS
import Derived.Laws.ResultCell
import Derived.RegionTactic
import Derived.BigRegion
import Derived.Deep.RegionHeld3
import Derived.Deep.DeepCutAuto
import Derived.Lib.SmallJoins
import Derived.Lib.SplitLaws
import Derived.Lib.CountLaws
import Derived.Lib.IndexMore
import Derived.Lib.Split
import Derived.Lib.Join
import Derived.Lib.ItoaNum
import Derived.Laws.AppendOwn
import Derived.Test.YtimcdikeajbabaaGreatDoorShelfT
import Derived.Lib.ItoaLen
import Derived.Lib.AppendIntMem
import Derived.Deep.AppendLies
import Derived.Lib.PathFns
import Derived.Maps.Range
import Derived.Lib.OwnBridge
import Derived.Sort.OwnSorted
import Derived.Sort.Walk0
import Derived.Test.YtimcdikeajbabaaGreatDoorCards
import Derived.Test.YtimcdikeajbabaaGreatDoorTie
import Derived.ProofKit
import Derived.OpenShut
import Derived.LaidMore
import Derived.Lay
import Derived.SevenTiedAt
import Derived.Stop.Joined
import Derived.Stop.LaidErr
import Derived.Deep.DeepHandedRow
import Derived.Lib.LaidU8
import Derived.LaidSub
import Derived.Deep.Slices
import Derived.Deep.Fields
import Derived.ChangeSame
import Derived.Test.YtimcdikeajbabaaGreatDoorUIdxS
import Derived.Test.YtimcdikeajbabaaGreatDoorUStartsC
import Derived.Test.YtimcdikeajbabaaGreatDoorUClsR
import Derived.Test.YtimcdikeajbabaaGreatDoorUROneP
import Derived.Test.YtimcdikeajbabaaGreatDoorUNumber
import Derived.Test.YtimcdikeajbabaaGreatDoorUSameL
import Derived.Test.YtimcdikeajbabaaGreatDoorURef5D
namespace Go.Proofs.YtimcdikeajbabaaGreatDoor
open Go.RowKit
set_option maxRecDepth 100000

theorem noted_or {pr0 : Option Prob} {line col a e : Int} : noted (orP pr0 (probOf line col a)) (decide (e ≠ 0)) (line, col, e) = orP pr0 (probOf line col (if a = 0 then e else a)) := by
  cases pr0 with
  | none => exact noted_prob line col a e
  | some p => rfl
/-- The error of doubles behind another. -/
def dupE (a : Int) (vs : List Int) (i : Nat) : Int := if a ≠ 0 then a else if freshTo (0 : Int) vs i = false then 11 else 0
theorem dupE_hit {a : Int} {vs : List Int} {i : Nat} {x : Int} (hx : vs[i]? = some x) (hm : x ∈ vs.take i) : dupE a vs (i + 1) = if dupE a vs i = 0 then 11 else dupE a vs i := by
  have hf : freshTo (0 : Int) vs (i + 1) = false := by
    rw [freshTo, List.getD_eq_getElem?_getD, hx]
    show (_ && !decide (x ∈ vs.take i)) = false
    rw [decide_eq_true hm]; simp
  unfold dupE
  rw [hf]
  by_cases ha : a = 0
  · subst ha
    rw [if_neg (show ¬ ((0 : Int) ≠ 0) from fun h => h rfl)]
    simp only [ne_eq, not_true_eq_false, if_false]
    cases freshTo (0 : Int) vs i <;> simp
  · rw [if_pos ha, if_pos ha, if_neg ha]
theorem dupE_miss {a : Int} {vs : List Int} {i : Nat} {x : Int} (hx : vs[i]? = some x) (hm : x ∉ vs.take i) : dupE a vs (i + 1) = dupE a vs i := by
  have hf : freshTo (0 : Int) vs (i + 1) = freshTo 0 vs i := by
    rw [freshTo, List.getD_eq_getElem?_getD, hx]
    show (_ && !decide (x ∈ vs.take i)) = _
    rw [decide_eq_false hm]; simp
  unfold dupE
  rw [hf]
theorem slashOf_len (s : ByteArray) : (slashOf s).length ≤ s.size + 1 := by
  unfold slashOf
  rw [splitB_len]
  have := Lib.countB_le ⟨#[47]⟩ (Nat.le_refl 1) _ s (Nat.le_refl _)
  omega
theorem slashOf_mem (s : ByteArray) : ∀ z ∈ slashOf s, z.size ≤ s.size := fun _ hz => splitB_mem rfl hz
def PatAny (g : Nat) (line : Int) (F : Option Addr) (fs : List Fld) (c k : Nat) (n : Int) (pr : Option Prob) (w : World) (e : Ending) (w' : World) : Prop :=
  ∃ (k' : Nat) (ps : List Int) (v : Value) (pr' : Option Prob), e = .returned v ∧ Own kInt 3 [] 0 w.heap.size w' v ps ∧ Scan w' g line F fs.length c k' pr' ∧ Only g w w' ∧ 1 ≤ k' ∧ k' ≤ k + 1 ∧
    (pr = none → k' = k + 1 ∧ ps = (slashOf (textAt fs k)).map (patV n) ∧ pr' = probOf line (colAt fs (k + 1)) (patsRE n (slashOf (textAt fs k)))) ∧ (∀ p, pr = some p → pr' = some p)
theorem Own.noteT {α : Type} {K : Kind α} {t : TypeId} {g B : Nat} {w w' : World} {v : Value} {l : List α} (h : Own K t [] 0 B w v l) (ho : Only g w w') (hg : g < B) : Own K t [] 0 B w' v l :=
  h.kept ho (by
    cases hv : v.ownBlock with
    | none => exact .inl rfl
    | some y => exact .inr fun e => by injection e with e; have := (h.lt y hv).1; omega) (fun y _ => ⟨Nat.zero_le _, fun h => by obtain ⟨-, cs, t', -, ht⟩ := h; simp at ht⟩)
/-- The walk from behind Next on: the text is known, a problem may be noted. -/
def PatLoop (n : Int) (zs : List ByteArray) (B : Nat) (w1 : World) (g : Nat) (line col : Int) (F : Option Addr) (q c k : Nat) (pr0 : Option Prob) (v i : Value) (wr : World) : Prop :=
  ∃ j : Nat, j ≤ zs.length ∧ i = .int .i64 j ∧ Own kInt 3 [] 0 B wr v ((zs.take j).map (patV n)) ∧ Scan wr g line F q c k (orP pr0 (probOf line col (firstE (patE n) (zs.take j)))) ∧ Only g w1 wr
def DupLoop (vs : List Int) (a : Int) (w2 : World) (g : Nat) (line col : Int) (F : Option Addr) (q c k : Nat) (pr0 : Option Prob) (i : Value) (wr : World) : Prop :=
  ∃ j : Nat, j ≤ vs.length ∧ i = .int .i64 j ∧ Scan wr g line F q c k (orP pr0 (probOf line col (dupE a vs j))) ∧ Only g w2 wr
theorem pats_total (n : Int) (zs : List ByteArray) : dupE (if 8 < zs.length then (if firstE (patE n) zs = 0 then 2 else firstE (patE n) zs) else firstE (patE n) zs) (zs.map (patV n)) zs.length = patsRE n zs := by
  unfold dupE patsRE
  by_cases h0 : firstE (patE n) zs = 0
  · by_cases h8 : 8 < zs.length
    · simp [h0, h8]
    · simp [h0, h8]
  · by_cases h8 : 8 < zs.length
    · simp [h0, h8]
    · simp [h0, h8]
theorem next_any (B g : Nat) (line : Int) (F : Option Addr) (fs : List Fld) (c k : Nat) (pr : Option Prob) (w : World) (h : Scan w g line F fs.length c k pr) (hF : FieldsAt B w F fs) (h2 : k < fs.length) (hm : fs.length ≤ 1000) (hB : B ≤ g) (h1 : ∀ p, pr = some p → 1 ≤ k) (hsz : (textAt fs k).size < 1073741824) :
    Calls Tryz.prog 101 #[.pointer (some ⟨g, 0, none⟩)] w fun e w' => ∃ (s : ByteArray) (k' : Nat), e = .returned (.string s) ∧ Scan w' g line F fs.length c k' pr ∧ Only g w w' ∧ 1 ≤ k' ∧ k' ≤ k + 1 ∧ s.size < 1073741824 ∧ (pr = none → k' = k + 1 ∧ s = textAt fs k) := by
  cases pr with
  | none => exact (fnext_go B g line F fs c k w h hF h2 hm hB).mono fun e w' ⟨he, hs, ho⟩ => ⟨_, _, he, hs, ho, by omega, Nat.le_refl _, hsz, fun _ => ⟨rfl, rfl⟩⟩
  | some p => exact (fnext_stop g line F fs.length c k p w h).mono fun e w' ⟨he, hw⟩ => ⟨_, k, he, hw ▸ h, hw ▸ Only.refl g w, h1 p rfl, by omega, by decide, fun hp => by cases hp⟩
theorem apd_intsP : Apd Tryz.prog 36 3 1 8 := apd Tryz.underlying36 (z := .int .i64 0) (by kernel_rfl) rfl
set_option maxHeartbeats 4000000 in
theorem readPats_walk (B g : Nat) (line : Int) (F : Option Addr) (fs : List Fld) (c k : Nat) (n : Int) (pr : Option Prob) (w : World) (hS : Std w) (h : Scan w g line F fs.length c k pr) (hF : FieldsAt B w F fs) (h2 : k < fs.length) (hm : fs.length ≤ 1000) (hB : B ≤ g) (hG : 12 ≤ B) (h1 : ∀ p, pr = some p → 1 ≤ k) (hsz : (textAt fs k).size < 1073741824) :
    Calls Tryz.prog 69 #[.pointer (some ⟨g, 0, none⟩), .int .i64 n] w fun e w' => PatAny g line F fs c k n pr w e w' := by
  have hgl := h.lt
  go_enter Tryz.func69, Tryz.ntmps69
  go_wp2_with fail
  refine (next_any B g line F fs c k pr w h hF h2 hm hB h1 hsz).mono ?_
  rintro e w1 ⟨s, k1, rfl, hs1, ho1, i1, j1, hs30, hnone⟩
  obtain ⟨zs, hz⟩ : ∃ zs, slashOf s = zs := ⟨_, rfl⟩
  have hzl : zs.length ≤ 1073741825 := by have := slashOf_len s; rw [hz] at this; omega
  have hzm : ∀ z ∈ zs, z.size < 1073741824 := by have := slashOf_mem s; rw [hz] at this; intro z hh; have := this z hh; omega
  have hS1 := ho1.std hS (by omega)
  have hF1 := hF.only ho1 hB (by omega)
  have hz1 := ho1.size
  clear h hF hS
  go_wp2_with fail
  refine (split_walk' 47 s zs hz (by omega) w1 hS1).mono ?_
  rintro e w2 ⟨rfl, hb2, hcl⟩
  have hs2 := hs1.later hb2
  have ho2 : Only g w w2 := Only.later ho1 hb2
  have hS2 := hS1.after hb2
  have hF2 := hF1.below (hb2.mono (by omega))
  obtain ⟨pb, hpb⟩ : ∃ pb, w1.heap.size = pb := ⟨_, rfl⟩
  rw [hpb] at hcl ⊢
  have hz2 := hb2.size
  obtain ⟨len, hlen⟩ : ∃ len, zs.length = len := ⟨_, rfl⟩
  rw [hlen] at hzl ⊢
  obtain ⟨col, hcol⟩ : ∃ col, colAt fs k1 = col := ⟨_, rfl⟩
  have hgb : g < pb := by omega
  have hpl : 0 < len → pb < w2.heap.size := fun hl => by
    obtain ⟨z, hzz⟩ : ∃ z, zs[0]? = some z := ⟨_, List.getElem?_eq_getElem (by omega)⟩
    exact World.block_lt_of_cell? _ _ (hcl 0 z hzz)
  replace hlen := hide hlen
  replace hcol := hide hcol
  replace hz := hide hz
  replace hzm := hide hzm
  replace hcl := hide hcl
  replace hpb := hide hpb
  replace hnone := hide hnone
  clear hs1 ho1 hS1 hF1 hb2
  go_wp2_with fail
  go_loopw [5, 16] (fun v i wr => PatLoop n zs w2.heap.size w2 g line col F fs.length c k1 pr v i wr) (fun _ i _ => len - (intOf i).toNat)
  case atStart => exact ⟨0, Nat.zero_le _, rfl, Own.nil, by rw [List.take_zero]; show Scan w2 g line F fs.length c k1 (orP pr (probOf line col 0)); cases pr <;> exact hs2, World.grownBy.refl _ _⟩
  case round =>
    obtain ⟨j, hj, rfl, hown, hsr, hor⟩ := hrel
    rw [hlen.out] at hj
    by_cases hlt : j < len
    · obtain ⟨z, hzj⟩ : ∃ z, zs[j]? = some z := ⟨_, List.getElem?_eq_getElem (by rw [hlen.out]; exact hlt)⟩
      have hzz := hzm.out z (List.mem_of_getElem? hzj)
      have hpw : pb < w2.heap.size := hpl (by omega)
      have hcj := (hor.cell hpw (by omega)).trans (hcl.out j z hzj)
      have hSr := hor.std hS2 (by omega)
      have hFr := hF2.only hor hB (by omega)
      have hwr := hor.size
      have hpr : pb < wr.heap.size := by omega
      have hj0 : (0 : Int) ≤ (j : Int) := by omega
      have hj1 : (j : Int) < (len : Int) := by omega
      obtain ⟨p, hp⟩ : ∃ p, (parseV z n).1 = p := ⟨_, rfl⟩
      obtain ⟨er, her⟩ : ∃ er, (parseV z n).2 = er := ⟨_, rfl⟩
      have hts : Hid ((zs.take (j + 1)).map (patV n) = (zs.take j).map (patV n) ++ [(p : Int)]) := hide ((take_map _ zs j z hzj).trans (by unfold patV; rw [hp]))
      have hes : Hid (firstE (patE n) (zs.take (j + 1)) = if firstE (patE n) (zs.take j) = 0 then (er : Int) else firstE (patE n) (zs.take j)) := hide ((take_first _ zs j z hzj).trans (by unfold patE; rw [her]))
      have hcall := wsParse_walk z n hzz wr hSr
      rw [hp, her] at hcall
      obtain ⟨ps, hps⟩ : ∃ ps, (zs.take j).map (patV n) = ps := ⟨_, rfl⟩
      have htl : ps.length ≤ j := by rw [← hps, List.length_map]; exact List.length_take_le _ _
      rw [hps] at hown hts
      obtain ⟨e0, he0⟩ : ∃ e0, firstE (patE n) (zs.take j) = e0 := ⟨_, rfl⟩
      rw [he0] at hsr hes
      clear hps he0 hzj hp her
      go_wp2_with fail
      refine hcall.mono ?_
      rintro e w3 ⟨rfl, hb3⟩
      have hs3 := hsr.later hb3
      have hF3 := hFr.below (hb3.mono (by omega))
      have hown3 := hown.later hb3
      have ho3 := hor.later hb3
      have hz3 := hb3.size
      clear hcall hown hsr hor hFr hSr hb3 hcj
      go_wp2_with fail
      refine (fail_walk B g line F fs c k1 _ er w3 hs3 hF3 i1 (by omega) hm).mono ?_
      rintro e w4 ⟨rfl, hs4, ho4⟩
      rw [hcol.out, noted_or] at hs4
      have hown4 := hown3.noteT ho4 (by omega)
      have ho4' := ho3.trans ho4
      have hz4 := ho4.size
      clear hown3 hs3 ho3 ho4 hF3
      go_wp2_with (at_builtin; refine wpList_own (K := kInt) (t := 3) (ts := []) (B0 := 0) (B := w2.heap.size) rfl _ _ rfl apd_intsP (by decide) rfl (hown4.alloc _) (by omega) (by decide) ⟨w4.heap.size, 0, none⟩ 1 rfl (p : Int) [.int .i64 (p : Int)] rfl (World.news_of_block (cs := #[.int .i64 (p : Int)]) (t := 3) (fr := (0, 0)) (heap_alloc_new _ _)) (by decide) (Nat.zero_le _) (by rw [World.size_alloc]; omega) ?_; intro v' w5 hown5 hgrow)
      have hfar : some g ≠ u5.ownBlock := fun e => by have := (hown4.lt g e.symm).1; omega
      have hs5 : Scan w5 g line F fs.length c k1 (orP pr (probOf line col (if e0 = 0 then (er : Int) else e0))) := by
        obtain ⟨vss, e1, e2, e3⟩ := hown4
        exact (hs4.later (ext_alloc (Below.refl _ _) _)).grown (e2.alloc _) hgrow hfar (by decide)
      have ho5 : Only g w2 w5 := (Only.later ho4' (ext_alloc (Below.refl _ _) _)).trans_own hgrow (fun x e => (hown4.lt x e).1)
      clear hown4 hs4 ho4' hgrow hfar
      go_wp2
      go_roundw
      case rel => exact ⟨j + 1, by rw [hlen.out]; omega, by go_num, by rw [hts.out]; exact hown5, by rw [hes.out]; exact hs5, ho5⟩
      case measure => simp [intOf]; omega
    · obtain rfl : j = len := by omega
      have hall : zs.take j = zs := by rw [← hlen.out]; exact List.take_length
      rw [hall] at hown hsr
      have htot0 := pats_total n zs
      obtain ⟨E0, hE0⟩ : ∃ E0, firstE (patE n) zs = E0 := ⟨_, rfl⟩
      obtain ⟨vs, hvs⟩ : ∃ vs, zs.map (patV n) = vs := ⟨_, rfl⟩
      have hvl : vs.length = j := by rw [← hvs, List.length_map]; exact hlen.out
      rw [hE0] at hsr htot0
      rw [hvs] at hown htot0
      rw [hlen.out] at htot0
      have hFr := hF2.only hor hB (by omega)
      have how := ho2.trans hor
      have hwr := hor.size
      obtain ⟨A6, c6, rfl, hcap, -⟩ := hown.any
      rw [hvl] at hown hcap ⊢
      have hvs' : vs = (slashOf s).map (patV n) := by rw [hz.out, hvs]
      replace hvs := hide hvs'
      replace hvl := hide hvl
      clear hvs' hall hE0 hcl hzm
      by_cases h8 : 8 < j
      · have h8i : (8 : Int) < (j : Int) := by omega
        rw [if_pos h8] at htot0
        go_wp2_with fail
        refine (fail_walk B g line F fs c k1 _ 2 _ hsr hFr i1 (by omega) hm).mono ?_
        rintro e wq ⟨rfl, hsq, ho3⟩
        rw [hcol.out, noted_or] at hsq
        have hoq := how.trans ho3
        have hownq := hown.noteT ho3 (by omega)
        have hFq := hFr.only ho3 hB (by omega)
        have hzq := ho3.size
        obtain ⟨a, ha⟩ : ∃ a, (if E0 = 0 then 2 else E0) = a := ⟨_, rfl⟩
        rw [ha] at hsq htot0
        have htot := hide htot0
        clear hown hsr hFr how ho3 ha htot0 hor
        go_wp2_with fail
        (
              go_loopw [41] (fun i W => DupLoop vs a wq g line col F fs.length c k1 pr i W) (fun i _ => j - (intOf i).toNat)
              case atStart => exact ⟨0, Nat.zero_le _, rfl, by
                have e : dupE a vs 0 = a := by unfold dupE; by_cases ha : a = 0; · rw [if_neg (by simp [ha])]; simp [freshTo, ha]
                                               · rw [if_pos ha]
                rw [e]; exact hsq, World.grownBy.refl _ _⟩
              case round =>
                obtain ⟨i, hi, rfl, hsr, hor⟩ := hrel
                rw [hvl.out] at hi
                have hFr := hFq.only hor hB (by omega)
                have hwr := hor.size
                by_cases hlt2 : i < j
                · obtain ⟨x, hx⟩ : ∃ x, vs[i]? = some x := ⟨_, List.getElem?_eq_getElem (by rw [hvl.out]; exact hlt2)⟩
                  have hatr := (hownq.noteT hor (by omega)).any'
                  obtain ⟨vb, vo, rfl, hvg, hvb, x0⟩ := hatr.int hx
                  have hj0 : (0 : Int) ≤ (i : Int) := by omega
                  have hj1 : (i : Int) < (j : Int) := by omega
                  have hic : (i : Int) ≤ (c6 : Int) := by omega
                  have hcon := icontains_walk (some ⟨vb, vo, none⟩) (vs.take i) c6 x wr (by rw [List.length_take]; omega) hatr.take.any
                  rw [List.length_take, hvl.out, Nat.min_eq_left hi] at hcon
                  by_cases hmm : x ∈ vs.take i
                  · have hd := hide (dupE_hit (a := a) hx hmm)
                    rw [decide_eq_true hmm] at hcon
                    clear hx hmm
                    go_wp2_with fail
                    refine hcon.mono ?_
                    rintro e W2 ⟨rfl, rfl⟩
                    go_wp2_with fail
                    refine (fail_walk B g line F fs c k1 _ 11 _ hsr hFr i1 (by omega) hm).mono ?_
                    rintro e W3 ⟨rfl, hs3, ho3⟩
                    rw [hcol.out, noted_or] at hs3
                    have ho4 := hor.trans ho3
                    clear hcon hsr hor ho3
                    go_wp2
                    go_roundw
                    case rel => exact ⟨i + 1, by rw [hvl.out]; omega, by go_num, by rw [hd.out]; exact hs3, ho4⟩
                    case measure => simp [intOf]; omega
                  · have hd := hide (dupE_miss (a := a) hx hmm)
                    rw [decide_eq_false hmm] at hcon
                    clear hx hmm
                    go_wp2_with fail
                    refine hcon.mono ?_
                    rintro e W2 ⟨rfl, rfl⟩
                    go_wp2
                    go_roundw
                    case rel => exact ⟨i + 1, by rw [hvl.out]; omega, by go_num, by rw [hd.out]; exact hsr, hor⟩
                    case measure => simp [intOf]; omega
                · obtain rfl : i = j := by omega
                  have howne := hownq.noteT hor (by omega)
                  have hoe := hoq.trans hor
                  clear hFr hFq
                  go_wp2
                  go_ret
                  exact ⟨k1, vs, _, _, rfl, howne.lower (by omega), hsr, hoe, i1, j1, (fun hp => by
                    obtain ⟨e1, e2⟩ := hnone.out hp
                    subst hp
                    refine ⟨e1, by rw [← e2]; exact hvs.out, ?_⟩
                    rw [← e2, ← e1, hcol.out]
                    show probOf line col (dupE a vs i) = _
                    rw [htot.out, hz.out]), fun p hp => by subst hp; rfl⟩)
      · have h8i : ¬ (8 : Int) < (j : Int) := by omega
        rw [if_neg h8] at htot0
        have hsq := hsr
        have hoq := how
        have hownq := hown
        have hFq := hFr
        obtain ⟨a, ha⟩ : ∃ a, E0 = a := ⟨_, rfl⟩
        rw [ha] at hsq htot0
        have htot := hide htot0
        clear hown hsr hFr how ha htot0 hor
        rename World => wq
        go_wp2_with fail
        (
              go_loopw [41] (fun i W => DupLoop vs a wq g line col F fs.length c k1 pr i W) (fun i _ => j - (intOf i).toNat)
              case atStart => exact ⟨0, Nat.zero_le _, rfl, by
                have e : dupE a vs 0 = a := by unfold dupE; by_cases ha : a = 0; · rw [if_neg (by simp [ha])]; simp [freshTo, ha]
                                               · rw [if_pos ha]
                rw [e]; exact hsq, World.grownBy.refl _ _⟩
              case round =>
                obtain ⟨i, hi, rfl, hsr, hor⟩ := hrel
                rw [hvl.out] at hi
                have hFr := hFq.only hor hB (by omega)
                have hwr := hor.size
                by_cases hlt2 : i < j
                · obtain ⟨x, hx⟩ : ∃ x, vs[i]? = some x := ⟨_, List.getElem?_eq_getElem (by rw [hvl.out]; exact hlt2)⟩
                  have hatr := (hownq.noteT hor (by omega)).any'
                  obtain ⟨vb, vo, rfl, hvg, hvb, x0⟩ := hatr.int hx
                  have hj0 : (0 : Int) ≤ (i : Int) := by omega
                  have hj1 : (i : Int) < (j : Int) := by omega
                  have hic : (i : Int) ≤ (c6 : Int) := by omega
                  have hcon := icontains_walk (some ⟨vb, vo, none⟩) (vs.take i) c6 x wr (by rw [List.length_take]; omega) hatr.take.any
                  rw [List.length_take, hvl.out, Nat.min_eq_left hi] at hcon
                  by_cases hmm : x ∈ vs.take i
                  · have hd := hide (dupE_hit (a := a) hx hmm)
                    rw [decide_eq_true hmm] at hcon
                    clear hx hmm
                    go_wp2_with fail
                    refine hcon.mono ?_
                    rintro e W2 ⟨rfl, rfl⟩
                    go_wp2_with fail
                    refine (fail_walk B g line F fs c k1 _ 11 _ hsr hFr i1 (by omega) hm).mono ?_
                    rintro e W3 ⟨rfl, hs3, ho3⟩
                    rw [hcol.out, noted_or] at hs3
                    have ho4 := hor.trans ho3
                    clear hcon hsr hor ho3
                    go_wp2
                    go_roundw
                    case rel => exact ⟨i + 1, by rw [hvl.out]; omega, by go_num, by rw [hd.out]; exact hs3, ho4⟩
                    case measure => simp [intOf]; omega
                  · have hd := hide (dupE_miss (a := a) hx hmm)
                    rw [decide_eq_false hmm] at hcon
                    clear hx hmm
                    go_wp2_with fail
                    refine hcon.mono ?_
                    rintro e W2 ⟨rfl, rfl⟩
                    go_wp2
                    go_roundw
                    case rel => exact ⟨i + 1, by rw [hvl.out]; omega, by go_num, by rw [hd.out]; exact hsr, hor⟩
                    case measure => simp [intOf]; omega
                · obtain rfl : i = j := by omega
                  have howne := hownq.noteT hor (by omega)
                  have hoe := hoq.trans hor
                  clear hFr hFq
                  go_wp2
                  go_ret
                  exact ⟨k1, vs, _, _, rfl, howne.lower (by omega), hsr, hoe, i1, j1, (fun hp => by
                    obtain ⟨e1, e2⟩ := hnone.out hp
                    subst hp
                    refine ⟨e1, by rw [← e2]; exact hvs.out, ?_⟩
                    rw [← e2, ← e1, hcol.out]
                    show probOf line col (dupE a vs i) = _
                    rw [htot.out, hz.out]), fun p hp => by subst hp; rfl⟩)
end Go.Proofs.YtimcdikeajbabaaGreatDoor

namespace Go.Proofs.YtimcdikeajbabaaGreatDoor
open Go.RowKit
set_option maxRecDepth 100000

def NumAnyF (most g : Nat) (line : Int) (F : Option Addr) (fs : List Fld) (c k : Nat) (pr : Option Prob) (w : World) (e : Ending) (w' : World) : Prop :=
  ∃ (k' n : Nat) (pr' : Option Prob), e = .returned (.int .i64 (n : Int)) ∧ Scan w' g line F fs.length c k' pr' ∧ Only g w w' ∧ 1 ≤ k' ∧ k' ≤ k + 1 ∧ (pr = none → k' = k + 1 ∧ n = (numE most (textAt fs k)).getD 0 ∧ pr' = numP (numE most (textAt fs k)) (line, colAt fs (k + 1), 4)) ∧ (∀ p, pr = some p → pr' = some p ∧ n = 0)
theorem num_anyF (B g : Nat) (line : Int) (F : Option Addr) (fs : List Fld) (c k most : Nat) (pr : Option Prob) (w : World) (h : Scan w g line F fs.length c k pr) (hF : FieldsAt B w F fs) (h2 : k < fs.length) (hm : fs.length ≤ 1000) (hB : B ≤ g) (h1 : ∀ p, pr = some p → 1 ≤ k) (h18 : most ≤ 18) (hsz : (textAt fs k).size ≤ 9223372036854775807) :
    Calls Tryz.prog 67 #[.pointer (some ⟨g, 0, none⟩), .int .i64 most, .bool true] w fun e w' => NumAnyF most g line F fs c k pr w e w' := by
  cases pr with
  | none =>
    refine (fnum_walk B g line F fs c k most w h hF h2 hm hB h18 hsz).mono ?_
    rintro e w' ⟨rfl, hs, ho⟩
    exact ⟨k + 1, _, _, rfl, hs, ho, by omega, Nat.le_refl _, fun _ => ⟨rfl, rfl, rfl⟩, fun p hp => by cases hp⟩
  | some p =>
    have hk := h1 p rfl
    refine (fnum_stop B g line F fs c k most p w h hF hk (by omega) hm hB h18).mono ?_
    rintro e w' ⟨rfl, hs, ho⟩
    exact ⟨k, 0, _, rfl, hs, ho, hk, by omega, (fun hp => by cases hp), fun q hq => ⟨hq, rfl⟩⟩
/-- A number of at most two digits. -/
theorem numE_99 (s : ByteArray) : (numE 2 s).getD 0 ≤ 99 := by
  unfold numE
  split
  · rename_i h
    have h2 := (dig_val h.2.2).2
    have h3 : 10 ^ s.size ≤ 10 ^ 2 := Nat.pow_le_pow_right (by omega) h.2.1
    have : (10 : Nat) ^ 2 = 100 := rfl
    show valS s ≤ 99
    omega
  · exact Nat.zero_le _
end Go.Proofs.YtimcdikeajbabaaGreatDoor

namespace Go.Proofs.YtimcdikeajbabaaGreatDoor
open Go.RowKit
set_option maxRecDepth 100000

theorem load2s (w : World) (g : Nat) (a b : Value) (h0 : w.cell? ⟨g, 0, none⟩ = some a) (h1 : w.cell? ⟨g, 1, none⟩ = some b) :
    (loadVar 70 ⟨g, 0, none⟩).run Tryz.prog w = .ok (.agg #[a, b]) w := by
  simp [go_sem, h0, h1]
theorem end_start {fn : Func} {p u : Tmp} (hr : fn.results = #[.cell p 70, .tmp u]) {Q : Ending → World → Prop} {act : Act} {w : World} (g : Nat) (a b e : Value) (hd : act.defers = [])
    (hp : act.tmps.getD p undef = .pointer (some ⟨g, 0, none⟩)) (he : act.tmps.getD u undef = e)
    (h0 : w.cell? ⟨g, 0, none⟩ = some a) (h1 : w.cell? ⟨g, 1, none⟩ = some b)
    (hQ : Q (.returned (.tuple #[.agg #[a, b], e])) w) : bodyPost Tryz.prog fn Q .ret act w := by
  refine bodyPost_ret (v := .tuple #[.agg #[a, b], e]) ?_ hd hQ
  rw [results_cell_tmp hr, hp, he]
  simp only [asAddr, Sem.run_pure, Result.andThen_ok]
  rw [load2s w g a b h0 h1]
  rfl
theorem set2_cells {w : World} {r : Nat} {a b a' b' : Value} (h0 : w.cell? ⟨r, 0, none⟩ = some a') (h1 : w.cell? ⟨r, 1, none⟩ = some b') :
    ((w.setCell ⟨r, 0, none⟩ a).setCell ⟨r, 1, none⟩ b).cell? ⟨r, 0, none⟩ = some a ∧ ((w.setCell ⟨r, 0, none⟩ a).setCell ⟨r, 1, none⟩ b).cell? ⟨r, 1, none⟩ = some b := by
  refine ⟨(World.cell?_setCell_other _ _ _ _ (by simp)).trans (World.cell?_setCell_same _ _ _ h0), World.cell?_setCell_same _ _ _ ((World.cell?_setCell_other _ _ _ _ (by simp)).trans h1)⟩
set_option maxHeartbeats 8000000 in
theorem start_walk (z : ByteArray) (d sl b m len : Int) (w : World) (hS : Std w) (hz : z.size < 1073741824) (hl : 0 ≤ len ∧ len ≤ 100) (hs : 1 ≤ sl ∧ sl ≤ 24) :
    Calls Tryz.prog 110 #[.string z, .int .i64 len, .agg #[.int .i64 d, .int .i64 sl, .int .i64 b, .int .i64 m]] w fun e w' => e = .returned (.tuple #[.agg #[.int .i64 (startV d sl len z).1.1, .int .i64 (startV d sl len z).1.2], .int .i64 (startV d sl len z).2]) ∧ Below w.heap.size w w' := by
  obtain ⟨x, y, t, hc⟩ : ∃ x y t, Lib.cut z.data.toList (⟨#[32]⟩ : ByteArray).data.toList = (x, y, t) := ⟨_, _, _, rfl⟩
  have hyl : y.length ≤ z.size := by
    have h := cut1_len (c := 32) (r := z.data.toList) ((cut_eq 32 z.data.toList).symm.trans hc)
    have h2 := ba_len z
    omega
  obtain ⟨X, hX⟩ : ∃ X : ByteArray, (⟨x.toArray⟩ : ByteArray) = X := ⟨_, rfl⟩
  obtain ⟨Y, hY⟩ : ∃ Y : ByteArray, (⟨y.toArray⟩ : ByteArray) = Y := ⟨_, rfl⟩
  have hYs : Y.size < 1073741824 := by rw [← hY]; show y.toArray.size < _; simp; omega
  have eX : spOf z = X := by unfold spOf; rw [show Lib.cut z.data.toList [32] = (x, y, t) from hc]; exact hX
  have eY : spBehind z = Y := by unfold spBehind; rw [show Lib.cut z.data.toList [32] = (x, y, t) from hc]; exact hY
  have eT : spTwo z = t := by unfold spTwo; rw [show Lib.cut z.data.toList [32] = (x, y, t) from hc]
  obtain ⟨V, hV⟩ : ∃ V, startV d sl len z = V := ⟨_, rfl⟩
  have hE : V = if t = false ∨ dayI X < 0 ∨ numS 2 Y = none then ((0, 0), 4) else if possB d sl len (dayI X, (((numS 2 Y).getD 0 : Nat) : Int) - 1) = true then ((dayI X, (((numS 2 Y).getD 0 : Nat) : Int) - 1), 0) else ((0, 0), 14) := by rw [← hV]; unfold startV; rw [eX, eY, eT]
  rw [hV]
  have hday := fun (U : World) => day_walk X U
  have hdig := fun (U : World) => digits_walk Y 2 (by decide) U (by omega)
  have h99 := numE_99 Y
  obtain ⟨o, ho⟩ : ∃ o, numE 2 Y = o := ⟨_, rfl⟩
  rw [ho] at hdig h99
  unfold digV at hdig
  have hb0 : Below w.heap.size w ((w.alloc (.cells #[.int .i64 d, .int .i64 sl, .int .i64 b, .int .i64 m] 24)).alloc (.cells #[.int .i64 0, .int .i64 0] 70)) := (by repeat (first | exact Below.refl _ _ | refine ext_alloc ?_ _ | refine ext_drewN ?_ _ | refine ext_drew ?_ | refine ext_trans ?_ (by assumption)))
  have bG := (Box4.new w 24 (.int .i64 d) (.int .i64 sl) (.int .i64 b) (.int .i64 m)).alloc (.cells #[.int .i64 0, .int .i64 0] 70)
  have hzz : (w.alloc (.cells #[.int .i64 d, .int .i64 sl, .int .i64 b, .int .i64 m] 24)).heap.size = w.heap.size + 1 := World.size_alloc _ _
  have r0 : ((w.alloc (.cells #[.int .i64 d, .int .i64 sl, .int .i64 b, .int .i64 m] 24)).alloc (.cells #[.int .i64 0, .int .i64 0] 70)).cell? ⟨w.heap.size + 1, 0, none⟩ = some (.int .i64 0) := by rw [← hzz]; simp
  have r1 : ((w.alloc (.cells #[.int .i64 d, .int .i64 sl, .int .i64 b, .int .i64 m] 24)).alloc (.cells #[.int .i64 0, .int .i64 0] 70)).cell? ⟨w.heap.size + 1, 1, none⟩ = some (.int .i64 0) := by rw [← hzz]; simp
  have rf0 : ((w.alloc (.cells #[.int .i64 d, .int .i64 sl, .int .i64 b, .int .i64 m] 24)).alloc (.cells #[.int .i64 0, .int .i64 0] 70)).frozen? ⟨w.heap.size + 1, 0, none⟩ = false := by rw [← hzz]; simp
  have rf1 : ((w.alloc (.cells #[.int .i64 d, .int .i64 sl, .int .i64 b, .int .i64 m] 24)).alloc (.cells #[.int .i64 0, .int .i64 0] 70)).frozen? ⟨w.heap.size + 1, 1, none⟩ = false := by rw [← hzz]; simp
  obtain ⟨W, hWW⟩ : ∃ W, (w.alloc (.cells #[.int .i64 d, .int .i64 sl, .int .i64 b, .int .i64 m] 24)).alloc (.cells #[.int .i64 0, .int .i64 0] 70) = W := ⟨_, rfl⟩
  rw [hWW] at hb0 bG r0 r1 rf0 rf1
  obtain ⟨g0, g1, g2, g3⟩ := bG
  obtain ⟨gb, hgb⟩ : ∃ gb, w.heap.size = gb := ⟨_, rfl⟩
  obtain ⟨r, hr⟩ : ∃ r, w.heap.size + 1 = r := ⟨_, rfl⟩
  rw [hgb] at g0 g1 g2 g3
  rw [hr] at r0 r1 rf0 rf1
  have hrl : r < W.heap.size := World.block_lt_of_cell? _ _ r0
  have hS0 := hS.after hb0
  replace hWW := hide hWW
  replace hr := hide hr
  replace hgb := hide hgb
  replace hc := hide hc
  replace hX := hide hX
  replace hY := hide hY
  replace hday := hide hday
  replace hdig := hide hdig
  clear hzz eX eY eT hV hyl hYs
  cases t with
  | false =>
    rw [if_pos (Or.inl rfl)] at hE
    have hV := hide hE
    clear hE ho
    (
      (
        go_enter Tryz.func110, Tryz.ntmps110
        go_wp2_with fail
        rw [hWW.out, hr.out, hgb.out]
        refine (cut_walk z ⟨#[32]⟩ x y _ (by omega) W hS0 hc.out).mono ?_
        rintro e w1 ⟨rfl, hb1⟩
        rw [hX.out, hY.out]
        go_wp2_with fail
        refine (hday.out w1).mono ?_
        rintro e w2 ⟨rfl, hb2⟩
        go_wp2_with fail
        refine (hdig.out w2).mono ?_
        rintro e w3 ⟨rfl, hb3⟩
        have hbb := ext_trans hb1 (ext_trans hb2 hb3)
        have k0 := cell_later hbb r0
        have k1 := cell_later hbb r1
        have q0 := cell_later hbb g0
        have q1 := cell_later hbb g1
        have q2 := cell_later hbb g2
        have q3 := cell_later hbb g3
        have kf0 : w3.frozen? ⟨r, 0, none⟩ = false := (World.frozen?_of_block (hbb.block r hrl)).trans rf0
        have kf1 : w3.frozen? ⟨r, 1, none⟩ = false := (World.frozen?_of_block (hbb.block r hrl)).trans rf1
        have hr3 : r < w3.heap.size := World.block_lt_of_cell? _ _ k0
        have hg3 : gb < w3.heap.size := World.block_lt_of_cell? _ _ q0
        have hbw := ext_trans hb0 hbb
        clear hb1 hb2 hb3 hday hdig)
      go_wp2
      all_goals try (exfalso; omega)
      all_goals
        obtain ⟨s0, s1⟩ := set2_cells (a := .int .i64 0) (b := .int .i64 0) k0 k1
        refine end_start rfl r (.int .i64 0) (.int .i64 0) (.int .i64 4) rfl rfl rfl s0 s1 ⟨by rw [hV.out], ?_⟩
        exact ext_set (ext_set hbw (p := ⟨r, 0, none⟩) (by have := hr.out; show w.heap.size ≤ r; omega) _) (p := ⟨r, 1, none⟩) (by have := hr.out; show w.heap.size ≤ r; omega) _)
  | true =>
    by_cases hD : 0 ≤ dayI X
    · have hmx : max (dayI X) 0 = dayI X := by omega
      have hdd : decide (0 ≤ dayI X) = true := decide_eq_true hD
      have hday2 := hide (by have := hday.out; rwa [hmx, hdd] at this)
      clear hday
      obtain ⟨D, hDD⟩ : ∃ D, dayI X = D := ⟨_, rfl⟩
      rw [hDD] at hday2 hE hD hmx hdd
      cases o with
      | none =>
        have hn : numS 2 Y = none := by
          unfold numS
          split
          · rfl
          · exact ho
        rw [if_pos (Or.inr (Or.inr hn))] at hE
        have hV := hide hE
        have hday := hday2
        clear hE ho hn hday2 hDD hmx hdd
        (
          (
            go_enter Tryz.func110, Tryz.ntmps110
            go_wp2_with fail
            rw [hWW.out, hr.out, hgb.out]
            refine (cut_walk z ⟨#[32]⟩ x y _ (by omega) W hS0 hc.out).mono ?_
            rintro e w1 ⟨rfl, hb1⟩
            rw [hX.out, hY.out]
            go_wp2_with fail
            refine (hday.out w1).mono ?_
            rintro e w2 ⟨rfl, hb2⟩
            go_wp2_with fail
            refine (hdig.out w2).mono ?_
            rintro e w3 ⟨rfl, hb3⟩
            have hbb := ext_trans hb1 (ext_trans hb2 hb3)
            have k0 := cell_later hbb r0
            have k1 := cell_later hbb r1
            have q0 := cell_later hbb g0
            have q1 := cell_later hbb g1
            have q2 := cell_later hbb g2
            have q3 := cell_later hbb g3
            have kf0 : w3.frozen? ⟨r, 0, none⟩ = false := (World.frozen?_of_block (hbb.block r hrl)).trans rf0
            have kf1 : w3.frozen? ⟨r, 1, none⟩ = false := (World.frozen?_of_block (hbb.block r hrl)).trans rf1
            have hr3 : r < w3.heap.size := World.block_lt_of_cell? _ _ k0
            have hg3 : gb < w3.heap.size := World.block_lt_of_cell? _ _ q0
            have hbw := ext_trans hb0 hbb
            clear hb1 hb2 hb3 hday hdig)
          go_wp2
          all_goals try (exfalso; omega)
          all_goals
            obtain ⟨s0, s1⟩ := set2_cells (a := .int .i64 0) (b := .int .i64 0) k0 k1
            refine end_start rfl r (.int .i64 0) (.int .i64 0) (.int .i64 4) rfl rfl rfl s0 s1 ⟨by rw [hV.out], ?_⟩
            exact ext_set (ext_set hbw (p := ⟨r, 0, none⟩) (by have := hr.out; show w.heap.size ≤ r; omega) _) (p := ⟨r, 1, none⟩) (by have := hr.out; show w.heap.size ≤ r; omega) _)
      | some k =>
        have hpos : 0 < Y.size := by
          apply Classical.byContradiction
          intro hn
          unfold numE at ho
          rw [if_neg (fun h => hn h.1)] at ho
          cases ho
        have hp0 : (0 : Int) < (Y.size : Int) := by omega
        by_cases hz0 : Y[0].toNat = 48
        · have hzi : ((Y[0].toNat : Nat) : Int) = 48 := by omega
          have hn : numS 2 Y = none := by unfold numS; rw [if_pos (by unfold zeroS; rw [dif_pos hpos]; simpa using hz0)]
          rw [if_pos (Or.inr (Or.inr hn))] at hE
          have hV := hide hE
          have hday := hday2
          clear hE ho hn hday2 hDD hmx hdd
          (
            (
              go_enter Tryz.func110, Tryz.ntmps110
              go_wp2_with fail
              rw [hWW.out, hr.out, hgb.out]
              refine (cut_walk z ⟨#[32]⟩ x y _ (by omega) W hS0 hc.out).mono ?_
              rintro e w1 ⟨rfl, hb1⟩
              rw [hX.out, hY.out]
              go_wp2_with fail
              refine (hday.out w1).mono ?_
              rintro e w2 ⟨rfl, hb2⟩
              go_wp2_with fail
              refine (hdig.out w2).mono ?_
              rintro e w3 ⟨rfl, hb3⟩
              have hbb := ext_trans hb1 (ext_trans hb2 hb3)
              have k0 := cell_later hbb r0
              have k1 := cell_later hbb r1
              have q0 := cell_later hbb g0
              have q1 := cell_later hbb g1
              have q2 := cell_later hbb g2
              have q3 := cell_later hbb g3
              have kf0 : w3.frozen? ⟨r, 0, none⟩ = false := (World.frozen?_of_block (hbb.block r hrl)).trans rf0
              have kf1 : w3.frozen? ⟨r, 1, none⟩ = false := (World.frozen?_of_block (hbb.block r hrl)).trans rf1
              have hr3 : r < w3.heap.size := World.block_lt_of_cell? _ _ k0
              have hg3 : gb < w3.heap.size := World.block_lt_of_cell? _ _ q0
              have hbw := ext_trans hb0 hbb
              clear hb1 hb2 hb3 hday hdig)
            go_wp2
            all_goals try (exfalso; omega)
            all_goals
              obtain ⟨s0, s1⟩ := set2_cells (a := .int .i64 0) (b := .int .i64 0) k0 k1
              refine end_start rfl r (.int .i64 0) (.int .i64 0) (.int .i64 4) rfl rfl rfl s0 s1 ⟨by rw [hV.out], ?_⟩
              exact ext_set (ext_set hbw (p := ⟨r, 0, none⟩) (by have := hr.out; show w.heap.size ≤ r; omega) _) (p := ⟨r, 1, none⟩) (by have := hr.out; show w.heap.size ≤ r; omega) _)
        · have hzi : ¬ ((Y[0].toNat : Nat) : Int) = 48 := by omega
          have hn : numS 2 Y = some k := by unfold numS; rw [if_neg (by unfold zeroS; rw [dif_pos hpos]; simpa using hz0), ho]
          rw [hn, if_neg (by rintro (h | h | h) <;> first | cases h | omega)] at hE
          rw [Option.getD_some] at hE hdig
          have hkw : IntKind.i64.wrap ((k : Int) - 1) = (k : Int) - 1 := IntWalk.i64_in _ (by have : k ≤ 99 := h99; omega)
          have hk : (k : Int) ≤ 99 := by have : k ≤ 99 := h99; omega
          have hday := hday2
          have hposs := hide (fun (U : World) => cposs_walk D ((k : Int) - 1) len d sl b m (by omega) (by omega) U)
          clear ho hn hday2 hDD hmx hdd
          cases hP : possB d sl len (D, (k : Int) - 1) with
          | true =>
            rw [if_pos hP] at hE
            rw [hP] at hposs
            have hV := hide hE
            clear hE
            (
              go_enter Tryz.func110, Tryz.ntmps110
              go_wp2_with fail
              rw [hWW.out, hr.out, hgb.out]
              refine (cut_walk z ⟨#[32]⟩ x y _ (by omega) W hS0 hc.out).mono ?_
              rintro e w1 ⟨rfl, hb1⟩
              rw [hX.out, hY.out]
              go_wp2_with fail
              refine (hday.out w1).mono ?_
              rintro e w2 ⟨rfl, hb2⟩
              go_wp2_with fail
              refine (hdig.out w2).mono ?_
              rintro e w3 ⟨rfl, hb3⟩
              have hbb := ext_trans hb1 (ext_trans hb2 hb3)
              have k0 := cell_later hbb r0
              have k1 := cell_later hbb r1
              have q0 := cell_later hbb g0
              have q1 := cell_later hbb g1
              have q2 := cell_later hbb g2
              have q3 := cell_later hbb g3
              have kf0 : w3.frozen? ⟨r, 0, none⟩ = false := (World.frozen?_of_block (hbb.block r hrl)).trans rf0
              have kf1 : w3.frozen? ⟨r, 1, none⟩ = false := (World.frozen?_of_block (hbb.block r hrl)).trans rf1
              have hr3 : r < w3.heap.size := World.block_lt_of_cell? _ _ k0
              have hg3 : gb < w3.heap.size := World.block_lt_of_cell? _ _ q0
              have hbw := ext_trans hb0 hbb
              clear hb1 hb2 hb3 hday hdig)
            go_wp2_with fail
            (
              refine (hposs.out _).mono ?_
              rintro e w4 ⟨rfl, hb4⟩
              have hb5 := ext_trans (ext_alloc (Below.refl _ _) (.cells #[.int .i64 D, .int .i64 ((k : Int) - 1)] 70)) hb4
              have s0 := cell_later hb5 k0
              have s1 := cell_later hb5 k1
              have sf0 : w4.frozen? ⟨r, 0, none⟩ = false := (World.frozen?_of_block (hb5.block r hr3)).trans kf0
              have sf1 : w4.frozen? ⟨r, 1, none⟩ = false := (World.frozen?_of_block (hb5.block r hr3)).trans kf1
              have d0 : w4.cell? ⟨w3.heap.size, 0, none⟩ = some (.int .i64 D) := cell_later hb4 (by simp)
              have d1 : w4.cell? ⟨w3.heap.size, 1, none⟩ = some (.int .i64 ((k : Int) - 1)) := cell_later hb4 (by simp)
              have hd4 := World.block_lt_of_cell? _ _ d0
              have hr4 := World.block_lt_of_cell? _ _ s0
              have hbw5 := ext_trans hbw hb5
              clear hb4 hb5 k0 k1 kf0 kf1 q0 q1 q2 q3 hposs)
            go_wp2
            obtain ⟨u0, u1⟩ := set2_cells (a := .int .i64 D) (b := .int .i64 ((k : Int) - 1)) s0 s1
            refine end_start rfl r (.int .i64 D) (.int .i64 ((k : Int) - 1)) (.int .i64 0) rfl rfl rfl u0 u1 ⟨by rw [hV.out], ?_⟩
            exact ext_set (ext_set hbw5 (p := ⟨r, 0, none⟩) (by have := hr.out; show w.heap.size ≤ r; omega) _) (p := ⟨r, 1, none⟩) (by have := hr.out; show w.heap.size ≤ r; omega) _
          | false =>
            rw [if_neg (by rw [hP]; simp)] at hE
            rw [hP] at hposs
            have hV := hide hE
            clear hE
            (
              go_enter Tryz.func110, Tryz.ntmps110
              go_wp2_with fail
              rw [hWW.out, hr.out, hgb.out]
              refine (cut_walk z ⟨#[32]⟩ x y _ (by omega) W hS0 hc.out).mono ?_
              rintro e w1 ⟨rfl, hb1⟩
              rw [hX.out, hY.out]
              go_wp2_with fail
              refine (hday.out w1).mono ?_
              rintro e w2 ⟨rfl, hb2⟩
              go_wp2_with fail
              refine (hdig.out w2).mono ?_
              rintro e w3 ⟨rfl, hb3⟩
              have hbb := ext_trans hb1 (ext_trans hb2 hb3)
              have k0 := cell_later hbb r0
              have k1 := cell_later hbb r1
              have q0 := cell_later hbb g0
              have q1 := cell_later hbb g1
              have q2 := cell_later hbb g2
              have q3 := cell_later hbb g3
              have kf0 : w3.frozen? ⟨r, 0, none⟩ = false := (World.frozen?_of_block (hbb.block r hrl)).trans rf0
              have kf1 : w3.frozen? ⟨r, 1, none⟩ = false := (World.frozen?_of_block (hbb.block r hrl)).trans rf1
              have hr3 : r < w3.heap.size := World.block_lt_of_cell? _ _ k0
              have hg3 : gb < w3.heap.size := World.block_lt_of_cell? _ _ q0
              have hbw := ext_trans hb0 hbb
              clear hb1 hb2 hb3 hday hdig)
            go_wp2_with fail
            (
              refine (hposs.out _).mono ?_
              rintro e w4 ⟨rfl, hb4⟩
              have hb5 := ext_trans (ext_alloc (Below.refl _ _) (.cells #[.int .i64 D, .int .i64 ((k : Int) - 1)] 70)) hb4
              have s0 := cell_later hb5 k0
              have s1 := cell_later hb5 k1
              have sf0 : w4.frozen? ⟨r, 0, none⟩ = false := (World.frozen?_of_block (hb5.block r hr3)).trans kf0
              have sf1 : w4.frozen? ⟨r, 1, none⟩ = false := (World.frozen?_of_block (hb5.block r hr3)).trans kf1
              have d0 : w4.cell? ⟨w3.heap.size, 0, none⟩ = some (.int .i64 D) := cell_later hb4 (by simp)
              have d1 : w4.cell? ⟨w3.heap.size, 1, none⟩ = some (.int .i64 ((k : Int) - 1)) := cell_later hb4 (by simp)
              have hd4 := World.block_lt_of_cell? _ _ d0
              have hr4 := World.block_lt_of_cell? _ _ s0
              have hbw5 := ext_trans hbw hb5
              clear hb4 hb5 k0 k1 kf0 kf1 q0 q1 q2 q3 hposs)
            go_wp2
            obtain ⟨u0, u1⟩ := set2_cells (a := .int .i64 0) (b := .int .i64 0) s0 s1
            refine end_start rfl r (.int .i64 0) (.int .i64 0) (.int .i64 14) rfl rfl rfl u0 u1 ⟨by rw [hV.out], ?_⟩
            exact ext_set (ext_set hbw5 (p := ⟨r, 0, none⟩) (by have := hr.out; show w.heap.size ≤ r; omega) _) (p := ⟨r, 1, none⟩) (by have := hr.out; show w.heap.size ≤ r; omega) _
    · have hdd : decide (0 ≤ dayI X) = false := decide_eq_false hD
      have hmx : max (dayI X) 0 = 0 := by omega
      have hday2 := hide (by have := hday.out; rwa [hmx, hdd] at this)
      clear hday
      have hday := hday2
      rw [if_pos (Or.inr (Or.inl (by omega)))] at hE
      have hV := hide hE
      clear hE ho hday2 hmx hdd
      (
        (
          go_enter Tryz.func110, Tryz.ntmps110
          go_wp2_with fail
          rw [hWW.out, hr.out, hgb.out]
          refine (cut_walk z ⟨#[32]⟩ x y _ (by omega) W hS0 hc.out).mono ?_
          rintro e w1 ⟨rfl, hb1⟩
          rw [hX.out, hY.out]
          go_wp2_with fail
          refine (hday.out w1).mono ?_
          rintro e w2 ⟨rfl, hb2⟩
          go_wp2_with fail
          refine (hdig.out w2).mono ?_
          rintro e w3 ⟨rfl, hb3⟩
          have hbb := ext_trans hb1 (ext_trans hb2 hb3)
          have k0 := cell_later hbb r0
          have k1 := cell_later hbb r1
          have q0 := cell_later hbb g0
          have q1 := cell_later hbb g1
          have q2 := cell_later hbb g2
          have q3 := cell_later hbb g3
          have kf0 : w3.frozen? ⟨r, 0, none⟩ = false := (World.frozen?_of_block (hbb.block r hrl)).trans rf0
          have kf1 : w3.frozen? ⟨r, 1, none⟩ = false := (World.frozen?_of_block (hbb.block r hrl)).trans rf1
          have hr3 : r < w3.heap.size := World.block_lt_of_cell? _ _ k0
          have hg3 : gb < w3.heap.size := World.block_lt_of_cell? _ _ q0
          have hbw := ext_trans hb0 hbb
          clear hb1 hb2 hb3 hday hdig)
        go_wp2
        all_goals try (exfalso; omega)
        all_goals
          obtain ⟨s0, s1⟩ := set2_cells (a := .int .i64 0) (b := .int .i64 0) k0 k1
          refine end_start rfl r (.int .i64 0) (.int .i64 0) (.int .i64 4) rfl rfl rfl s0 s1 ⟨by rw [hV.out], ?_⟩
          exact ext_set (ext_set hbw (p := ⟨r, 0, none⟩) (by have := hr.out; show w.heap.size ≤ r; omega) _) (p := ⟨r, 1, none⟩) (by have := hr.out; show w.heap.size ≤ r; omega) _)
end Go.Proofs.YtimcdikeajbabaaGreatDoor
