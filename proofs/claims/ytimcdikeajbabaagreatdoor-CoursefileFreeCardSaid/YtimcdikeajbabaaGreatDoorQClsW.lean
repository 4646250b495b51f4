/- Walk of coursefile.readPatterns, whether a problem is noted or not. Conditions: the scanner's cells are as Scan says; a text shorter than 2^30 bytes. Plain: the record of a class; the times of a class. No walk. -/
import Derived.Test.YtimcdikeajbabaaGreatDoorRows
import Derived.WalkKit
import Derived.WalkSpells
import Derived.WalkLawsBesides
import Derived.BigGuardPart
import Derived.Lib.Hide
import Derived.Laws.BitsAllLaws
import Derived.Laws.BitsLemmas
import Derived.Lib.LaidTab
import Derived.Test.YtimcdikeajbabaaGreatDoorShelf
import Derived.Lib.ConvBytes
import Derived.Deep.QuietTactic
import Derived.BigQuiet
import Derived.Test.YtimcdikeajbabaaGreatDoorShelfS
import Derived.Laws.ResultCell
import Derived.RegionTactic
import Derived.BigRegion
import Derived.Deep.RegionHeld3
import Derived.Deep.DeepCutAuto
import Derived.Lib.SmallJoins
import Derived.Lib.SplitLaws
import Derived.Lib.CountLaws
import Derived.Lib.IndexMore
import Derived.Lib.Split
import Derived.Lib.Join
import Derived.Lib.ItoaNum
import Derived.Laws.AppendOwn
import Derived.Test.YtimcdikeajbabaaGreatDoorShelfT
import Derived.Lib.ItoaLen
import Derived.Lib.AppendIntMem
import Derived.Deep.AppendLies
import Derived.Lib.PathFns
import Derived.Maps.Range
import Derived.Lib.OwnBridge
import Derived.Sort.OwnSorted
import Derived.Sort.Walk0
import Derived.Test.YtimcdikeajbabaaGreatDoorCards
import Derived.Test.YtimcdikeajbabaaGreatDoorTie
import Derived.ProofKit
import Derived.OpenShut
import Derived.LaidMore
import Derived.Lay
import Derived.SevenTiedAt
import Derived.Stop.Joined
import Derived.Stop.LaidErr
import Derived.Deep.DeepHandedRow
import Derived.Lib.LaidU8
import Derived.LaidSub
import Derived.Deep.Slices
import Derived.Deep.Fields
import Derived.ChangeSame
import Derived.Test.YtimcdikeajbabaaGreatDoorQROneQ
import Derived.Test.YtimcdikeajbabaaGreatDoorQROneP
import Derived.Test.YtimcdikeajbabaaGreatDoorQNumI
import Derived.Test.YtimcdikeajbabaaGreatDoorQJoinP
import Derived.Test.YtimcdikeajbabaaGreatDoorQDecP
namespace Go.Proofs.YtimcdikeajbabaaGreatDoor
open Go.RowKit
set_option maxRecDepth 100000

theorem noted_or {pr0 : Option Prob} {line col a e : Int} : noted (orP pr0 (probOf line col a)) (decide (e ≠ 0)) (line, col, e) = orP pr0 (probOf line col (if a = 0 then e else a)) := by
  cases pr0 with
  | none => exact noted_prob line col a e
  | some p => rfl
/-- The error of doubles behind another. -/
def dupE (a : Int) (vs : List Int) (i : Nat) : Int := if a ≠ 0 then a else if freshTo (0 : Int) vs i = false then 11 else 0
theorem dupE_hit {a : Int} {vs : List Int} {i : Nat} {x : Int} (hx : vs[i]? = some x) (hm : x ∈ vs.take i) : dupE a vs (i + 1) = if dupE a vs i = 0 then 11 else dupE a vs i := by
  have hf : freshTo (0 : Int) vs (i + 1) = false := by
    rw [freshTo, List.getD_eq_getElem?_getD, hx]
    show (_ && !decide (x ∈ vs.take i)) = false
    rw [decide_eq_true hm]; simp
  unfold dupE
  rw [hf]
  by_cases ha : a = 0
  · subst ha
    rw [if_neg (show ¬ ((0 : Int) ≠ 0) from fun h => h rfl)]
    simp only [ne_eq, not_true_eq_false, if_false]
    cases freshTo (0 : Int) vs i <;> simp
  · rw [if_pos ha, if_pos ha, if_neg ha]
theorem dupE_miss {a : Int} {vs : List Int} {i : Nat} {x : Int} (hx : vs[i]? = some x) (hm : x ∉ vs.take i) : dupE a vs (i + 1) = dupE a vs i := by
  have hf : freshTo (0 : Int) vs (i + 1) = freshTo 0 vs i := by
    rw [freshTo, List.getD_eq_getElem?_getD, hx]
    show (_ && !decide (x ∈ vs.take i)) = _
    rw [decide_eq_false hm]; simp
  unfold dupE
  rw [hf]
theorem slashOf_len (s : ByteArray) : (slashOf s).length ≤ s.size + 1 := by
  unfold slashOf
  rw [splitB_len]
  have := Lib.countB_le ⟨#[47]⟩ (Nat.le_refl 1) _ s (Nat.le_refl _)
  omega
theorem slashOf_mem (s : ByteArray) : ∀ z ∈ slashOf s, z.size ≤ s.size := fun _ hz => splitB_mem rfl hz
def PatAny (g : Nat) (line : Int) (F : Option Addr) (fs : List Fld) (c k : Nat) (n : Int) (pr : Option Prob) (w : World) (e : Ending) (w' : World) : Prop :=
  ∃ (k' : Nat) (ps : List Int) (v : Value) (pr' : Option Prob), e = .returned v ∧ Own kInt 3 [] 0 w.heap.size w' v ps ∧ Scan w' g line F fs.length c k' pr' ∧ Only g w w' ∧ 1 ≤ k' ∧ k' ≤ k + 1 ∧
    (pr = none → k' = k + 1 ∧ ps = (slashOf (textAt fs k)).map (patV n) ∧ pr' = probOf line (colAt fs (k + 1)) (patsRE n (slashOf (textAt fs k)))) ∧ (∀ p, pr = some p → pr' = some p)
theorem Own.noteT {α : Type} {K : Kind α} {t : TypeId} {g B : Nat} {w w' : World} {v : Value} {l : List α} (h : Own K t [] 0 B w v l) (ho : Only g w w') (hg : g < B) : Own K t [] 0 B w' v l :=
  h.kept ho (by
    cases hv : v.ownBlock with
    | none => exact .inl rfl
    | some y => exact .inr fun e => by injection e with e; have := (h.lt y hv).1; omega) (fun y _ => ⟨Nat.zero_le _, fun h => by obtain ⟨-, cs, t', -, ht⟩ := h; simp at ht⟩)
/-- The walk from behind Next on: the text is known, a problem may be noted. -/
def PatLoop (n : Int) (zs : List ByteArray) (B : Nat) (w1 : World) (g : Nat) (line col : Int) (F : Option Addr) (q c k : Nat) (pr0 : Option Prob) (v i : Value) (wr : World) : Prop :=
  ∃ j : Nat, j ≤ zs.length ∧ i = .int .i64 j ∧ Own kInt 3 [] 0 B wr v ((zs.take j).map (patV n)) ∧ Scan wr g line F q c k (orP pr0 (probOf line col (firstE (patE n) (zs.take j)))) ∧ Only g w1 wr
def DupLoop (vs : List Int) (a : Int) (w2 : World) (g : Nat) (line col : Int) (F : Option Addr) (q c k : Nat) (pr0 : Option Prob) (i : Value) (wr : World) : Prop :=
  ∃ j : Nat, j ≤ vs.length ∧ i = .int .i64 j ∧ Scan wr g line F q c k (orP pr0 (probOf line col (dupE a vs j))) ∧ Only g w2 wr
theorem pats_total (n : Int) (zs : List ByteArray) : dupE (if 8 < zs.length then (if firstE (patE n) zs = 0 then 2 else firstE (patE n) zs) else firstE (patE n) zs) (zs.map (patV n)) zs.length = patsRE n zs := by
  unfold dupE patsRE
  by_cases h0 : firstE (patE n) zs = 0
  · by_cases h8 : 8 < zs.length
    · simp [h0, h8]
    · simp [h0, h8]
  · by_cases h8 : 8 < zs.length
    · simp [h0, h8]
    · simp [h0, h8]
theorem next_any (B g : Nat) (line : Int) (F : Option Addr) (fs : List Fld) (c k : Nat) (pr : Option Prob) (w : World) (h : Scan w g line F fs.length c k pr) (hF : FieldsAt B w F fs) (h2 : k < fs.length) (hm : fs.length ≤ 1000) (hB : B ≤ g) (h1 : ∀ p, pr = some p → 1 ≤ k) (hsz : (textAt fs k).size < 1073741824) :
    Calls Tryz.prog 101 #[.pointer (some ⟨g, 0, none⟩)] w fun e w' => ∃ (s : ByteArray) (k' : Nat), e = .returned (.string s) ∧ Scan w' g line F fs.length c k' pr ∧ Only g w w' ∧ 1 ≤ k' ∧ k' ≤ k + 1 ∧ s.size < 1073741824 ∧ (pr = none → k' = k + 1 ∧ s = textAt fs k) := by
  cases pr with
  | none => exact (fnext_go B g line F fs c k w h hF h2 hm hB).mono fun e w' ⟨he, hs, ho⟩ => ⟨_, _, he, hs, ho, by omega, Nat.le_refl _, hsz, fun _ => ⟨rfl, rfl⟩⟩
  | some p => exact (fnext_stop g line F fs.length c k p w h).mono fun e w' ⟨he, hw⟩ => ⟨_, k, he, hw ▸ h, hw ▸ Only.refl g w, h1 p rfl, by omega, by decide, fun hp => by cases hp⟩
theorem apd_intsP : Apd Tryz.prog 36 3 1 8 := apd Tryz.underlying36 (z := .int .i64 0) (by kernel_rfl) rfl
set_option maxHeartbeats 4000000 in
theorem readPats_walk (B g : Nat) (line : Int) (F : Option Addr) (fs : List Fld) (c k : Nat) (n : Int) (pr : Option Prob) (w : World) (hS : Std w) (h : Scan w g line F fs.length c k pr) (hF : FieldsAt B w F fs) (h2 : k < fs.length) (hm : fs.length ≤ 1000) (hB : B ≤ g) (hG : 12 ≤ B) (h1 : ∀ p, pr = some p → 1 ≤ k) (hsz : (textAt fs k).size < 1073741824) :
    Calls Tryz.prog 69 #[.pointer (some ⟨g, 0, none⟩), .int .i64 n] w fun e w' => PatAny g line F fs c k n pr w e w' := by
  have hgl := h.lt
  go_enter Tryz.func69, Tryz.ntmps69
  go_wp2_with fail
  refine (next_any B g line F fs c k pr w h hF h2 hm hB h1 hsz).mono ?_
  rintro e w1 ⟨s, k1, rfl, hs1, ho1, i1, j1, hs30, hnone⟩
  obtain ⟨zs, hz⟩ : ∃ zs, slashOf s = zs := ⟨_, rfl⟩
  have hzl : zs.length ≤ 1073741825 := by have := slashOf_len s; rw [hz] at this; omega
  have hzm : ∀ z ∈ zs, z.size < 1073741824 := by have := slashOf_mem s; rw [hz] at this; intro z hh; have := this z hh; omega
  have hS1 := ho1.std hS (by omega)
  have hF1 := hF.only ho1 hB (by omega)
  have hz1 := ho1.size
  clear h hF hS
  go_wp2_with fail
  refine (split_walk' 47 s zs hz (by omega) w1 hS1).mono ?_
  rintro e w2 ⟨rfl, hb2, hcl⟩
  have hs2 := hs1.later hb2
  have ho2 : Only g w w2 := Only.later ho1 hb2
  have hS2 := hS1.after hb2
  have hF2 := hF1.below (hb2.mono (by omega))
  obtain ⟨pb, hpb⟩ : ∃ pb, w1.heap.size = pb := ⟨_, rfl⟩
  rw [hpb] at hcl ⊢
  have hz2 := hb2.size
  obtain ⟨len, hlen⟩ : ∃ len, zs.length = len := ⟨_, rfl⟩
  rw [hlen] at hzl ⊢
  obtain ⟨col, hcol⟩ : ∃ col, colAt fs k1 = col := ⟨_, rfl⟩
  have hgb : g < pb := by omega
  have hpl : 0 < len → pb < w2.heap.size := fun hl => by
    obtain ⟨z, hzz⟩ : ∃ z, zs[0]? = some z := ⟨_, List.getElem?_eq_getElem (by omega)⟩
    exact World.block_lt_of_cell? _ _ (hcl 0 z hzz)
  replace hlen := hide hlen
  replace hcol := hide hcol
  replace hz := hide hz
  replace hzm := hide hzm
  replace hcl := hide hcl
  replace hpb := hide hpb
  replace hnone := hide hnone
  clear hs1 ho1 hS1 hF1 hb2
  go_wp2_with fail
  go_loopw [5, 16] (fun v i wr => PatLoop n zs w2.heap.size w2 g line col F fs.length c k1 pr v i wr) (fun _ i _ => len - (intOf i).toNat)
  case atStart => exact ⟨0, Nat.zero_le _, rfl, Own.nil, by rw [List.take_zero]; show Scan w2 g line F fs.length c k1 (orP pr (probOf line col 0)); cases pr <;> exact hs2, World.grownBy.refl _ _⟩
  case round =>
    obtain ⟨j, hj, rfl, hown, hsr, hor⟩ := hrel
    rw [hlen.out] at hj
    by_cases hlt : j < len
    · obtain ⟨z, hzj⟩ : ∃ z, zs[j]? = some z := ⟨_, List.getElem?_eq_getElem (by rw [hlen.out]; exact hlt)⟩
      have hzz := hzm.out z (List.mem_of_getElem? hzj)
      have hpw : pb < w2.heap.size := hpl (by omega)
      have hcj := (hor.cell hpw (by omega)).trans (hcl.out j z hzj)
      have hSr := hor.std hS2 (by omega)
      have hFr := hF2.only hor hB (by omega)
      have hwr := hor.size
      have hpr : pb < wr.heap.size := by omega
      have hj0 : (0 : Int) ≤ (j : Int) := by omega
      have hj1 : (j : Int) < (len : Int) := by omega
      obtain ⟨p, hp⟩ : ∃ p, (parseV z n).1 = p := ⟨_, rfl⟩
      obtain ⟨er, her⟩ : ∃ er, (parseV z n).2 = er := ⟨_, rfl⟩
      have hts : Hid ((zs.take (j + 1)).map (patV n) = (zs.take j).map (patV n) ++ [(p : Int)]) := hide ((take_map _ zs j z hzj).trans (by unfold patV; rw [hp]))
      have hes : Hid (firstE (patE n) (zs.take (j + 1)) = if firstE (patE n) (zs.take j) = 0 then (er : Int) else firstE (patE n) (zs.take j)) := hide ((take_first _ zs j z hzj).trans (by unfold patE; rw [her]))
      have hcall := wsParse_walk z n hzz wr hSr
      rw [hp, her] at hcall
      obtain ⟨ps, hps⟩ : ∃ ps, (zs.take j).map (patV n) = ps := ⟨_, rfl⟩
      have htl : ps.length ≤ j := by rw [← hps, List.length_map]; exact List.length_take_le _ _
      rw [hps] at hown hts
      obtain ⟨e0, he0⟩ : ∃ e0, firstE (patE n) (zs.take j) = e0 := ⟨_, rfl⟩
      rw [he0] at hsr hes
      clear hps he0 hzj hp her
      go_wp2_with fail
      refine hcall.mono ?_
      rintro e w3 ⟨rfl, hb3⟩
      have hs3 := hsr.later hb3
      have hF3 := hFr.below (hb3.mono (by omega))
      have hown3 := hown.later hb3
      have ho3 := hor.later hb3
      have hz3 := hb3.size
      clear hcall hown hsr hor hFr hSr hb3 hcj
      go_wp2_with fail
      refine (fail_walk B g line F fs c k1 _ er w3 hs3 hF3 i1 (by omega) hm).mono ?_
      rintro e w4 ⟨rfl, hs4, ho4⟩
      rw [hcol.out, noted_or] at hs4
      have hown4 := hown3.noteT ho4 (by omega)
      have ho4' := ho3.trans ho4
      have hz4 := ho4.size
      clear hown3 hs3 ho3 ho4 hF3
      go_wp2_with (at_builtin; refine wpList_own (K := kInt) (t := 3) (ts := []) (B0 := 0) (B := w2.heap.size) rfl _ _ rfl apd_intsP (by decide) rfl (hown4.alloc _) (by omega) (by decide) ⟨w4.heap.size, 0, none⟩ 1 rfl (p : Int) [.int .i64 (p : Int)] rfl (World.news_of_block (cs := #[.int .i64 (p : Int)]) (t := 3) (fr := (0, 0)) (heap_alloc_new _ _)) (by decide) (Nat.zero_le _) (by rw [World.size_alloc]; omega) ?_; intro v' w5 hown5 hgrow)
      have hfar : some g ≠ u5.ownBlock := fun e => by have := (hown4.lt g e.symm).1; omega
      have hs5 : Scan w5 g line F fs.length c k1 (orP pr (probOf line col (if e0 = 0 then (er : Int) else e0))) := by
        obtain ⟨vss, e1, e2, e3⟩ := hown4
        exact (hs4.later (ext_alloc (Below.refl _ _) _)).grown (e2.alloc _) hgrow hfar (by decide)
      have ho5 : Only g w2 w5 := (Only.later ho4' (ext_alloc (Below.refl _ _) _)).trans_own hgrow (fun x e => (hown4.lt x e).1)
      clear hown4 hs4 ho4' hgrow hfar
      go_wp2
      go_roundw
      case rel => exact ⟨j + 1, by rw [hlen.out]; omega, by go_num, by rw [hts.out]; exact hown5, by rw [hes.out]; exact hs5, ho5⟩
      case measure => simp [intOf]; omega
    · obtain rfl : j = len := by omega
      have hall : zs.take j = zs := by rw [← hlen.out]; exact List.take_length
      rw [hall] at hown hsr
      have htot0 := pats_total n zs
      obtain ⟨E0, hE0⟩ : ∃ E0, firstE (patE n) zs = E0 := ⟨_, rfl⟩
      obtain ⟨vs, hvs⟩ : ∃ vs, zs.map (patV n) = vs := ⟨_, rfl⟩
      have hvl : vs.length = j := by rw [← hvs, List.length_map]; exact hlen.out
      rw [hE0] at hsr htot0
      rw [hvs] at hown htot0
      rw [hlen.out] at htot0
      have hFr := hF2.only hor hB (by omega)
      have how := ho2.trans hor
      have hwr := hor.size
      obtain ⟨A6, c6, rfl, hcap, -⟩ := hown.any
      rw [hvl] at hown hcap ⊢
      have hvs' : vs = (slashOf s).map (patV n) := by rw [hz.out, hvs]
      replace hvs := hide hvs'
      replace hvl := hide hvl
      clear hvs' hall hE0 hcl hzm
      by_cases h8 : 8 < j
      · have h8i : (8 : Int) < (j : Int) := by omega
        rw [if_pos h8] at htot0
        go_wp2_with fail
        refine (fail_walk B g line F fs c k1 _ 2 _ hsr hFr i1 (by omega) hm).mono ?_
        rintro e wq ⟨rfl, hsq, ho3⟩
        rw [hcol.out, noted_or] at hsq
        have hoq := how.trans ho3
        have hownq := hown.noteT ho3 (by omega)
        have hFq := hFr.only ho3 hB (by omega)
        have hzq := ho3.size
        obtain ⟨a, ha⟩ : ∃ a, (if E0 = 0 then 2 else E0) = a := ⟨_, rfl⟩
        rw [ha] at hsq htot0
        have htot := hide htot0
        clear hown hsr hFr how ho3 ha htot0 hor
        go_wp2_with fail
        (
              go_loopw [41] (fun i W => DupLoop vs a wq g line col F fs.length c k1 pr i W) (fun i _ => j - (intOf i).toNat)
              case atStart => exact ⟨0, Nat.zero_le _, rfl, by
                have e : dupE a vs 0 = a := by unfold dupE; by_cases ha : a = 0; · rw [if_neg (by simp [ha])]; simp [freshTo, ha]
                                               · rw [if_pos ha]
                rw [e]; exact hsq, World.grownBy.refl _ _⟩
              case round =>
                obtain ⟨i, hi, rfl, hsr, hor⟩ := hrel
                rw [hvl.out] at hi
                have hFr := hFq.only hor hB (by omega)
                have hwr := hor.size
                by_cases hlt2 : i < j
                · obtain ⟨x, hx⟩ : ∃ x, vs[i]? = some x := ⟨_, List.getElem?_eq_getElem (by rw [hvl.out]; exact hlt2)⟩
                  have hatr := (hownq.noteT hor (by omega)).any'
                  obtain ⟨vb, vo, rfl, hvg, hvb, x0⟩ := hatr.int hx
                  have hj0 : (0 : Int) ≤ (i : Int) := by omega
                  have hj1 : (i : Int) < (j : Int) := by omega
                  have hic : (i : Int) ≤ (c6 : Int) := by omega
                  have hcon := icontains_walk (some ⟨vb, vo, none⟩) (vs.take i) c6 x wr (by rw [List.length_take]; omega) hatr.take.any
                  rw [List.length_take, hvl.out, Nat.min_eq_left hi] at hcon
                  by_cases hmm : x ∈ vs.take i
                  · have hd := hide (dupE_hit (a := a) hx hmm)
                    rw [decide_eq_true hmm] at hcon
                    clear hx hmm
                    go_wp2_with fail
                    refine hcon.mono ?_
                    rintro e W2 ⟨rfl, rfl⟩
                    go_wp2_with fail
                    refine (fail_walk B g line F fs c k1 _ 11 _ hsr hFr i1 (by omega) hm).mono ?_
                    rintro e W3 ⟨rfl, hs3, ho3⟩
                    rw [hcol.out, noted_or] at hs3
                    have ho4 := hor.trans ho3
                    clear hcon hsr hor ho3
                    go_wp2
                    go_roundw
                    case rel => exact ⟨i + 1, by rw [hvl.out]; omega, by go_num, by rw [hd.out]; exact hs3, ho4⟩
                    case measure => simp [intOf]; omega
                  · have hd := hide (dupE_miss (a := a) hx hmm)
                    rw [decide_eq_false hmm] at hcon
                    clear hx hmm
                    go_wp2_with fail
                    refine hcon.mono ?_
                    rintro e W2 ⟨rfl, rfl⟩
                    go_wp2
                    go_roundw
                    case rel => exact ⟨i + 1, by rw [hvl.out]; omega, by go_num, by rw [hd.out]; exact hsr, hor⟩
                    case measure => simp [intOf]; omega
                · obtain rfl : i = j := by omega
                  have howne := hownq.noteT hor (by omega)
                  have hoe := hoq.trans hor
                  clear hFr hFq
                  go_wp2
                  go_ret
                  exact ⟨k1, vs, _, _, rfl, howne.lower (by omega), hsr, hoe, i1, j1, (fun hp => by
                    obtain ⟨e1, e2⟩ := hnone.out hp
                    subst hp
                    refine ⟨e1, by rw [← e2]; exact hvs.out, ?_⟩
                    rw [← e2, ← e1, hcol.out]
                    show probOf line col (dupE a vs i) = _
                    rw [htot.out, hz.out]), fun p hp => by subst hp; rfl⟩)
      · have h8i : ¬ (8 : Int) < (j : Int) := by omega
        rw [if_neg h8] at htot0
        have hsq := hsr
        have hoq := how
        have hownq := hown
        have hFq := hFr
        obtain ⟨a, ha⟩ : ∃ a, E0 = a := ⟨_, rfl⟩
        rw [ha] at hsq htot0
        have htot := hide htot0
        clear hown hsr hFr how ha htot0 hor
        rename World => wq
        go_wp2_with fail
        (
              go_loopw [41] (fun i W => DupLoop vs a wq g line col F fs.length c k1 pr i W) (fun i _ => j - (intOf i).toNat)
              case atStart => exact ⟨0, Nat.zero_le _, rfl, by
                have e : dupE a vs 0 = a := by unfold dupE; by_cases ha : a = 0; · rw [if_neg (by simp [ha])]; simp [freshTo, ha]
                                               · rw [if_pos ha]
                rw [e]; exact hsq, World.grownBy.refl _ _⟩
              case round =>
                obtain ⟨i, hi, rfl, hsr, hor⟩ := hrel
                rw [hvl.out] at hi
                have hFr := hFq.only hor hB (by omega)
                have hwr := hor.size
                by_cases hlt2 : i < j
                · obtain ⟨x, hx⟩ : ∃ x, vs[i]? = some x := ⟨_, List.getElem?_eq_getElem (by rw [hvl.out]; exact hlt2)⟩
                  have hatr := (hownq.noteT hor (by omega)).any'
                  obtain ⟨vb, vo, rfl, hvg, hvb, x0⟩ := hatr.int hx
                  have hj0 : (0 : Int) ≤ (i : Int) := by omega
                  have hj1 : (i : Int) < (j : Int) := by omega
                  have hic : (i : Int) ≤ (c6 : Int) := by omega
                  have hcon := icontains_walk (some ⟨vb, vo, none⟩) (vs.take i) c6 x wr (by rw [List.length_take]; omega) hatr.take.any
                  rw [List.length_take, hvl.out, Nat.min_eq_left hi] at hcon
                  by_cases hmm : x ∈ vs.take i
                  · have hd := hide (dupE_hit (a := a) hx hmm)
                    rw [decide_eq_true hmm] at hcon
                    clear hx hmm
                    go_wp2_with fail
                    refine hcon.mono ?_
                    rintro e W2 ⟨rfl, rfl⟩
                    go_wp2_with fail
                    refine (fail_walk B g line F fs c k1 _ 11 _ hsr hFr i1 (by omega) hm).mono ?_
                    rintro e W3 ⟨rfl, hs3, ho3⟩
                    rw [hcol.out, noted_or] at hs3
                    have ho4 := hor.trans ho3
                    clear hcon hsr hor ho3
                    go_wp2
                    go_roundw
                    case rel => exact ⟨i + 1, by rw [hvl.out]; omega, by go_num, by rw [hd.out]; exact hs3, ho4⟩
                    case measure => simp [intOf]; omega
                  · have hd := hide (dupE_miss (a := a) hx hmm)
                    rw [decide_eq_false hmm] at hcon
                    clear hx hmm
                    go_wp2_with fail
                    refine hcon.mono ?_
                    rintro e W2 ⟨rfl, rfl⟩
                    go_wp2
                    go_roundw
                    case rel => exact ⟨i + 1, by rw [hvl.out]; omega, by go_num, by rw [hd.out]; exact hsr, hor⟩
                    case measure => simp [intOf]; omega
                · obtain rfl : i = j := by omega
                  have howne := hownq.noteT hor (by omega)
                  have hoe := hoq.trans hor
                  clear hFr hFq
                  go_wp2
                  go_ret
                  exact ⟨k1, vs, _, _, rfl, howne.lower (by omega), hsr, hoe, i1, j1, (fun hp => by
                    obtain ⟨e1, e2⟩ := hnone.out hp
                    subst hp
                    refine ⟨e1, by rw [← e2]; exact hvs.out, ?_⟩
                    rw [← e2, ← e1, hcol.out]
                    show probOf line col (dupE a vs i) = _
                    rw [htot.out, hz.out]), fun p hp => by subst hp; rfl⟩)
end Go.Proofs.YtimcdikeajbabaaGreatDoor

namespace Go.Proofs.YtimcdikeajbabaaGreatDoor
open Go.RowKit
set_option maxRecDepth 100000

/-! Records. -/
def setB (n p : Int) : ByteArray := ⟨(fmtV p n).1.toArray⟩
def startB (s : Int × Int) : ByteArray := dayB s.1.toNat ++ (⟨#[32]⟩ : ByteArray) ++ decB (s.2 + 1).toNat
/-- Texts with a byte between. -/
def joinZ (c : UInt8) (zs : List ByteArray) : ByteArray := ⟨(Lib.join (zs.map (·.data.toList)) [c]).toArray⟩
def rowK (n : Int) (x : Cls) : List ByteArray := [x.1, x.2.1, x.2.2.1, decB x.2.2.2.1.toNat, joinZ 47 (x.2.2.2.2.1.map (setB n)), decB x.2.2.2.2.2.1.toNat, (joinV x.2.2.2.2.2.2.1).2, (joinV x.2.2.2.2.2.2.2.1).2, joinZ 59 (x.2.2.2.2.2.2.2.2.map startB)]
def rowsK (d sl b m n : Int) (l : List Cls) : List (List ByteArray) := if validK d sl b m n l = 0 then l.map (rowK n) else []
theorem rowsK_len (d sl b m n : Int) (l : List Cls) : ∀ x ∈ rowsK d sl b m n l, x.length ≤ 9223372036854775807 := by
  intro x hx
  unfold rowsK at hx
  split at hx
  · obtain ⟨l, -, rfl⟩ := List.mem_map.1 hx
    simp [rowK]
  · simp at hx
theorem clsErr_all {d sl n : Int} {l : List Cls} {N : Nat} (h : clsErr d sl n l N = 0) : ∀ j, j < N → clsEi d sl n l j = 0 := by
  intro j
  induction N with
  | zero => intro hj; omega
  | succ N ih =>
    intro hj
    by_cases h0 : clsErr d sl n l N = 0
    · rw [clsErr_next h0] at h
      by_cases e : j = N
      · rw [e]; exact h
      · exact ih h0 (by omega)
    · rw [clsErr, if_pos h0] at h
      exact absurd h h0
/-- What is right with a class. -/
structure ClsOk (d sl n : Int) (x : Cls) : Prop where
  code : codeB x.1 = true
  course : codeB x.2.1 = true
  part : codeB x.2.2.1 = true
  len : 1 ≤ x.2.2.2.1 ∧ x.2.2.2.1 ≤ sl
  pats : patsE n x.2.2.2.2.1 = 0
  seats : 0 ≤ x.2.2.2.2.2.1 ∧ x.2.2.2.2.2.1 ≤ 9999
  feats : x.2.2.2.2.2.2.1.length ≤ 8 ∧ ascTo x.2.2.2.2.2.2.1 x.2.2.2.2.2.2.1.length = true
  staff : x.2.2.2.2.2.2.2.1.length ≤ 8 ∧ ascTo x.2.2.2.2.2.2.2.1 x.2.2.2.2.2.2.2.1.length = true
  starts : x.2.2.2.2.2.2.2.2.length ≤ 24 ∧ startsTo d sl x.2.2.2.1 x.2.2.2.2.2.2.2.2 x.2.2.2.2.2.2.2.2.length = true
theorem ite_zero {c : Prop} [Decidable c] {a r : Nat} (ha : a ≠ 0) (h : (if c then a else r) = 0) : ¬ c ∧ r = 0 := by
  by_cases hc : c
  · rw [if_pos hc] at h; exact absurd h ha
  · rw [if_neg hc] at h; exact ⟨hc, h⟩
theorem ite_self {a r : Nat} (h : (if a ≠ 0 then a else r) = 0) : a = 0 ∧ r = 0 := by
  by_cases hc : a = 0
  · rw [if_neg (by simp [hc])] at h; exact ⟨hc, h⟩
  · rw [if_pos hc] at h; exact absurd h hc
theorem bool_not {x : Bool} (h : ¬ x = false) : x = true := by cases x; exact absurd rfl h; rfl
theorem clsEx_ok {d sl n : Int} {x : Cls} (h : clsEx d sl n x = 0) : ClsOk d sl n x := by
  unfold clsEx at h
  obtain ⟨h1, h⟩ := ite_zero (by decide) h
  obtain ⟨h2, h⟩ := ite_zero (by decide) h
  obtain ⟨h3, h⟩ := ite_zero (by decide) h
  obtain ⟨h4, h⟩ := ite_zero (by decide) h
  obtain ⟨h5, h⟩ := ite_zero (by decide) h
  obtain ⟨h6, h⟩ := ite_self h
  obtain ⟨h7, h⟩ := ite_zero (by decide) h
  obtain ⟨h8, h⟩ := ite_zero (by decide) h
  obtain ⟨h9, h⟩ := ite_zero (by decide) h
  obtain ⟨h10, h⟩ := ite_zero (by decide) h
  obtain ⟨h11, h⟩ := ite_zero (by decide) h
  obtain ⟨h12, h⟩ := ite_zero (by decide) h
  obtain ⟨h13, h⟩ := ite_zero (by decide) h
  obtain ⟨h14, h⟩ := ite_zero (by decide) h
  exact ⟨bool_not h1, bool_not h2, bool_not h3, ⟨by omega, by omega⟩, h6, ⟨by omega, by omega⟩, ⟨by omega, bool_not h11⟩, ⟨by omega, bool_not h12⟩, ⟨by omega, bool_not h14⟩⟩
theorem validK_parts {d sl b m n : Int} {l : List Cls} (h : validK d sl b m n l = 0) : weekB d sl b m n = true ∧ l.length ≤ 24 ∧ ∀ (j : Nat) (x : Cls), l[j]? = some x → ClsOk d sl n x ∧ ¬ 0 ≤ idxS x.1 ((codesK l).take j) := by
  unfold validK at h
  cases hw : weekB d sl b m n with
  | false => rw [if_pos hw] at h; omega
  | true =>
    rw [if_neg (by rw [hw]; simp)] at h
    by_cases h24 : 24 < l.length
    · rw [if_pos h24] at h; omega
    · rw [if_neg h24] at h
      refine ⟨rfl, by omega, fun j x hx => ?_⟩
      have hj := (List.getElem?_eq_some_iff.1 hx).1
      have := clsErr_all h j hj
      unfold clsEi at this
      rw [hx] at this
      dsimp only at this
      unfold clsE at this
      by_cases h0 : clsEx d sl n x = 0
      · rw [if_neg (by simp [h0])] at this
        refine ⟨clsEx_ok h0, fun hi => ?_⟩
        rw [if_pos hi] at this
        omega
      · rw [if_pos h0] at this
        exact absurd this h0
theorem patsTo_at {n : Int} {ps : List Int} : ∀ {k : Nat}, patsTo n ps k = true → ∀ j, j < k → validB (ps.getD j 0) n = true ∧ ps.getD j 0 ∉ ps.take j
  | 0, _, j, hj => by omega
  | k + 1, h, j, hj => by
    rw [patsTo, Bool.and_eq_true, Bool.and_eq_true] at h
    by_cases e : j = k
    · subst e
      refine ⟨h.2.1, fun hm => ?_⟩
      have := h.2.2
      simp only [Bool.not_eq_true'] at this
      rw [List.contains_iff_mem.2 hm] at this
      cases this
    · exact patsTo_at h.1 j (by omega)
theorem patsE_parts {n : Int} {ps : List Int} (h : patsE n ps = 0) : 1 ≤ ps.length ∧ ps.length ≤ 8 ∧ patsTo n ps ps.length = true := by
  unfold patsE at h
  repeat' split at h
  all_goals first | omega | skip
  exact ⟨by omega, by omega, by simp_all⟩
theorem startsTo_at {d sl len : Int} {ss : List (Int × Int)} : ∀ {k : Nat}, startsTo d sl len ss k = true → ∀ j, j < k → possB d sl len (ss.getD j (0, 0)) = true ∧ (j = 0 ∨ lessB (ss.getD (j - 1) (0, 0)) (ss.getD j (0, 0)) = true)
  | 0, _, j, hj => by omega
  | k + 1, h, j, hj => by
    rw [startsTo, Bool.and_eq_true, Bool.and_eq_true] at h
    by_cases e : j = k
    · subst e
      refine ⟨h.2.1, ?_⟩
      have := h.2.2
      rw [Bool.or_eq_true, decide_eq_true_eq] at this
      exact this
    · exact startsTo_at h.1 j (by omega)
/-! Times. -/
def allStarts (d sl len : Nat) : List (Int × Int) := (List.range d).flatMap fun (a : Nat) => (List.range (sl + 1 - len)).map fun (c : Nat) => ((a : Int), (c : Int))
theorem allStarts_len (d sl len : Nat) : (allStarts d sl len).length = d * (sl + 1 - len) := by
  unfold allStarts
  induction d with
  | zero => simp
  | succ d ih => rw [List.range_succ, List.flatMap_append, List.length_append, ih]; simp [Nat.add_mul]
def begins (d sl : Int) (x : Cls) : List (Int × Int) := if x.2.2.2.2.2.2.2.2 = [] then allStarts d.toNat sl.toNat x.2.2.2.1.toNat else x.2.2.2.2.2.2.2.2
def patT (len : Int) (bs : List (Int × Int)) (p : Int) : List T4 := bs.map fun s => (p, s.1, s.2, len)
/-- The times of a class. -/
def timesK (d sl b m : Int) (x : Cls) : List T4 :=
  if gridV d sl b m ≠ 0 ∨ x.2.2.2.1 < 1 ∨ sl < x.2.2.2.1 then [] else
  if 4096 < (x.2.2.2.2.1.flatMap (patT x.2.2.2.1 (begins d sl x))).length then [] else x.2.2.2.2.1.flatMap (patT x.2.2.2.1 (begins d sl x))
theorem patT_len (len : Int) (bs : List (Int × Int)) (ps : List Int) : (ps.flatMap (patT len bs)).length = ps.length * bs.length := by
  induction ps with
  | nil => simp
  | cons p ps ih => rw [List.flatMap_cons, List.length_append, ih]; simp [patT, Nat.add_mul]; omega
end Go.Proofs.YtimcdikeajbabaaGreatDoor
