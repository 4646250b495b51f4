/- Walk of Scanner.Number whose first digit is not 0, whether a problem is noted or not. Conditions: at most 18 digits. codes.Compare and what it calls leave blocks and draws behind, and nothing else. No condition. Walk of timetableref03.Digits where a first digit is not 0. Conditions: at most 18 digits. Walk of timetableref03.Compare. Conditions: the texts' lengths are ints. -/
import Derived.Test.YthejgholpkeldaaGreatDoorRows
import Derived.WalkKit
import Derived.WalkSpells
import Derived.WalkLawsBesides
import Derived.BigGuardPart
import Derived.Lib.Hide
import Derived.Laws.BitsAllLaws
import Derived.Laws.BitsLemmas
import Derived.Lib.LaidTab
import Derived.Test.YthejgholpkeldaaGreatDoorShelf
import Derived.Lib.ConvBytes
import Derived.Deep.QuietTactic
import Derived.BigQuiet
import Derived.Laws.ResultCell
import Derived.RegionTactic
import Derived.BigRegion
import Derived.Deep.RegionHeld3
import Derived.Deep.DeepCutAuto
import Derived.Lib.SmallJoins
import Derived.Lib.SplitLaws
import Derived.Lib.CountLaws
import Derived.Lib.IndexMore
import Derived.Lib.Split
import Derived.Lib.Join
import Derived.Test.YthejgholpkeldaaGreatDoorShelfT
import Derived.Test.YthejgholpkeldaaGreatDoorZNumber
import Derived.Test.YthejgholpkeldaaGreatDoorZSameL
import Derived.Lib.ItoaNum
import Derived.Laws.AppendOwn
import Derived.Test.YthejgholpkeldaaGreatDoorZCmpC
namespace Go.Proofs.YthejgholpkeldaaGreatDoor
open Go.RowKit
set_option maxRecDepth 100000

/-- A number of at most so many digits that does not begin with 0. -/
def zeroS (s : ByteArray) : Bool := if h : 0 < s.size then decide (s[0].toNat = 48) else false
def numS (most : Nat) (s : ByteArray) : Option Nat := if zeroS s = true then none else numE most s
def NumAnyS (most g : Nat) (line : Int) (F : Option Addr) (fs : List Fld) (c k : Nat) (pr : Option Prob) (w : World) (e : Ending) (w' : World) : Prop :=
  ∃ (k' n : Nat) (pr' : Option Prob), e = .returned (.int .i64 (n : Int)) ∧ Scan w' g line F fs.length c k' pr' ∧ Only g w w' ∧ 1 ≤ k' ∧ k' ≤ k + 1 ∧ (pr = none → k' = k + 1 ∧ n = (numE most (textAt fs k)).getD 0 ∧ pr' = numP (numS most (textAt fs k)) (line, colAt fs (k + 1), 4)) ∧ (∀ p, pr = some p → pr' = some p ∧ n = 0)
set_option maxHeartbeats 800000 in
theorem num_anyS (B g : Nat) (line : Int) (F : Option Addr) (fs : List Fld) (c k most : Nat) (pr : Option Prob) (w : World) (h : Scan w g line F fs.length c k pr) (hF : FieldsAt B w F fs) (h2 : k < fs.length) (hm : fs.length ≤ 1000) (hB : B ≤ g) (h1 : ∀ p, pr = some p → 1 ≤ k) (h18 : most ≤ 18) (hsz : (textAt fs k).size ≤ 9223372036854775807) :
    Calls Tryz.prog 65 #[.pointer (some ⟨g, 0, none⟩), .int .i64 most, .bool false] w fun e w' => NumAnyS most g line F fs c k pr w e w' := by
  have hlt := h.lt
  cases pr with
  | none =>
    obtain ⟨s, hs⟩ : ∃ s, textAt fs k = s := ⟨_, rfl⟩
    have hgo := fnext_go B g line F fs c k w h hF h2 hm hB
    have hdig := fun (V : World) => digits_walk s most h18 V (by rw [← hs]; exact hsz)
    rw [hs] at hgo
    cases ho : numE most s with
    | none =>
      have hfin : Hid (numP (numS most (textAt fs k)) (line, colAt fs (k + 1), 4) = some (line, colAt fs (k + 1), 4) ∧ (numE most (textAt fs k)).getD 0 = 0) := hide (by
        rw [hs, ho]
        refine ⟨?_, rfl⟩
        unfold numS
        split
        · rfl
        · rw [ho]; rfl)
      rw [ho] at hdig
      replace hdig := hide hdig
      replace hs := hide hs
      replace ho := hide ho
      go_enter Tryz.func65, Tryz.ntmps65
      go_wp2_with fail
      refine hgo.mono ?_
      rintro e w1 ⟨rfl, hs1, ho1⟩
      go_wp2_with fail
      refine (hdig.out w1).mono ?_
      rintro e w2 ⟨rfl, hb2⟩
      rw [show digV none = .tuple #[.int .i64 0, .bool false] from rfl]
      have hs2 := hs1.later hb2
      have ho2 := ho1.later hb2
      go_wp2_with fail
      refine (fail_walk B g line F fs c (k + 1) none 4 w2 hs2 (hF.only ho2 hB (by omega)) (by omega) (by omega) hm).mono ?_
      rintro e w3 ⟨rfl, hs3, ho3⟩
      go_wp2
      go_ret
      exact ⟨k + 1, 0, _, rfl, hs3, ho2.trans ho3, by omega, Nat.le_refl _, fun _ => ⟨rfl, hfin.out.2.symm, hfin.out.1.symm⟩, fun p hp => by cases hp⟩
    | some n =>
      have hpos : 0 < s.size := by
        apply Classical.byContradiction
        intro hn
        unfold numE at ho
        rw [if_neg (fun h => hn h.1)] at ho
        cases ho
      have h0 : (0 : Int) < (s.size : Int) := by omega
      rw [ho] at hdig
      by_cases hz : s[0].toNat = 48
      · have hzi : ((s[0].toNat : Nat) : Int) = 48 := by omega
        have hfin : Hid (numP (numS most (textAt fs k)) (line, colAt fs (k + 1), 4) = some (line, colAt fs (k + 1), 4) ∧ (numE most (textAt fs k)).getD 0 = n) := hide (by
          rw [hs, ho]
          refine ⟨?_, rfl⟩
          unfold numS
          rw [if_pos (by unfold zeroS; rw [dif_pos hpos]; simpa using hz)]; rfl)
        replace hdig := hide hdig
        replace hs := hide hs
        replace ho := hide ho
        go_enter Tryz.func65, Tryz.ntmps65
        go_wp2_with fail
        refine hgo.mono ?_
        rintro e w1 ⟨rfl, hs1, ho1⟩
        go_wp2_with fail
        refine (hdig.out w1).mono ?_
        rintro e w2 ⟨rfl, hb2⟩
        rw [show digV (some n) = .tuple #[.int .i64 n, .bool true] from rfl]
        have hs2 := hs1.later hb2
        have ho2 := ho1.later hb2
        go_wp2_with fail
        refine (fail_walk B g line F fs c (k + 1) none 4 w2 hs2 (hF.only ho2 hB (by omega)) (by omega) (by omega) hm).mono ?_
        rintro e w3 ⟨rfl, hs3, ho3⟩
        go_wp2
        go_ret
        exact ⟨k + 1, n, _, rfl, hs3, ho2.trans ho3, by omega, Nat.le_refl _, fun _ => ⟨rfl, hfin.out.2.symm, hfin.out.1.symm⟩, fun p hp => by cases hp⟩
      · have hzi : ¬ ((s[0].toNat : Nat) : Int) = 48 := by omega
        have hfin : Hid (numP (numS most (textAt fs k)) (line, colAt fs (k + 1), 4) = none ∧ (numE most (textAt fs k)).getD 0 = n) := hide (by
          rw [hs, ho]
          refine ⟨?_, rfl⟩
          unfold numS
          rw [if_neg (by unfold zeroS; rw [dif_pos hpos]; simpa using hz), ho]; rfl)
        replace hdig := hide hdig
        replace hs := hide hs
        replace ho := hide ho
        go_enter Tryz.func65, Tryz.ntmps65
        go_wp2_with fail
        refine hgo.mono ?_
        rintro e w1 ⟨rfl, hs1, ho1⟩
        go_wp2_with fail
        refine (hdig.out w1).mono ?_
        rintro e w2 ⟨rfl, hb2⟩
        rw [show digV (some n) = .tuple #[.int .i64 n, .bool true] from rfl]
        have hs2 := hs1.later hb2
        have ho2 := ho1.later hb2
        go_wp2_with fail
        go_ret
        exact ⟨k + 1, n, _, rfl, hs2, ho2, by omega, Nat.le_refl _, fun _ => ⟨rfl, hfin.out.2.symm, hfin.out.1.symm⟩, fun p hp => by cases hp⟩
  | some p =>
    have hk := h1 p rfl
    go_enter Tryz.func65, Tryz.ntmps65
    go_wp2_with fail
    refine (fnext_stop g line F fs.length c k p w h).mono ?_
    rintro e w1 ⟨rfl, rfl⟩
    go_wp2_with fail
    refine (digits_walk ⟨#[]⟩ most h18 w (by decide)).mono ?_
    rintro e w2 ⟨rfl, hb2⟩
    rw [numE_none, show digV none = .tuple #[.int .i64 0, .bool false] from rfl]
    have hs2 := h.later hb2
    have ho2 := (Only.refl g w).later hb2
    go_wp2_with fail
    refine (fail_walk B g line F fs c k (some p) 4 w2 hs2 (hF.only ho2 hB (by omega)) hk (by omega) hm).mono ?_
    rintro e w3 ⟨rfl, hs3, ho3⟩
    go_wp2
    go_ret
    exact ⟨k, 0, _, rfl, hs3, ho2.trans ho3, hk, by omega, (fun hp => by cases hp), fun q hq => ⟨hq, rfl⟩⟩
end Go.Proofs.YthejgholpkeldaaGreatDoor

namespace Go.Proofs.YthejgholpkeldaaGreatDoor
open Go.RowKit
set_option maxRecDepth 100000

/-- Blocks and draws behind a world. -/
def Gr (w w' : World) : Prop := Below w.heap.size w w' ∧ w.drawn ≤ w'.drawn
theorem Gr.refl (w : World) : Gr w w := ⟨Below.refl _ _, Nat.le_refl _⟩
theorem Gr.trans {a b c : World} (h : Gr a b) (k : Gr b c) : Gr a c := ⟨ext_trans h.1 k.1, Nat.le_trans h.2 k.2⟩
theorem Gr.alloc {a b : World} (h : Gr a b) (o : Obj) : Gr a (b.alloc o) := ⟨ext_alloc h.1 o, h.2⟩
theorem Gr.drew {a b : World} (h : Gr a b) : Gr a b.drew := ⟨ext_drew h.1, Nat.le_succ_of_le h.2⟩
theorem Gr.grown {a b : World} (h : Gr a b) : ∃ (q : Nat) (os : Array Obj), b = Sort.grow (a.drewN q) os := by
  obtain ⟨⟨h1, h2, h3, h4, h5⟩, h6⟩ := h
  refine ⟨b.drawn - a.drawn, b.heap.extract a.heap.size b.heap.size, ?_⟩
  have e : a.heap ++ b.heap.extract a.heap.size b.heap.size = b.heap := by
    apply Array.ext_getElem?
    intro i
    by_cases hi : i < a.heap.size
    · rw [Array.getElem?_append_left hi]; exact (h5 i hi).symm
    · rw [Array.getElem?_append_right (by omega)]
      rcases Nat.lt_or_ge i b.heap.size with hb | hb
      · rw [Array.getElem?_extract_of_lt (by omega)]
        simp only [Nat.add_sub_of_le (Nat.le_of_not_lt hi)]
        exact (Array.getElem?_eq_getElem hb).symm
      · rw [Array.getElem?_eq_none (by simp; omega), Array.getElem?_eq_none hb]
  unfold Sort.grow World.drewN
  obtain ⟨hp, tp, dr, os, ou⟩ := b
  obtain ⟨hp', tp', dr', os', ou'⟩ := a
  dsimp only at *
  subst h1 h2 h3
  rw [e, Nat.add_sub_cancel' h6]
set_option maxHeartbeats 2000000 in
theorem end1_walkG (p : Nat) (s : ByteArray) (k : Nat) (w : World) (hc : w.cell? ⟨p, 0, none⟩ = some (.string s)) (hk : k < s.size) :
    Calls Tryz.prog 104 #[.int .i64 k, .pointer (some ⟨p, 0, none⟩)] w fun e w' => e = .returned (.bool (dgAt s k != dgAt s 0)) ∧ Gr w w' := by
  have hl : p < w.heap.size := World.block_lt_of_cell? _ _ hc
  have h0 : 0 < s.size := by omega
  have hk1 : (k : Int) < (s.size : Int) := by omega
  have hk0 : (0 : Int) ≤ (k : Int) := by omega
  have h01 : (0 : Int) < (s.size : Int) := by omega
  have hA := dgAt_of hk
  have hB := dgAt_of h0
  obtain ⟨a, ha⟩ : ∃ a, s[k].toNat = a := ⟨_, rfl⟩
  obtain ⟨b, hb⟩ : ∃ b, s[0].toNat = b := ⟨_, rfl⟩
  rw [ha] at hA
  rw [hb] at hB
  obtain ⟨x, hx⟩ : ∃ x, dgAt s k = x := ⟨_, rfl⟩
  obtain ⟨y, hy⟩ : ∃ y, dgAt s 0 = y := ⟨_, rfl⟩
  rw [hx] at hA ⊢
  rw [hy] at hB ⊢
  have s1 := hide (fun (U : World) (hU : Gr w U) => (digN_at hA U).mono fun e w' ⟨he, hb⟩ => (⟨he, hb ▸ hU, cell_later (hb ▸ hU : Gr _ _).1 hc⟩ : e = Ending.returned (.bool x) ∧ Gr w w' ∧ w'.cell? ⟨p, 0, none⟩ = some (Value.string s)))
  have s2 := hide (fun (U : World) (hU : Gr w U) => (digN_at hB U).mono fun e w' ⟨he, hb⟩ => (⟨he, hb ▸ hU, cell_later (hb ▸ hU : Gr _ _).1 hc⟩ : e = Ending.returned (.bool y) ∧ Gr w w' ∧ w'.cell? ⟨p, 0, none⟩ = some (Value.string s)))
  have hrefl := Gr.refl w
  have hcd : w.drew.cell? ⟨p, 0, none⟩ = some (.string s) := hc
  clear hx hy hA hB
  cases x <;> cases y
  all_goals
    go_enter Tryz.func104, Tryz.ntmps104
    go_upto_region 1 with fail
    go_region_held3 (fun W' => W'.cell? ⟨p, 0, none⟩ = some (.string s)) (first | with_reducible assumption) (first | (go_at_call 105; (with_reducible refine (s1.out _ ?_).mono ?_); (repeat (first | (with_reducible assumption) | (with_reducible refine Gr.alloc ?_ _) | (with_reducible refine Gr.drew ?_))); rintro e w6 ⟨rfl, hb6, hx6⟩) | (go_at_call 105; (with_reducible refine (s2.out _ ?_).mono ?_); (repeat (first | (with_reducible assumption) | (with_reducible refine Gr.alloc ?_ _) | (with_reducible refine Gr.drew ?_))); rintro e w7 ⟨rfl, hb7, hx7⟩))
    all_goals
      go_wp2
      go_ret
      exact ⟨rfl, hb7⟩
set_option maxHeartbeats 2000000 in
theorem element_walkG (s : ByteArray) (w : World) (h0 : 0 < s.size) (hs : s.size ≤ 9223372036854775807) :
    Calls Tryz.prog 72 #[.string s] w fun e w' => e = .returned (.int .i64 (elemN s.data.toList : Nat)) ∧ Gr w w' := by
  have eg : ∀ args w, (callFunc 104 args).run Tryz.prog w = .ok (.enter 104 args) w := enters_of Tryz.func104 (by kernel_rfl) rfl
  have hb0 : Gr w (w.alloc (.cells #[.string s] 9)) := (by repeat (first | exact Gr.refl _ | refine Gr.alloc ?_ _ | refine Gr.drew ?_ | refine Gr.trans ?_ (by assumption)))
  have c0 : (w.alloc (.cells #[.string s] 9)).cell? ⟨w.heap.size, 0, none⟩ = some (.string s) := by simp
  obtain ⟨W, hW⟩ : ∃ W, w.alloc (.cells #[.string s] 9) = W := ⟨_, rfl⟩
  obtain ⟨p, hp⟩ : ∃ p, w.heap.size = p := ⟨_, rfl⟩
  rw [hW] at hb0 c0
  rw [hp] at c0
  replace hW := hide hW
  replace hp := hide hp
  go_enter Tryz.func72, Tryz.ntmps72
  go_wp2_with fail
  rw [hW.out, hp.out]
  go_loopw [4] (fun i wr => ∃ n : Nat, 1 ≤ n ∧ n ≤ s.size ∧ i = .int .i64 n ∧ (∀ j, j < n → dgAt s j = dgAt s 0) ∧ Gr W wr) (fun i _ => s.size - (intOf i).toNat)
  case atStart => exact ⟨1, Nat.le_refl _, h0, rfl, fun j hj => by rw [show j = 0 from by omega], Gr.refl _⟩
  case round =>
    obtain ⟨n, hn1, hn2, rfl, hall, hb⟩ := hrel
    have c1 := cell_later hb.1 c0
    have hpl := World.block_lt_of_cell? _ _ c1
    by_cases hlt : n < s.size
    · have hcall := end1_walkG p s n wr c1 hlt
      have hn1i : (n : Int) < (s.size : Int) := by omega
      have hwr : IntKind.i64.wrap ((n : Int) + 1) = (n : Int) + 1 := by rw [IntKind.wrap_i64]; omega
      have hdone := fun h => hide (elem_done hn1 hn2 hall (Or.inr h))
      have hnext : dgAt s n = dgAt s 0 → Hid (∀ j, j < n + 1 → dgAt s j = dgAt s 0) := fun h => hide fun j hj => by
        by_cases e : j = n
        · rw [e]; exact h
        · exact hall j (by omega)
      obtain ⟨x, hx⟩ : ∃ x, (dgAt s n != dgAt s 0) = x := ⟨_, rfl⟩
      rw [hx] at hcall
      replace hall := hide hall
      cases x with
      | true =>
        have hd := hdone (by simpa using hx)
        clear hdone hnext hx
        go_wp2_with (go_at_fn 104; refine hcall.mono ?_; rintro e w2 ⟨rfl, hb2⟩)
        go_ret
        exact ⟨by rw [hd.out]; rfl, Gr.trans hb0 (Gr.trans hb hb2)⟩
      | false =>
        have hd := hnext (by simpa using hx)
        clear hdone hnext hx
        go_wp2_with (go_at_fn 104; refine hcall.mono ?_; rintro e w2 ⟨rfl, hb2⟩)
        go_roundw
        case rel => exact ⟨n + 1, by omega, by omega, by go_num, hd.out, Gr.trans hb hb2⟩
        case measure => simp [intOf]; omega
    · obtain rfl : n = s.size := by omega
      have hd := hide (elem_done hn1 hn2 hall (Or.inl rfl))
      clear hall
      go_wp2
      go_ret
      exact ⟨by rw [hd.out]; rfl, Gr.trans hb0 hb⟩
set_option maxHeartbeats 4000000 in
theorem elements_walkG (P Q : ByteArray) (w : World) (hp : 0 < P.size) (hq : 0 < Q.size) :
    Calls Tryz.prog 73 #[.string P, .string Q] w fun e w' => e = .returned (.int .i64 (elemC P.data.toList Q.data.toList)) ∧ Gr w w' := by
  have hA := dg0_of hp
  have hB := dg0_of hq
  have hp1 : (0 : Int) < (P.size : Int) := by omega
  have hq1 : (0 : Int) < (Q.size : Int) := by omega
  obtain ⟨V, hV⟩ : ∃ V, elemC P.data.toList Q.data.toList = V := ⟨_, rfl⟩
  rw [hV]
  unfold elemC at hV
  have hcS := cmpS_walk P Q
  have htP := fun w => Tryz.strings_TrimLeft_one P 48 (by decide) w
  have htQ := fun w => Tryz.strings_TrimLeft_one Q 48 (by decide) w
  rw [trim_bare] at htP htQ
  rw [toList_dataL, toList_dataL] at hcS
  have hnum := numC_or (bareL P.data.toList) (bareL Q.data.toList)
  obtain ⟨U, hU⟩ : ∃ U : ByteArray, (⟨(bareL P.data.toList).toArray⟩ : ByteArray) = U := ⟨_, rfl⟩
  obtain ⟨T, hT⟩ : ∃ T : ByteArray, (⟨(bareL Q.data.toList).toArray⟩ : ByteArray) = T := ⟨_, rfl⟩
  have hUl : bareL P.data.toList = U.data.toList := by rw [← hU]
  have hTl : bareL Q.data.toList = T.data.toList := by rw [← hT]
  rw [hU] at htP
  rw [hT] at htQ
  rw [hUl, hTl] at hnum hV
  have hcU := cmpS_walk U T
  rw [toList_dataL, toList_dataL] at hcU
  have hci := fun w => Tryz.cmp_Compare_int U.size T.size w
  rw [len_size, len_size] at hnum
  obtain ⟨a, ha⟩ : ∃ a, P[0].toNat = a := ⟨_, rfl⟩
  obtain ⟨b, hb⟩ : ∃ b, Q[0].toNat = b := ⟨_, rfl⟩
  rw [ha] at hA
  rw [hb] at hB
  obtain ⟨x, hx⟩ : ∃ x, dg0 P.data.toList = x := ⟨_, rfl⟩
  obtain ⟨y, hy⟩ : ∃ y, dg0 Q.data.toList = y := ⟨_, rfl⟩
  rw [hx] at hA hV
  rw [hy] at hB hV
  obtain ⟨i1, hi1⟩ : ∃ i1, Lib.compareInt U.size T.size = i1 := ⟨_, rfl⟩
  obtain ⟨i2, hi2⟩ : ∃ i2, ordL U.data.toList T.data.toList = i2 := ⟨_, rfl⟩
  rw [hi1] at hci hnum
  rw [hi2] at hcU hnum
  have d1 := hide (fun w => digN_at hA w)
  have d2 := hide (fun w => digN_at hB w)
  replace htP := hide htP
  replace htQ := hide htQ
  replace hcS := hide hcS
  replace hcU := hide hcU
  replace hci := hide hci
  replace hnum := hide hnum
  clear hx hy hA hB hU hT hUl hTl hi1 hi2
  cases x with
  | true =>
    cases y with
    | true =>
      have hVV : Hid (V = if i1 ≠ 0 then i1 else i2) := hide (hV.symm.trans hnum.out.symm)
      clear hV
      have hor := fun (w : World) => or_walk w.heap.size i1 i2 (w.alloc (.cells #[.int .i64 i1, .int .i64 i2] 3)) (by simp) (by simp)
      replace hor := hide hor
      by_cases h1 : i1 = 0
      · rw [if_neg (by simpa using h1)] at hVV
        have hor2 := hide (fun (w : World) => (hor.out w).mono fun e w' ⟨he, hw⟩ => (⟨he.trans (by rw [if_neg (by simpa using h1)]), hw⟩ : e = Ending.returned (.int .i64 i2) ∧ _ = w'))
        replace h1 := hide h1
        go_enter Tryz.func73, Tryz.ntmps73
        go_wp2_with (first | (go_at_call 105; first | (with_reducible refine (d1.out _).mono ?_; rintro e w' ⟨rfl, rfl⟩) | (with_reducible refine (d2.out _).mono ?_; rintro e w' ⟨rfl, rfl⟩)) | (go_at_call 106; first | (with_reducible refine (htP.out _).mono ?_; rintro e w' ⟨rfl, rfl⟩) | (with_reducible refine (htQ.out _).mono ?_; rintro e w' ⟨rfl, rfl⟩)) | (go_at_call 75; refine (hci.out _).mono ?_; rintro e w' ⟨rfl, rfl⟩) | (go_at_call 76; refine (hcU.out _).mono ?_; rintro e w' ⟨rfl, rfl⟩) | (go_at_call 74; refine (hor2.out _).mono ?_; rintro e w' ⟨rfl, rfl⟩))
        all_goals first | (exfalso; omega) | (go_ret; exact ⟨by rw [hVV.out]; rfl, (by repeat (first | exact Gr.refl _ | refine Gr.alloc ?_ _ | refine Gr.drew ?_ | refine Gr.trans ?_ (by assumption)))⟩)
      · rw [if_pos h1] at hVV
        have hor2 := hide (fun (w : World) => (hor.out w).mono fun e w' ⟨he, hw⟩ => (⟨he.trans (by rw [if_pos h1]), hw⟩ : e = Ending.returned (.int .i64 i1) ∧ _ = w'))
        replace h1 := hide h1
        go_enter Tryz.func73, Tryz.ntmps73
        go_wp2_with (first | (go_at_call 105; first | (with_reducible refine (d1.out _).mono ?_; rintro e w' ⟨rfl, rfl⟩) | (with_reducible refine (d2.out _).mono ?_; rintro e w' ⟨rfl, rfl⟩)) | (go_at_call 106; first | (with_reducible refine (htP.out _).mono ?_; rintro e w' ⟨rfl, rfl⟩) | (with_reducible refine (htQ.out _).mono ?_; rintro e w' ⟨rfl, rfl⟩)) | (go_at_call 75; refine (hci.out _).mono ?_; rintro e w' ⟨rfl, rfl⟩) | (go_at_call 76; refine (hcU.out _).mono ?_; rintro e w' ⟨rfl, rfl⟩) | (go_at_call 74; refine (hor2.out _).mono ?_; rintro e w' ⟨rfl, rfl⟩))
        all_goals first | (exfalso; omega) | (go_ret; exact ⟨by rw [hVV.out]; rfl, (by repeat (first | exact Gr.refl _ | refine Gr.alloc ?_ _ | refine Gr.drew ?_ | refine Gr.trans ?_ (by assumption)))⟩)

    | false =>
      have hVV : Hid (V = -1) := hide (hV.symm.trans rfl)
      clear hV
      go_enter Tryz.func73, Tryz.ntmps73
      go_wp2_with (first | (go_at_call 105; first | (with_reducible refine (d1.out _).mono ?_; rintro e w' ⟨rfl, rfl⟩) | (with_reducible refine (d2.out _).mono ?_; rintro e w' ⟨rfl, rfl⟩)))
      go_ret
      exact ⟨by rw [hVV.out]; rfl, Gr.refl _⟩
  | false =>
    cases y with
    | true =>
      have hVV : Hid (V = 1) := hide (hV.symm.trans rfl)
      clear hV
      go_enter Tryz.func73, Tryz.ntmps73
      go_wp2_with (first | (go_at_call 105; first | (with_reducible refine (d1.out _).mono ?_; rintro e w' ⟨rfl, rfl⟩) | (with_reducible refine (d2.out _).mono ?_; rintro e w' ⟨rfl, rfl⟩)))
      go_ret
      exact ⟨by rw [hVV.out]; rfl, Gr.refl _⟩
    | false =>
      have hVV : Hid (V = ordL P.data.toList Q.data.toList) := hide (hV.symm.trans rfl)
      clear hV
      go_enter Tryz.func73, Tryz.ntmps73
      go_wp2_with (first | (go_at_call 105; first | (with_reducible refine (d1.out _).mono ?_; rintro e w' ⟨rfl, rfl⟩) | (with_reducible refine (d2.out _).mono ?_; rintro e w' ⟨rfl, rfl⟩)) | (go_at_call 76; refine (hcS.out _).mono ?_; rintro e w' ⟨rfl, rfl⟩))
      go_ret
      exact ⟨by rw [hVV.out]; rfl, Gr.refl _⟩
def CmpStG (a b : ByteArray) (V : Int) (w : World) (x y : Value) (wr : World) : Prop :=
  ∃ (X Y : ByteArray) (n : Nat), x = .string X ∧ y = .string Y ∧ X.size ≤ n ∧ X.size ≤ 9223372036854775807 ∧ Y.size ≤ 9223372036854775807 ∧ cmpF a.data.toList b.data.toList n X.data.toList Y.data.toList = V ∧ Gr w wr
set_option maxHeartbeats 8000000 in
theorem ccompare_walkG (a b : ByteArray) (w : World) (ha : a.size ≤ 9223372036854775807) (hb : b.size ≤ 9223372036854775807) :
    Calls Tryz.prog 43 #[.string a, .string b] w fun e w' => e = .returned (.int .i64 (compareV a.data.toList b.data.toList)) ∧ Gr w w' := by
  obtain ⟨V, hV⟩ : ∃ V, compareV a.data.toList b.data.toList = V := ⟨_, rfl⟩
  rw [hV]
  have hcS := cmpS_walk a b
  rw [toList_dataL, toList_dataL] at hcS
  replace hcS := hide hcS
  go_enter Tryz.func43, Tryz.ntmps43
  go_wp2
  go_loopw [5, 6] (fun x y wr => CmpStG a b V w x y wr) (fun x _ _ => szV x)
  case atStart => exact ⟨a, b, a.size, rfl, rfl, Nat.le_refl _, ha, hb, by rw [← hV]; unfold compareV; rw [len_size], Gr.refl _⟩
  case round =>
    obtain ⟨X, Y, n, rfl, rfl, hn, hX, hY, hF, hbw⟩ := hrel
    by_cases h0 : 0 < X.size ∧ 0 < Y.size
    · obtain ⟨hx0, hy0⟩ := h0
      have ex := empty_no hx0
      have ey := empty_no hy0
      obtain ⟨n', rfl, hnx⟩ := cmpF_next (a := a.data.toList) (b := b.data.toList) (ne_size hx0) (ne_size hy0) (by rw [len_size]; exact hn)
      rw [hF] at hnx
      have lx := elemN_le X.data.toList (by rw [len_size]; exact hx0)
      have ly := elemN_le Y.data.toList (by rw [len_size]; exact hy0)
      rw [len_size] at lx ly
      have w1 := fun (w : World) => element_walkG X w hx0 hX
      have w2 := fun (w : World) => element_walkG Y w hy0 hY
      obtain ⟨p, hp⟩ : ∃ p, elemN X.data.toList = p := ⟨_, rfl⟩
      obtain ⟨q, hq⟩ : ∃ q, elemN Y.data.toList = q := ⟨_, rfl⟩
      rw [hp] at lx w1 hnx
      rw [hq] at ly w2 hnx
      have hel := fun (U : World) => elements_walkG (X.extract 0 p) (Y.extract 0 q) U (by simp; omega) (by simp; omega)
      have xp : (X.extract 0 p).data.toList = X.data.toList.take p := by rw [ext_list]; simp
      have yq : (Y.extract 0 q).data.toList = Y.data.toList.take q := by rw [ext_list]; simp
      have xd : (X.extract p X.size).data.toList = X.data.toList.drop p := by rw [ext_list, List.take_of_length_le (by simp)]
      have yd : (Y.extract q Y.size).data.toList = Y.data.toList.drop q := by rw [ext_list, List.take_of_length_le (by simp)]
      have zx : (X.extract p X.size).size = X.size - p := by simp
      have zy : (Y.extract q Y.size).size = Y.size - q := by simp
      rw [xp, yq] at hel
      rw [← xd, ← yd] at hnx
      obtain ⟨E, hE⟩ : ∃ E, elemC (X.data.toList.take p) (Y.data.toList.take q) = E := ⟨_, rfl⟩
      rw [hE] at hel hnx
      have hp1 : (p : Int) ≤ (X.size : Int) := by omega
      have hq1 : (q : Int) ≤ (Y.size : Int) := by omega
      have hp0 : (0 : Int) ≤ (p : Int) := by omega
      have hq0 : (0 : Int) ≤ (q : Int) := by omega
      have hel2 := hide (fun (R : World) (U : World) (hU : Gr R U) => (hel U).mono fun e w' ⟨he, hb⟩ => (⟨he, Gr.trans hU hb⟩ : e = Ending.returned (.int .i64 E) ∧ Gr R w'))
      replace w1 := hide w1
      replace w2 := hide w2
      replace hnx := hide hnx
      replace xd := hide xd
      replace yd := hide yd
      replace zx := hide zx
      replace zy := hide zy
      clear xp yq hE hp hq hF hel
      go_wp2_with (first | (go_at_call 72; first | (with_reducible refine (w1.out _).mono ?_; rintro e y1 ⟨rfl, hb1⟩) | (with_reducible refine (w2.out _).mono ?_; rintro e y2 ⟨rfl, hb2⟩)))
      have hbn := Gr.trans hbw (Gr.trans hb1 hb2)
      have hel3 := hide (fun (U : World) (hU : Gr y2 U) => hel2.out y2 U hU)
      have hrefl := Gr.refl y2
      clear hel2 hb1 hb2 hbw w1 w2
      go_region_held3 (fun W' => True) (first | trivial) (first | (go_at_call 73; (with_reducible refine (hel3.out _ ?_).mono ?_); (repeat (first | (with_reducible assumption) | (with_reducible refine Gr.alloc ?_ _) | (with_reducible refine Gr.drew ?_))); rintro e y3 ⟨rfl, hb3⟩))
      all_goals
        have hbm := Gr.trans hbn hb3
        clear hel3 hrefl hb3 hbn
        by_cases hE : E = 0
        · have hn2 : Hid (V = cmpF a.data.toList b.data.toList n' (X.extract p X.size).data.toList (Y.extract q Y.size).data.toList) := hide (hnx.out.trans (if_neg (fun h => h hE)))
          subst hE
          clear hnx ex ey
          go_upto_region 7 with fail
          go_region
          all_goals
            go_wp2
            go_roundw
            case rel => exact ⟨_, _, n', rfl, rfl, by have := zx.out; omega, by have := zx.out; omega, by have := zy.out; omega, hn2.out.symm, by first | exact hbm | exact Gr.drew hbm⟩
            case measure => have := zx.out; simp only [szV]; omega
        · have hn2 : Hid (V = E) := hide (hnx.out.trans (if_pos hE))
          clear hnx ex ey
          go_wp2
          all_goals first | (exfalso; omega) | (go_ret; exact ⟨by rw [hn2.out]; rfl, hbm⟩)
    · have hend := endC_or a.data.toList b.data.toList X Y h0
      have hfe : cmpF a.data.toList b.data.toList n X.data.toList Y.data.toList = endC a.data.toList b.data.toList X.data.toList Y.data.toList := cmpF_end (by
        by_cases hx : X.size = 0
        · exact .inl (nil_size hx)
        · exact .inr (nil_size (by omega)))
      rw [← hfe, hF] at hend
      have hci := fun (w : World) => Tryz.cmp_Compare_int (min (X.size : Int) 1) (min (Y.size : Int) 1) w
      obtain ⟨i1, hi1⟩ : ∃ i1, Lib.compareInt (min (X.size : Int) 1) (min (Y.size : Int) 1) = i1 := ⟨_, rfl⟩
      obtain ⟨i2, hi2⟩ : ∃ i2, ordL a.data.toList b.data.toList = i2 := ⟨_, rfl⟩
      rw [hi1] at hci hend
      rw [hi2] at hcS hend
      have hor := hide (fun (w : World) => (or_walk w.heap.size i1 i2 (w.alloc (.cells #[.int .i64 i1, .int .i64 i2] 3)) (by simp) (by simp)).mono fun e w' ⟨he, hw⟩ => (⟨he.trans (by rw [hend]), hw⟩ : e = Ending.returned (.int .i64 V) ∧ _ = w'))
      replace hci := hide hci
      clear hi1 hi2 hend hfe hF
      have hx : (0 < X.size ∧ X.toList.isEmpty = false ∧ Y.toList.isEmpty = true) ∨ X.toList.isEmpty = true := by
        by_cases hx : X.size = 0
        · exact .inr (empty_yes hx)
        · exact .inl ⟨by omega, empty_no (by omega), empty_yes (by omega)⟩
      rcases hx with ⟨-, ex, ey⟩ | ex
      all_goals
        go_wp2_with (first | (go_at_call 75; refine (hci.out _).mono ?_; rintro e w' ⟨rfl, rfl⟩) | (go_at_call 76; refine (hcS.out _).mono ?_; rintro e w' ⟨rfl, rfl⟩) | (go_at_call 74; refine (hor.out _).mono ?_; rintro e w' ⟨rfl, rfl⟩))
        go_ret
        exact ⟨rfl, Gr.alloc hbw _⟩
end Go.Proofs.YthejgholpkeldaaGreatDoor

namespace Go.Proofs.YthejgholpkeldaaGreatDoor
open Go.RowKit
set_option maxRecDepth 100000

/-- A number of at most so many digits that begins with 0 only where it is 0. -/
def numZ (most : Nat) (s : ByteArray) : Option Nat := if 1 < s.size ∧ zeroS s = true then none else numE most s
theorem zeroS_of {s : ByteArray} (h : 0 < s.size) : zeroS s = decide (s[0].toNat = 48) := by unfold zeroS; rw [dif_pos h]
set_option maxHeartbeats 2000000 in
theorem r3digitsT_walk (s : ByteArray) (most : Nat) (h18 : most ≤ 18) (w : World) :
    Calls Tryz.prog 110 #[.string s, .int .i64 most, .bool true] w fun e w' => e = .returned (digV (numZ most s)) ∧ w = w' := by
  by_cases h0 : 1 ≤ s.size ∧ s.size ≤ most
  · obtain ⟨h0, h1⟩ := h0
    have hmi : (s.size : Int) ≤ most := by omega
    have hz := zeroS_of (s := s) (by omega)
    by_cases hf : 1 < s.size ∧ zeroS s = true
    · rw [show numZ most s = none from if_pos hf]
      show Calls Tryz.prog 110 #[.string s, .int .i64 most, .bool true] w fun e w' => e = .returned (.tuple #[.int .i64 0, .bool false]) ∧ w = w'
      obtain ⟨hf1, hf2⟩ := hf
      rw [hf2] at hz
      have hz0 := of_decide_eq_true hz.symm
      have hb : ((s[0].toNat : Nat) : Int) = 48 := by omega
      have hi : (1 : Int) < (s.size : Int) := by omega
      clear hz hf2 hz0
      go_enter Tryz.func110, Tryz.ntmps110
      go_wp2
      all_goals try (exfalso; omega)
      all_goals
        go_ret2
        exact ⟨rfl, rfl⟩
    · rw [show numZ most s = numE most s from if_neg hf]
      have hyes : digS s = true → Hid (digV (numE most s) = .tuple #[.int .i64 (valS s : Int), .bool true]) := fun hd => hide (by rw [show numE most s = some (valS s) from if_pos ⟨h0, h1, hd⟩]; rfl)
      have hno : digS s = false → Hid (digV (numE most s) = .tuple #[.int .i64 0, .bool false]) := fun hd => hide (by rw [show numE most s = none from if_neg (fun ⟨_, _, hh⟩ => by rw [hd] at hh; cases hh)]; rfl)
      obtain ⟨V, hV⟩ : ∃ V, digV (numE most s) = V := ⟨_, rfl⟩
      rw [hV] at hyes hno ⊢
      clear hV
      have hto : ∀ k, k ≤ s.size → (∀ (j : Nat) (hj : j < k) (hj2 : j < s.size), digN s[j].toNat = true) → k = s.size → digS s = true := by
        intro k hk hall he
        refine List.all_eq_true.2 fun b hb => ?_
        obtain ⟨j, hj, rfl⟩ := List.mem_iff_getElem.1 hb
        rw [ba_len] at hj
        exact hall j (by omega) hj
      have hbad : ∀ k (hk : k < s.size), digN s[k].toNat = false → digS s = false := by
        intro k hk hf
        cases hd : digS s with
        | false => rfl
        | true => rw [dig_at hk hd] at hf; cases hf
      by_cases h11 : 1 < s.size
      · have hi : (1 : Int) < (s.size : Int) := by omega
        have hb : ¬ ((s[0].toNat : Nat) : Int) = 48 := by
          have : zeroS s ≠ true := fun h => hf ⟨h11, h⟩
          rw [hz] at this
          have := of_decide_eq_false (Bool.eq_false_iff.2 this)
          omega
        have hb2 : (((s[0].toNat : Nat) : Int) == 48) = false := by simp only [beq_eq_false_iff_ne, ne_eq]; exact hb
        have hb3 : decide ((1 : Int) < (s.size : Int)) = true := by simpa using hi
        clear hz hf
        go_enter Tryz.func110, Tryz.ntmps110
        go_wp2
        all_goals try (exfalso; omega)
        all_goals
          (
              go_loop [8] (fun i => ∃ k : Nat, k ≤ s.size ∧ i = .int .i64 k ∧ ∀ (j : Nat) (hj : j < k) (hj2 : j < s.size), digN s[j].toNat = true) (fun i => s.size - (intOf i).toNat)
              case atStart => exact ⟨0, Nat.zero_le _, rfl, fun j hj => absurd hj (by omega)⟩
              case round =>
                obtain ⟨k, hk, rfl, hall⟩ := hrel
                by_cases hlt : k < s.size
                · have hb := hbad k hlt
                  have hnx : digN s[k].toNat = true → ∀ (j : Nat) (hj : j < k + 1) (hj2 : j < s.size), digN s[j].toNat = true := by
                    intro h j hj hj2
                    by_cases e : j = k
                    · subst e; exact h
                    · exact hall j (by omega) hj2
                  obtain ⟨D, hD⟩ : ∃ D, digN s[k].toNat = D := ⟨_, rfl⟩
                  have hcall := r3digN_at hD
                  rw [hD] at hb hnx
                  clear hD hall hto hbad hyes
                  cases D with
                  | true =>
                    clear hb hno
                    go_wp2_with (go_at_call 47; refine (hcall _).mono ?_; rintro e w' ⟨rfl, rfl⟩)
                    go_round
                    case rel => exact ⟨k + 1, by omega, by go_num, hnx (by first | trivial | rfl)⟩
                    case measure => simp [intOf]; omega
                  | false =>
                    have hN := hno (hb rfl)
                    clear hb hno hnx
                    go_wp2_with (go_at_call 47; refine (hcall _).mono ?_; rintro e w' ⟨rfl, rfl⟩)
                    go_ret2
                    exact ⟨by rw [hN.out]; rfl, rfl⟩
                · obtain rfl : k = s.size := by omega
                  have hd := hto s.size hk hall rfl
                  have hY := hyes hd
                  have hcall := r3number_walk s (by omega) hd
                  clear hall hto hbad hyes hno hd
                  go_wp2_with (go_at_call 81; refine (hcall _).mono ?_; rintro e w' ⟨rfl, rfl⟩)
                  go_ret2
                  exact ⟨by rw [hY.out]; rfl, rfl⟩)
      · have hi : ¬ (1 : Int) < (s.size : Int) := by omega
        have hb3 : decide ((1 : Int) < (s.size : Int)) = false := by simpa using hi
        clear hz hf
        go_enter Tryz.func110, Tryz.ntmps110
        go_wp2
        all_goals try (exfalso; omega)
        all_goals
          (
              go_loop [8] (fun i => ∃ k : Nat, k ≤ s.size ∧ i = .int .i64 k ∧ ∀ (j : Nat) (hj : j < k) (hj2 : j < s.size), digN s[j].toNat = true) (fun i => s.size - (intOf i).toNat)
              case atStart => exact ⟨0, Nat.zero_le _, rfl, fun j hj => absurd hj (by omega)⟩
              case round =>
                obtain ⟨k, hk, rfl, hall⟩ := hrel
                by_cases hlt : k < s.size
                · have hb := hbad k hlt
                  have hnx : digN s[k].toNat = true → ∀ (j : Nat) (hj : j < k + 1) (hj2 : j < s.size), digN s[j].toNat = true := by
                    intro h j hj hj2
                    by_cases e : j = k
                    · subst e; exact h
                    · exact hall j (by omega) hj2
                  obtain ⟨D, hD⟩ : ∃ D, digN s[k].toNat = D := ⟨_, rfl⟩
                  have hcall := r3digN_at hD
                  rw [hD] at hb hnx
                  clear hD hall hto hbad hyes
                  cases D with
                  | true =>
                    clear hb hno
                    go_wp2_with (go_at_call 47; refine (hcall _).mono ?_; rintro e w' ⟨rfl, rfl⟩)
                    go_round
                    case rel => exact ⟨k + 1, by omega, by go_num, hnx (by first | trivial | rfl)⟩
                    case measure => simp [intOf]; omega
                  | false =>
                    have hN := hno (hb rfl)
                    clear hb hno hnx
                    go_wp2_with (go_at_call 47; refine (hcall _).mono ?_; rintro e w' ⟨rfl, rfl⟩)
                    go_ret2
                    exact ⟨by rw [hN.out]; rfl, rfl⟩
                · obtain rfl : k = s.size := by omega
                  have hd := hto s.size hk hall rfl
                  have hY := hyes hd
                  have hcall := r3number_walk s (by omega) hd
                  clear hall hto hbad hyes hno hd
                  go_wp2_with (go_at_call 81; refine (hcall _).mono ?_; rintro e w' ⟨rfl, rfl⟩)
                  go_ret2
                  exact ⟨by rw [hY.out]; rfl, rfl⟩)
  · rw [show numZ most s = none from by unfold numZ; split; rfl; exact if_neg (fun ⟨hh, hh2, _⟩ => h0 ⟨hh, hh2⟩)]
    have hmi : ¬ (1 ≤ (s.size : Int) ∧ (s.size : Int) ≤ most) := by omega
    show Calls Tryz.prog 110 #[.string s, .int .i64 most, .bool true] w fun e w' => e = .returned (.tuple #[.int .i64 0, .bool false]) ∧ w = w'
    go_enter Tryz.func110, Tryz.ntmps110
    go_wp2
    all_goals try (exfalso; omega)
    all_goals
      go_ret2
      exact ⟨rfl, rfl⟩
theorem valTo_one {s : ByteArray} (h : 0 < s.size) (hd : digS s = true) : valTo s 1 = s[0].toNat - 48 := by
  have h1 := (valTo_step h hd).1
  have h0 : valTo s 0 = 0 := rfl
  rw [h0, Nat.zero_add] at h1
  rw [h1, Nat.mul_zero, Nat.zero_add]
theorem valTo_pos {s : ByteArray} (hd : digS s = true) (h0 : 0 < s.size) (hz : s[0].toNat ≠ 48) : ∀ k, k < s.size → 1 ≤ valTo s (k + 1)
  | 0, h => by
    have h1 := valTo_one h hd
    have h2 := (valTo_step h hd).2.1
    rw [Nat.zero_add, h1]
    omega
  | k + 1, h => by
    have := valTo_pos hd h0 hz k (by omega)
    have := (valTo_step h hd).1
    omega
theorem valS_pos {s : ByteArray} (hd : digS s = true) (h0 : 0 < s.size) (hz : zeroS s = false) : 1 ≤ valS s := by
  rw [zeroS_of h0] at hz
  have := valTo_pos hd h0 (of_decide_eq_false hz) (s.size - 1) (by omega)
  rw [show s.size - 1 + 1 = s.size from by omega, valTo_all] at this
  exact this
/-- The number is read alike by both: 0 is no number of those. -/
theorem numZ_numS {most : Nat} {s : ByteArray} : (numZ most s = none ∨ numZ most s = some 0) ↔ numS most s = none := by
  unfold numZ numS
  cases hz : zeroS s with
  | false =>
    simp only [Bool.false_eq_true, and_false, if_false]
    refine ⟨fun h => ?_, fun h => .inl h⟩
    rcases h with h | h
    · exact h
    · exfalso
      unfold numE at h
      split at h
      · rename_i hc
        have := valS_pos hc.2.2 (by omega) hz
        injection h with h
        omega
      · cases h
  | true =>
    simp only [and_true, if_true, iff_true]
    by_cases h1 : 1 < s.size
    · rw [if_pos h1]; exact .inl rfl
    · rw [if_neg h1]
      unfold numE
      split
      · rename_i hc
        have h0 : 0 < s.size := by omega
        have hv := valTo_one h0 hc.2.2
        rw [show (1 : Nat) = s.size from by omega, valTo_all] at hv
        rw [zeroS_of h0] at hz
        have := of_decide_eq_true hz
        exact .inr (by rw [hv, this])
      · exact .inl rfl
theorem numS_some {most n : Nat} {s : ByteArray} (h : numS most s = some n) : numZ most s = some n ∧ n ≠ 0 := by
  have hno : ¬ (numZ most s = none ∨ numZ most s = some 0) := fun hh => by rw [numZ_numS.1 hh] at h; cases h
  have : numZ most s = numE most s := by
    unfold numZ
    split
    · rename_i hc
      exact absurd (.inl (by unfold numZ; rw [if_pos hc])) hno
    · rfl
  have hs : numS most s = numE most s := by
    unfold numS at h ⊢
    split
    · rename_i hc; rw [if_pos hc] at h; cases h
    · rfl
  rw [this, ← hs, h]
  refine ⟨rfl, fun e => hno (.inr ?_)⟩
  rw [this, ← hs, h, e]
theorem numS_numE {most n : Nat} {s : ByteArray} (h : numS most s = some n) : numE most s = some n := by
  unfold numS at h
  split at h
  · cases h
  · exact h
end Go.Proofs.YthejgholpkeldaaGreatDoor

namespace Go.Proofs.YthejgholpkeldaaGreatDoor
open Go.RowKit
set_option maxRecDepth 100000

set_option maxHeartbeats 8000000 in
theorem r3compare_walk (a b : ByteArray) (w : World) (ha : a.size ≤ 9223372036854775807) (hb : b.size ≤ 9223372036854775807) :
    Calls Tryz.prog 22 #[.string a, .string b] w fun e w' => e = .returned (.int .i64 (compareV a.data.toList b.data.toList)) ∧ Below w.heap.size w w' := by
  obtain ⟨V, hV⟩ : ∃ V, compareV a.data.toList b.data.toList = V := ⟨_, rfl⟩
  rw [hV]
  have hcS := r3order_walk a b
  rw [toList_dataL, toList_dataL] at hcS
  replace hcS := hide hcS
  go_enter Tryz.func22, Tryz.ntmps22
  go_wp2
  go_loopw [5, 6] (fun x y wr => CmpSt a b V w x y wr) (fun x _ _ => szV x)
  case atStart => exact ⟨a, b, a.size, rfl, rfl, Nat.le_refl _, ha, hb, by rw [← hV]; unfold compareV; rw [len_size], Below.refl _ _⟩
  case round =>
    obtain ⟨X, Y, n, rfl, rfl, hn, hX, hY, hF, hbw⟩ := hrel
    by_cases h0 : 0 < X.size ∧ 0 < Y.size
    · obtain ⟨hx0, hy0⟩ := h0
      have ex := empty_no hx0
      have ey := empty_no hy0
      obtain ⟨n', rfl, hnx⟩ := cmpF_next (a := a.data.toList) (b := b.data.toList) (ne_size hx0) (ne_size hy0) (by rw [len_size]; exact hn)
      rw [hF] at hnx
      have lx := elemN_le X.data.toList (by rw [len_size]; exact hx0)
      have ly := elemN_le Y.data.toList (by rw [len_size]; exact hy0)
      rw [len_size] at lx ly
      have w1 := fun (w : World) => r3element_walk X w hx0 hX
      have w2 := fun (w : World) => r3element_walk Y w hy0 hY
      unfold R3Elem at w1 w2
      obtain ⟨p, hp⟩ : ∃ p, elemN X.data.toList = p := ⟨_, rfl⟩
      obtain ⟨q, hq⟩ : ∃ q, elemN Y.data.toList = q := ⟨_, rfl⟩
      rw [hp] at lx w1 hnx
      rw [hq] at ly w2 hnx
      replace w1 := hide w1
      replace w2 := hide w2
      replace hnx := hide hnx
      clear hp hq hF
      go_wp2_with (first | (go_at_call 46; first | (with_reducible refine (w1.out _).mono ?_; rintro e y1 ⟨P, X', rfl, hP, hX', hb1⟩) | (with_reducible refine (w2.out _).mono ?_; rintro e y2 ⟨Q, Y', rfl, hQ, hY', hb2⟩)))
      have hbn := ext_trans hbw (ext_trans hb1 hb2)
      have hPs : P.size = p := by have := congrArg List.length hP; rw [len_size, List.length_take, len_size] at this; omega
      have hQs : Q.size = q := by have := congrArg List.length hQ; rw [len_size, List.length_take, len_size] at this; omega
      have zx : X'.size = X.size - p := by have := congrArg List.length hX'; rw [len_size, List.length_drop, len_size] at this; exact this
      have zy : Y'.size = Y.size - q := by have := congrArg List.length hY'; rw [len_size, List.length_drop, len_size] at this; exact this
      have hp0 : 0 < P.size := by omega
      have hq0 : 0 < Q.size := by omega
      have hA := dg0_of hp0
      have hB := dg0_of hq0
      have hnx2 := hnx.out
      rw [← hP, ← hQ, ← hX', ← hY'] at hnx2
      obtain ⟨c, hc⟩ : ∃ c, P[0].toNat = c := ⟨_, rfl⟩
      obtain ⟨d, hd⟩ : ∃ d, Q[0].toNat = d := ⟨_, rfl⟩
      rw [hc] at hA
      rw [hd] at hB
      have hE : elemC P.data.toList Q.data.toList = if dg0 P.data.toList = true then (if dg0 Q.data.toList = true then numC (bareL P.data.toList) (bareL Q.data.toList) else -1) else if dg0 Q.data.toList = true then 1 else ordL P.data.toList Q.data.toList := rfl
      obtain ⟨E, hEE⟩ : ∃ E, elemC P.data.toList Q.data.toList = E := ⟨_, rfl⟩
      rw [hEE] at hE hnx2
      obtain ⟨x, hx⟩ : ∃ x, dg0 P.data.toList = x := ⟨_, rfl⟩
      obtain ⟨y, hy⟩ : ∃ y, dg0 Q.data.toList = y := ⟨_, rfl⟩
      rw [hx] at hA hE
      rw [hy] at hB hE
      have d1 := hide (fun (U : World) (hU : Below y2.heap.size y2 U) => (r3digN_at hA U).mono fun e w' ⟨he, hb⟩ => (⟨he, hb ▸ hU⟩ : e = Ending.returned (.bool x) ∧ Below y2.heap.size y2 w'))
      have d2 := hide (fun (U : World) (hU : Below y2.heap.size y2 U) => (r3digN_at hB U).mono fun e w' ⟨he, hb⟩ => (⟨he, hb ▸ hU⟩ : e = Ending.returned (.bool y) ∧ Below y2.heap.size y2 w'))
      have hrefl := Below.refl y2.heap.size y2
      have hord := r3order_walk P Q
      rw [toList_dataL, toList_dataL] at hord
      replace hord := hide hord
      have hbP := hide (fun (w : World) => bare_walk P w)
      have hbQ := hide (fun (w : World) => bare_walk Q w)
      have hp1 : (0 : Int) < (P.size : Int) := by omega
      have hq1 : (0 : Int) < (Q.size : Int) := by omega
      replace hE := hide hE
      replace hnx2 := hide hnx2
      clear hnx hx hy hA hB hEE hb1 hb2 hbw w1 w2 hP hQ hX' hY' ex ey hPs hQs
      go_upto_region 6 with fail
      go_cut [9, 10] (fun s1 s2 W' => s1 = .bool x ∧ s2 = .bool y ∧ Below w.heap.size w W')
      case first =>
        go_region_held3 (fun W' => True) (first | trivial) (first | (go_at_call 47; (with_reducible refine (d1.out _ ?_).mono ?_); (repeat (first | (with_reducible assumption) | (with_reducible refine ext_alloc ?_ _) | (with_reducible refine ext_drew ?_))); rintro e y3 ⟨rfl, hb3⟩) | (go_at_call 47; (with_reducible refine (d2.out _ ?_).mono ?_); (repeat (first | (with_reducible assumption) | (with_reducible refine ext_alloc ?_ _) | (with_reducible refine ext_drew ?_))); rintro e y4 ⟨rfl, hb4⟩))
        all_goals
          go_wp2_with fail
          go_meet
          exact ⟨rfl, rfl, by first | exact ext_trans hbn hb4 | exact ext_drew (ext_trans hbn hb4)⟩
      case rest =>
        clear d1 d2 hrefl hbn
        obtain ⟨rfl, rfl, hbm⟩ := hcut
        cases x with
        | true =>
          cases y with
          | true =>
            go_wp2_with (first | (go_at_call 48; first | (with_reducible refine (hbP.out _).mono ?_; rintro e y5 ⟨U, rfl, hU, rfl⟩) | (with_reducible refine (hbQ.out _).mono ?_; rintro e y6 ⟨T, rfl, hT, rfl⟩)))
            have hEn : E = numC U.data.toList T.data.toList := by rw [hE.out, hU, hT]; rfl
            unfold numC at hEn
            rw [len_size, len_size] at hEn
            have ho := r3order_walk U T
            rw [toList_dataL, toList_dataL] at ho
            obtain ⟨v, hv⟩ : ∃ v, ordL U.data.toList T.data.toList = v := ⟨_, rfl⟩
            rw [hv] at ho hEn
            clear hE hU hT hv hord hbP hbQ hcS
            refine (ho _).mono ?_
            rintro e y7 ⟨rfl, rfl⟩
            clear ho
            by_cases h1 : U.size < T.size
            · obtain rfl : E = -1 := hEn.trans (if_pos h1)
              have hn : Hid (V = -1) := hide (hnx2.out.trans (if_pos (by decide)))
              have h1i : (U.size : Int) < (T.size : Int) := by omega
              clear hEn hnx2
              go_wp2
              all_goals first | (exfalso; omega) | (go_ret; exact ⟨by rw [hn.out]; rfl, hbm⟩)
            · by_cases h2 : T.size < U.size
              · obtain rfl : E = 1 := hEn.trans ((if_neg h1).trans (if_pos h2))
                have hn : Hid (V = 1) := hide (hnx2.out.trans (if_pos (by decide)))
                clear hEn hnx2
                go_wp2
                all_goals first | (exfalso; omega) | (go_ret; exact ⟨by rw [hn.out]; rfl, hbm⟩)
              · obtain rfl : E = v := hEn.trans ((if_neg h1).trans (if_neg h2))
                clear hEn
                (by_cases hz : E = 0; all_goals (first | (have hn : Hid (V = cmpF a.data.toList b.data.toList n' X'.data.toList Y'.data.toList) := hide (hnx2.out.trans (if_neg (fun h => h hz))); subst hz; clear hnx2; go_wp2_with fail; go_roundw; (case rel => exact ⟨_, _, n', rfl, rfl, by omega, by omega, by omega, hn.out.symm, hbm⟩); (case measure => simp only [szV]; omega)) | (have hn : Hid (V = E) := hide (hnx2.out.trans (if_pos hz)); clear hnx2; go_wp2; all_goals first | (exfalso; omega) | (go_ret; exact ⟨by rw [hn.out]; rfl, hbm⟩))))
          | false =>
            obtain rfl : E = -1 := hE.out.trans rfl
            have hn : Hid (V = -1) := hide (hnx2.out.trans (if_pos (by decide)))
            clear hE hnx2 hord hbP hbQ hcS
            go_wp2
            go_ret
            exact ⟨by rw [hn.out]; rfl, hbm⟩
        | false =>
          cases y with
          | true =>
            obtain rfl : E = 1 := hE.out.trans rfl
            have hn : Hid (V = 1) := hide (hnx2.out.trans (if_pos (by decide)))
            clear hE hnx2 hord hbP hbQ hcS
            go_wp2
            go_ret
            exact ⟨by rw [hn.out]; rfl, hbm⟩
          | false =>
            have hEn : E = ordL P.data.toList Q.data.toList := hE.out.trans rfl
            have ho := hord.out
            rw [← hEn] at ho
            replace ho := hide ho
            clear hE hEn hord hbP hbQ hcS
            go_wp2_with fail
            refine (ho.out _).mono ?_
            rintro e y7 ⟨rfl, rfl⟩
            clear ho
            (by_cases hz : E = 0; all_goals (first | (have hn : Hid (V = cmpF a.data.toList b.data.toList n' X'.data.toList Y'.data.toList) := hide (hnx2.out.trans (if_neg (fun h => h hz))); subst hz; clear hnx2; go_wp2_with fail; go_roundw; (case rel => exact ⟨_, _, n', rfl, rfl, by omega, by omega, by omega, hn.out.symm, hbm⟩); (case measure => simp only [szV]; omega)) | (have hn : Hid (V = E) := hide (hnx2.out.trans (if_pos hz)); clear hnx2; go_wp2; all_goals first | (exfalso; omega) | (go_ret; exact ⟨by rw [hn.out]; rfl, hbm⟩))))
    · have hfe : cmpF a.data.toList b.data.toList n X.data.toList Y.data.toList = endC a.data.toList b.data.toList X.data.toList Y.data.toList := cmpF_end (by
        by_cases hx : X.size = 0
        · exact .inl (nil_size hx)
        · exact .inr (nil_size (by omega)))
      rw [hF] at hfe
      unfold endC at hfe
      by_cases hx : X.size = 0
      · have ex := empty_yes hx
        rw [if_pos (nil_size hx)] at hfe
        by_cases hy : Y.size = 0
        · have ey := empty_yes hy
          rw [if_pos (nil_size hy)] at hfe
          rw [← hfe] at hcS
          clear hfe hF
          go_wp2_with (go_at_call 49; refine (hcS.out _).mono ?_; rintro e w' ⟨rfl, rfl⟩)
          go_ret
          exact ⟨rfl, hbw⟩
        · have ey := empty_no (by omega : 0 < Y.size)
          rw [if_neg (ne_size (by omega))] at hfe
          have hn : Hid (V = -1) := hide hfe
          clear hfe hF hcS
          go_wp2
          go_ret
          exact ⟨by rw [hn.out]; rfl, hbw⟩
      · have ex := empty_no (by omega : 0 < X.size)
        have hy : Y.size = 0 := by omega
        have ey := empty_yes hy
        rw [if_neg (ne_size (by omega)), if_pos (nil_size hy)] at hfe
        have hn : Hid (V = 1) := hide hfe
        clear hfe hF hcS
        go_wp2
        go_ret
        exact ⟨by rw [hn.out]; rfl, hbw⟩
end Go.Proofs.YthejgholpkeldaaGreatDoor
