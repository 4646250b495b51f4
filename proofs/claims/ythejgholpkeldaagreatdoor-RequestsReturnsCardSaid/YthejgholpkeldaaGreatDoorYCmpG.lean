/- codes.Compare and what it calls leave blocks and draws behind, and nothing else. No condition. -/
import Derived.Test.YthejgholpkeldaaGreatDoorRows
import Derived.WalkKit
import Derived.WalkSpells
import Derived.WalkLawsBesides
import Derived.BigGuardPart
import Derived.Lib.Hide
import Derived.Laws.BitsAllLaws
import Derived.Laws.BitsLemmas
import Derived.Lib.LaidTab
import Derived.Test.YthejgholpkeldaaGreatDoorShelf
import Derived.Lib.ConvBytes
import Derived.Deep.QuietTactic
import Derived.BigQuiet
import Derived.Laws.ResultCell
import Derived.RegionTactic
import Derived.BigRegion
import Derived.Deep.RegionHeld3
import Derived.Deep.DeepCutAuto
import Derived.Lib.SmallJoins
import Derived.Lib.SplitLaws
import Derived.Lib.CountLaws
import Derived.Lib.IndexMore
import Derived.Lib.Split
import Derived.Lib.Join
import Derived.Lib.ItoaNum
import Derived.Laws.AppendOwn
import Derived.Test.YthejgholpkeldaaGreatDoorShelfT
import Derived.Test.YthejgholpkeldaaGreatDoorYCmpC
namespace Go.Proofs.YthejgholpkeldaaGreatDoor
open Go.RowKit
set_option maxRecDepth 100000

/-- Blocks and draws behind a world. -/
def Gr (w w' : World) : Prop := Below w.heap.size w w' ∧ w.drawn ≤ w'.drawn
theorem Gr.refl (w : World) : Gr w w := ⟨Below.refl _ _, Nat.le_refl _⟩
theorem Gr.trans {a b c : World} (h : Gr a b) (k : Gr b c) : Gr a c := ⟨ext_trans h.1 k.1, Nat.le_trans h.2 k.2⟩
theorem Gr.alloc {a b : World} (h : Gr a b) (o : Obj) : Gr a (b.alloc o) := ⟨ext_alloc h.1 o, h.2⟩
theorem Gr.drew {a b : World} (h : Gr a b) : Gr a b.drew := ⟨ext_drew h.1, Nat.le_succ_of_le h.2⟩
theorem Gr.grown {a b : World} (h : Gr a b) : ∃ (q : Nat) (os : Array Obj), b = Sort.grow (a.drewN q) os := by
  obtain ⟨⟨h1, h2, h3, h4, h5⟩, h6⟩ := h
  refine ⟨b.drawn - a.drawn, b.heap.extract a.heap.size b.heap.size, ?_⟩
  have e : a.heap ++ b.heap.extract a.heap.size b.heap.size = b.heap := by
    apply Array.ext_getElem?
    intro i
    by_cases hi : i < a.heap.size
    · rw [Array.getElem?_append_left hi]; exact (h5 i hi).symm
    · rw [Array.getElem?_append_right (by omega)]
      rcases Nat.lt_or_ge i b.heap.size with hb | hb
      · rw [Array.getElem?_extract_of_lt (by omega)]
        simp only [Nat.add_sub_of_le (Nat.le_of_not_lt hi)]
        exact (Array.getElem?_eq_getElem hb).symm
      · rw [Array.getElem?_eq_none (by simp; omega), Array.getElem?_eq_none hb]
  unfold Sort.grow World.drewN
  obtain ⟨hp, tp, dr, os, ou⟩ := b
  obtain ⟨hp', tp', dr', os', ou'⟩ := a
  dsimp only at *
  subst h1 h2 h3
  rw [e, Nat.add_sub_cancel' h6]
set_option maxHeartbeats 2000000 in
theorem end1_walkG (p : Nat) (s : ByteArray) (k : Nat) (w : World) (hc : w.cell? ⟨p, 0, none⟩ = some (.string s)) (hk : k < s.size) :
    Calls Tryz.prog 104 #[.int .i64 k, .pointer (some ⟨p, 0, none⟩)] w fun e w' => e = .returned (.bool (dgAt s k != dgAt s 0)) ∧ Gr w w' := by
  have hl : p < w.heap.size := World.block_lt_of_cell? _ _ hc
  have h0 : 0 < s.size := by omega
  have hk1 : (k : Int) < (s.size : Int) := by omega
  have hk0 : (0 : Int) ≤ (k : Int) := by omega
  have h01 : (0 : Int) < (s.size : Int) := by omega
  have hA := dgAt_of hk
  have hB := dgAt_of h0
  obtain ⟨a, ha⟩ : ∃ a, s[k].toNat = a := ⟨_, rfl⟩
  obtain ⟨b, hb⟩ : ∃ b, s[0].toNat = b := ⟨_, rfl⟩
  rw [ha] at hA
  rw [hb] at hB
  obtain ⟨x, hx⟩ : ∃ x, dgAt s k = x := ⟨_, rfl⟩
  obtain ⟨y, hy⟩ : ∃ y, dgAt s 0 = y := ⟨_, rfl⟩
  rw [hx] at hA ⊢
  rw [hy] at hB ⊢
  have s1 := hide (fun (U : World) (hU : Gr w U) => (digN_at hA U).mono fun e w' ⟨he, hb⟩ => (⟨he, hb ▸ hU, cell_later (hb ▸ hU : Gr _ _).1 hc⟩ : e = Ending.returned (.bool x) ∧ Gr w w' ∧ w'.cell? ⟨p, 0, none⟩ = some (Value.string s)))
  have s2 := hide (fun (U : World) (hU : Gr w U) => (digN_at hB U).mono fun e w' ⟨he, hb⟩ => (⟨he, hb ▸ hU, cell_later (hb ▸ hU : Gr _ _).1 hc⟩ : e = Ending.returned (.bool y) ∧ Gr w w' ∧ w'.cell? ⟨p, 0, none⟩ = some (Value.string s)))
  have hrefl := Gr.refl w
  have hcd : w.drew.cell? ⟨p, 0, none⟩ = some (.string s) := hc
  clear hx hy hA hB
  cases x <;> cases y
  all_goals
    go_enter Tryz.func104, Tryz.ntmps104
    go_upto_region 1 with fail
    go_region_held3 (fun W' => W'.cell? ⟨p, 0, none⟩ = some (.string s)) (first | with_reducible assumption) (first | (go_at_call 105; (with_reducible refine (s1.out _ ?_).mono ?_); (repeat (first | (with_reducible assumption) | (with_reducible refine Gr.alloc ?_ _) | (with_reducible refine Gr.drew ?_))); rintro e w6 ⟨rfl, hb6, hx6⟩) | (go_at_call 105; (with_reducible refine (s2.out _ ?_).mono ?_); (repeat (first | (with_reducible assumption) | (with_reducible refine Gr.alloc ?_ _) | (with_reducible refine Gr.drew ?_))); rintro e w7 ⟨rfl, hb7, hx7⟩))
    all_goals
      go_wp2
      go_ret
      exact ⟨rfl, hb7⟩
set_option maxHeartbeats 2000000 in
theorem element_walkG (s : ByteArray) (w : World) (h0 : 0 < s.size) (hs : s.size ≤ 9223372036854775807) :
    Calls Tryz.prog 72 #[.string s] w fun e w' => e = .returned (.int .i64 (elemN s.data.toList : Nat)) ∧ Gr w w' := by
  have eg : ∀ args w, (callFunc 104 args).run Tryz.prog w = .ok (.enter 104 args) w := enters_of Tryz.func104 (by kernel_rfl) rfl
  have hb0 : Gr w (w.alloc (.cells #[.string s] 9)) := (by repeat (first | exact Gr.refl _ | refine Gr.alloc ?_ _ | refine Gr.drew ?_ | refine Gr.trans ?_ (by assumption)))
  have c0 : (w.alloc (.cells #[.string s] 9)).cell? ⟨w.heap.size, 0, none⟩ = some (.string s) := by simp
  obtain ⟨W, hW⟩ : ∃ W, w.alloc (.cells #[.string s] 9) = W := ⟨_, rfl⟩
  obtain ⟨p, hp⟩ : ∃ p, w.heap.size = p := ⟨_, rfl⟩
  rw [hW] at hb0 c0
  rw [hp] at c0
  replace hW := hide hW
  replace hp := hide hp
  go_enter Tryz.func72, Tryz.ntmps72
  go_wp2_with fail
  rw [hW.out, hp.out]
  go_loopw [4] (fun i wr => ∃ n : Nat, 1 ≤ n ∧ n ≤ s.size ∧ i = .int .i64 n ∧ (∀ j, j < n → dgAt s j = dgAt s 0) ∧ Gr W wr) (fun i _ => s.size - (intOf i).toNat)
  case atStart => exact ⟨1, Nat.le_refl _, h0, rfl, fun j hj => by rw [show j = 0 from by omega], Gr.refl _⟩
  case round =>
    obtain ⟨n, hn1, hn2, rfl, hall, hb⟩ := hrel
    have c1 := cell_later hb.1 c0
    have hpl := World.block_lt_of_cell? _ _ c1
    by_cases hlt : n < s.size
    · have hcall := end1_walkG p s n wr c1 hlt
      have hn1i : (n : Int) < (s.size : Int) := by omega
      have hwr : IntKind.i64.wrap ((n : Int) + 1) = (n : Int) + 1 := by rw [IntKind.wrap_i64]; omega
      have hdone := fun h => hide (elem_done hn1 hn2 hall (Or.inr h))
      have hnext : dgAt s n = dgAt s 0 → Hid (∀ j, j < n + 1 → dgAt s j = dgAt s 0) := fun h => hide fun j hj => by
        by_cases e : j = n
        · rw [e]; exact h
        · exact hall j (by omega)
      obtain ⟨x, hx⟩ : ∃ x, (dgAt s n != dgAt s 0) = x := ⟨_, rfl⟩
      rw [hx] at hcall
      replace hall := hide hall
      cases x with
      | true =>
        have hd := hdone (by simpa using hx)
        clear hdone hnext hx
        go_wp2_with (go_at_fn 104; refine hcall.mono ?_; rintro e w2 ⟨rfl, hb2⟩)
        go_ret
        exact ⟨by rw [hd.out]; rfl, Gr.trans hb0 (Gr.trans hb hb2)⟩
      | false =>
        have hd := hnext (by simpa using hx)
        clear hdone hnext hx
        go_wp2_with (go_at_fn 104; refine hcall.mono ?_; rintro e w2 ⟨rfl, hb2⟩)
        go_roundw
        case rel => exact ⟨n + 1, by omega, by omega, by go_num, hd.out, Gr.trans hb hb2⟩
        case measure => simp [intOf]; omega
    · obtain rfl : n = s.size := by omega
      have hd := hide (elem_done hn1 hn2 hall (Or.inl rfl))
      clear hall
      go_wp2
      go_ret
      exact ⟨by rw [hd.out]; rfl, Gr.trans hb0 hb⟩
set_option maxHeartbeats 4000000 in
theorem elements_walkG (P Q : ByteArray) (w : World) (hp : 0 < P.size) (hq : 0 < Q.size) :
    Calls Tryz.prog 73 #[.string P, .string Q] w fun e w' => e = .returned (.int .i64 (elemC P.data.toList Q.data.toList)) ∧ Gr w w' := by
  have hA := dg0_of hp
  have hB := dg0_of hq
  have hp1 : (0 : Int) < (P.size : Int) := by omega
  have hq1 : (0 : Int) < (Q.size : Int) := by omega
  obtain ⟨V, hV⟩ : ∃ V, elemC P.data.toList Q.data.toList = V := ⟨_, rfl⟩
  rw [hV]
  unfold elemC at hV
  have hcS := cmpS_walk P Q
  have htP := fun w => Tryz.strings_TrimLeft_one P 48 (by decide) w
  have htQ := fun w => Tryz.strings_TrimLeft_one Q 48 (by decide) w
  rw [trim_bare] at htP htQ
  rw [toList_dataL, toList_dataL] at hcS
  have hnum := numC_or (bareL P.data.toList) (bareL Q.data.toList)
  obtain ⟨U, hU⟩ : ∃ U : ByteArray, (⟨(bareL P.data.toList).toArray⟩ : ByteArray) = U := ⟨_, rfl⟩
  obtain ⟨T, hT⟩ : ∃ T : ByteArray, (⟨(bareL Q.data.toList).toArray⟩ : ByteArray) = T := ⟨_, rfl⟩
  have hUl : bareL P.data.toList = U.data.toList := by rw [← hU]
  have hTl : bareL Q.data.toList = T.data.toList := by rw [← hT]
  rw [hU] at htP
  rw [hT] at htQ
  rw [hUl, hTl] at hnum hV
  have hcU := cmpS_walk U T
  rw [toList_dataL, toList_dataL] at hcU
  have hci := fun w => Tryz.cmp_Compare_int U.size T.size w
  rw [len_size, len_size] at hnum
  obtain ⟨a, ha⟩ : ∃ a, P[0].toNat = a := ⟨_, rfl⟩
  obtain ⟨b, hb⟩ : ∃ b, Q[0].toNat = b := ⟨_, rfl⟩
  rw [ha] at hA
  rw [hb] at hB
  obtain ⟨x, hx⟩ : ∃ x, dg0 P.data.toList = x := ⟨_, rfl⟩
  obtain ⟨y, hy⟩ : ∃ y, dg0 Q.data.toList = y := ⟨_, rfl⟩
  rw [hx] at hA hV
  rw [hy] at hB hV
  obtain ⟨i1, hi1⟩ : ∃ i1, Lib.compareInt U.size T.size = i1 := ⟨_, rfl⟩
  obtain ⟨i2, hi2⟩ : ∃ i2, ordL U.data.toList T.data.toList = i2 := ⟨_, rfl⟩
  rw [hi1] at hci hnum
  rw [hi2] at hcU hnum
  have d1 := hide (fun w => digN_at hA w)
  have d2 := hide (fun w => digN_at hB w)
  replace htP := hide htP
  replace htQ := hide htQ
  replace hcS := hide hcS
  replace hcU := hide hcU
  replace hci := hide hci
  replace hnum := hide hnum
  clear hx hy hA hB hU hT hUl hTl hi1 hi2
  cases x with
  | true =>
    cases y with
    | true =>
      have hVV : Hid (V = if i1 ≠ 0 then i1 else i2) := hide (hV.symm.trans hnum.out.symm)
      clear hV
      have hor := fun (w : World) => or_walk w.heap.size i1 i2 (w.alloc (.cells #[.int .i64 i1, .int .i64 i2] 3)) (by simp) (by simp)
      replace hor := hide hor
      by_cases h1 : i1 = 0
      · rw [if_neg (by simpa using h1)] at hVV
        have hor2 := hide (fun (w : World) => (hor.out w).mono fun e w' ⟨he, hw⟩ => (⟨he.trans (by rw [if_neg (by simpa using h1)]), hw⟩ : e = Ending.returned (.int .i64 i2) ∧ _ = w'))
        replace h1 := hide h1
        go_enter Tryz.func73, Tryz.ntmps73
        go_wp2_with (first | (go_at_call 105; first | (with_reducible refine (d1.out _).mono ?_; rintro e w' ⟨rfl, rfl⟩) | (with_reducible refine (d2.out _).mono ?_; rintro e w' ⟨rfl, rfl⟩)) | (go_at_call 106; first | (with_reducible refine (htP.out _).mono ?_; rintro e w' ⟨rfl, rfl⟩) | (with_reducible refine (htQ.out _).mono ?_; rintro e w' ⟨rfl, rfl⟩)) | (go_at_call 75; refine (hci.out _).mono ?_; rintro e w' ⟨rfl, rfl⟩) | (go_at_call 76; refine (hcU.out _).mono ?_; rintro e w' ⟨rfl, rfl⟩) | (go_at_call 74; refine (hor2.out _).mono ?_; rintro e w' ⟨rfl, rfl⟩))
        all_goals first | (exfalso; omega) | (go_ret; exact ⟨by rw [hVV.out]; rfl, (by repeat (first | exact Gr.refl _ | refine Gr.alloc ?_ _ | refine Gr.drew ?_ | refine Gr.trans ?_ (by assumption)))⟩)
      · rw [if_pos h1] at hVV
        have hor2 := hide (fun (w : World) => (hor.out w).mono fun e w' ⟨he, hw⟩ => (⟨he.trans (by rw [if_pos h1]), hw⟩ : e = Ending.returned (.int .i64 i1) ∧ _ = w'))
        replace h1 := hide h1
        go_enter Tryz.func73, Tryz.ntmps73
        go_wp2_with (first | (go_at_call 105; first | (with_reducible refine (d1.out _).mono ?_; rintro e w' ⟨rfl, rfl⟩) | (with_reducible refine (d2.out _).mono ?_; rintro e w' ⟨rfl, rfl⟩)) | (go_at_call 106; first | (with_reducible refine (htP.out _).mono ?_; rintro e w' ⟨rfl, rfl⟩) | (with_reducible refine (htQ.out _).mono ?_; rintro e w' ⟨rfl, rfl⟩)) | (go_at_call 75; refine (hci.out _).mono ?_; rintro e w' ⟨rfl, rfl⟩) | (go_at_call 76; refine (hcU.out _).mono ?_; rintro e w' ⟨rfl, rfl⟩) | (go_at_call 74; refine (hor2.out _).mono ?_; rintro e w' ⟨rfl, rfl⟩))
        all_goals first | (exfalso; omega) | (go_ret; exact ⟨by rw [hVV.out]; rfl, (by repeat (first | exact Gr.refl _ | refine Gr.alloc ?_ _ | refine Gr.drew ?_ | refine Gr.trans ?_ (by assumption)))⟩)

    | false =>
      have hVV : Hid (V = -1) := hide (hV.symm.trans rfl)
      clear hV
      go_enter Tryz.func73, Tryz.ntmps73
      go_wp2_with (first | (go_at_call 105; first | (with_reducible refine (d1.out _).mono ?_; rintro e w' ⟨rfl, rfl⟩) | (with_reducible refine (d2.out _).mono ?_; rintro e w' ⟨rfl, rfl⟩)))
      go_ret
      exact ⟨by rw [hVV.out]; rfl, Gr.refl _⟩
  | false =>
    cases y with
    | true =>
      have hVV : Hid (V = 1) := hide (hV.symm.trans rfl)
      clear hV
      go_enter Tryz.func73, Tryz.ntmps73
      go_wp2_with (first | (go_at_call 105; first | (with_reducible refine (d1.out _).mono ?_; rintro e w' ⟨rfl, rfl⟩) | (with_reducible refine (d2.out _).mono ?_; rintro e w' ⟨rfl, rfl⟩)))
      go_ret
      exact ⟨by rw [hVV.out]; rfl, Gr.refl _⟩
    | false =>
      have hVV : Hid (V = ordL P.data.toList Q.data.toList) := hide (hV.symm.trans rfl)
      clear hV
      go_enter Tryz.func73, Tryz.ntmps73
      go_wp2_with (first | (go_at_call 105; first | (with_reducible refine (d1.out _).mono ?_; rintro e w' ⟨rfl, rfl⟩) | (with_reducible refine (d2.out _).mono ?_; rintro e w' ⟨rfl, rfl⟩)) | (go_at_call 76; refine (hcS.out _).mono ?_; rintro e w' ⟨rfl, rfl⟩))
      go_ret
      exact ⟨by rw [hVV.out]; rfl, Gr.refl _⟩
def CmpStG (a b : ByteArray) (V : Int) (w : World) (x y : Value) (wr : World) : Prop :=
  ∃ (X Y : ByteArray) (n : Nat), x = .string X ∧ y = .string Y ∧ X.size ≤ n ∧ X.size ≤ 9223372036854775807 ∧ Y.size ≤ 9223372036854775807 ∧ cmpF a.data.toList b.data.toList n X.data.toList Y.data.toList = V ∧ Gr w wr
set_option maxHeartbeats 8000000 in
theorem ccompare_walkG (a b : ByteArray) (w : World) (ha : a.size ≤ 9223372036854775807) (hb : b.size ≤ 9223372036854775807) :
    Calls Tryz.prog 43 #[.string a, .string b] w fun e w' => e = .returned (.int .i64 (compareV a.data.toList b.data.toList)) ∧ Gr w w' := by
  obtain ⟨V, hV⟩ : ∃ V, compareV a.data.toList b.data.toList = V := ⟨_, rfl⟩
  rw [hV]
  have hcS := cmpS_walk a b
  rw [toList_dataL, toList_dataL] at hcS
  replace hcS := hide hcS
  go_enter Tryz.func43, Tryz.ntmps43
  go_wp2
  go_loopw [5, 6] (fun x y wr => CmpStG a b V w x y wr) (fun x _ _ => szV x)
  case atStart => exact ⟨a, b, a.size, rfl, rfl, Nat.le_refl _, ha, hb, by rw [← hV]; unfold compareV; rw [len_size], Gr.refl _⟩
  case round =>
    obtain ⟨X, Y, n, rfl, rfl, hn, hX, hY, hF, hbw⟩ := hrel
    by_cases h0 : 0 < X.size ∧ 0 < Y.size
    · obtain ⟨hx0, hy0⟩ := h0
      have ex := empty_no hx0
      have ey := empty_no hy0
      obtain ⟨n', rfl, hnx⟩ := cmpF_next (a := a.data.toList) (b := b.data.toList) (ne_size hx0) (ne_size hy0) (by rw [len_size]; exact hn)
      rw [hF] at hnx
      have lx := elemN_le X.data.toList (by rw [len_size]; exact hx0)
      have ly := elemN_le Y.data.toList (by rw [len_size]; exact hy0)
      rw [len_size] at lx ly
      have w1 := fun (w : World) => element_walkG X w hx0 hX
      have w2 := fun (w : World) => element_walkG Y w hy0 hY
      obtain ⟨p, hp⟩ : ∃ p, elemN X.data.toList = p := ⟨_, rfl⟩
      obtain ⟨q, hq⟩ : ∃ q, elemN Y.data.toList = q := ⟨_, rfl⟩
      rw [hp] at lx w1 hnx
      rw [hq] at ly w2 hnx
      have hel := fun (U : World) => elements_walkG (X.extract 0 p) (Y.extract 0 q) U (by simp; omega) (by simp; omega)
      have xp : (X.extract 0 p).data.toList = X.data.toList.take p := by rw [ext_list]; simp
      have yq : (Y.extract 0 q).data.toList = Y.data.toList.take q := by rw [ext_list]; simp
      have xd : (X.extract p X.size).data.toList = X.data.toList.drop p := by rw [ext_list, List.take_of_length_le (by simp)]
      have yd : (Y.extract q Y.size).data.toList = Y.data.toList.drop q := by rw [ext_list, List.take_of_length_le (by simp)]
      have zx : (X.extract p X.size).size = X.size - p := by simp
      have zy : (Y.extract q Y.size).size = Y.size - q := by simp
      rw [xp, yq] at hel
      rw [← xd, ← yd] at hnx
      obtain ⟨E, hE⟩ : ∃ E, elemC (X.data.toList.take p) (Y.data.toList.take q) = E := ⟨_, rfl⟩
      rw [hE] at hel hnx
      have hp1 : (p : Int) ≤ (X.size : Int) := by omega
      have hq1 : (q : Int) ≤ (Y.size : Int) := by omega
      have hp0 : (0 : Int) ≤ (p : Int) := by omega
      have hq0 : (0 : Int) ≤ (q : Int) := by omega
      have hel2 := hide (fun (R : World) (U : World) (hU : Gr R U) => (hel U).mono fun e w' ⟨he, hb⟩ => (⟨he, Gr.trans hU hb⟩ : e = Ending.returned (.int .i64 E) ∧ Gr R w'))
      replace w1 := hide w1
      replace w2 := hide w2
      replace hnx := hide hnx
      replace xd := hide xd
      replace yd := hide yd
      replace zx := hide zx
      replace zy := hide zy
      clear xp yq hE hp hq hF hel
      go_wp2_with (first | (go_at_call 72; first | (with_reducible refine (w1.out _).mono ?_; rintro e y1 ⟨rfl, hb1⟩) | (with_reducible refine (w2.out _).mono ?_; rintro e y2 ⟨rfl, hb2⟩)))
      have hbn := Gr.trans hbw (Gr.trans hb1 hb2)
      have hel3 := hide (fun (U : World) (hU : Gr y2 U) => hel2.out y2 U hU)
      have hrefl := Gr.refl y2
      clear hel2 hb1 hb2 hbw w1 w2
      go_region_held3 (fun W' => True) (first | trivial) (first | (go_at_call 73; (with_reducible refine (hel3.out _ ?_).mono ?_); (repeat (first | (with_reducible assumption) | (with_reducible refine Gr.alloc ?_ _) | (with_reducible refine Gr.drew ?_))); rintro e y3 ⟨rfl, hb3⟩))
      all_goals
        have hbm := Gr.trans hbn hb3
        clear hel3 hrefl hb3 hbn
        by_cases hE : E = 0
        · have hn2 : Hid (V = cmpF a.data.toList b.data.toList n' (X.extract p X.size).data.toList (Y.extract q Y.size).data.toList) := hide (hnx.out.trans (if_neg (fun h => h hE)))
          subst hE
          clear hnx ex ey
          go_upto_region 7 with fail
          go_region
          all_goals
            go_wp2
            go_roundw
            case rel => exact ⟨_, _, n', rfl, rfl, by have := zx.out; omega, by have := zx.out; omega, by have := zy.out; omega, hn2.out.symm, by first | exact hbm | exact Gr.drew hbm⟩
            case measure => have := zx.out; simp only [szV]; omega
        · have hn2 : Hid (V = E) := hide (hnx.out.trans (if_pos hE))
          clear hnx ex ey
          go_wp2
          all_goals first | (exfalso; omega) | (go_ret; exact ⟨by rw [hn2.out]; rfl, hbm⟩)
    · have hend := endC_or a.data.toList b.data.toList X Y h0
      have hfe : cmpF a.data.toList b.data.toList n X.data.toList Y.data.toList = endC a.data.toList b.data.toList X.data.toList Y.data.toList := cmpF_end (by
        by_cases hx : X.size = 0
        · exact .inl (nil_size hx)
        · exact .inr (nil_size (by omega)))
      rw [← hfe, hF] at hend
      have hci := fun (w : World) => Tryz.cmp_Compare_int (min (X.size : Int) 1) (min (Y.size : Int) 1) w
      obtain ⟨i1, hi1⟩ : ∃ i1, Lib.compareInt (min (X.size : Int) 1) (min (Y.size : Int) 1) = i1 := ⟨_, rfl⟩
      obtain ⟨i2, hi2⟩ : ∃ i2, ordL a.data.toList b.data.toList = i2 := ⟨_, rfl⟩
      rw [hi1] at hci hend
      rw [hi2] at hcS hend
      have hor := hide (fun (w : World) => (or_walk w.heap.size i1 i2 (w.alloc (.cells #[.int .i64 i1, .int .i64 i2] 3)) (by simp) (by simp)).mono fun e w' ⟨he, hw⟩ => (⟨he.trans (by rw [hend]), hw⟩ : e = Ending.returned (.int .i64 V) ∧ _ = w'))
      replace hci := hide hci
      clear hi1 hi2 hend hfe hF
      have hx : (0 < X.size ∧ X.toList.isEmpty = false ∧ Y.toList.isEmpty = true) ∨ X.toList.isEmpty = true := by
        by_cases hx : X.size = 0
        · exact .inr (empty_yes hx)
        · exact .inl ⟨by omega, empty_no (by omega), empty_yes (by omega)⟩
      rcases hx with ⟨-, ex, ey⟩ | ex
      all_goals
        go_wp2_with (first | (go_at_call 75; refine (hci.out _).mono ?_; rintro e w' ⟨rfl, rfl⟩) | (go_at_call 76; refine (hcS.out _).mono ?_; rintro e w' ⟨rfl, rfl⟩) | (go_at_call 74; refine (hor.out _).mono ?_; rintro e w' ⟨rfl, rfl⟩))
        go_ret
        exact ⟨rfl, Gr.alloc hbw _⟩
end Go.Proofs.YthejgholpkeldaaGreatDoor
