/- Walks of fields.Times and timetableref07.WriteTimes: the text of times. Conditions: the cells; at most 1000 times; what the program's variables hold. Rows of their own, on: what they point to is written; several elements are appended. No condition. Walks of slices.Index and Contains at strings, and timetableref08.place. Conditions: the cells. What fields.Read gathers, whatever the kind of its elements. No condition. -/
import Derived.Test.YtnbcaklnpflihaaGreatDoorKOwn
import Derived.Test.YtnbcaklnpflihaaGreatDoorKTgL
import Derived.Deep.RegionHeld3
import Derived.Deep.DeepCutAuto
import Derived.Test.YtnbcaklnpflihaaGreatDoorKR9A
import Derived.Test.YtnbcaklnpflihaaGreatDoorKTgH
namespace Go.Proofs.YtnbcaklnpflihaaGreatDoor
open Go.RowKit
set_option maxRecDepth 100000

theorem apd_strs : Apd Tryz.prog 44 9 1 16 := apd Tryz.underlying44 (z := .string ⟨#[]⟩) (by kernel_rfl) rfl
theorem strs_flat : ∀ (zs : List ByteArray) (vss : List (List Value)), vss.length = zs.length → (∀ (j : Nat) (x : ByteArray) (vs : List Value), zs[j]? = some x → vss[j]? = some vs → vs = [Value.string x]) → vss.flatten = zs.map Value.string
  | [], [], _, _ => rfl
  | [], _ :: _, h, _ => by simp at h
  | _ :: _, [], h, _ => by simp at h
  | z :: zs, vs :: vss, h, hk => by
    have h0 := hk 0 z vs rfl rfl
    subst h0
    have ih := strs_flat zs vss (by simpa using h) (fun j x us hx hu => hk (j + 1) x us (by simpa using hx) (by simpa using hu))
    simp [ih]
theorem strs_of_own {t : TypeId} {ts : List TypeId} {B0 B : Nat} {w : World} {v : Value} {zs : List ByteArray} (h : Own kStr t ts B0 B w v zs) : w.ownsRow B t 1 v zs.length (zs.map Value.string) := by
  obtain ⟨vss, e1, e2, e3⟩ := h
  rw [strs_flat zs vss e1 (fun j x vs hx hv => rep_str.1 (e3 j x vs hx hv))] at e2
  exact e2
theorem joinC_walk (c : UInt8) {ts : List TypeId} {B0 B : Nat} (w : World) (v : Value) (zs : List ByteArray) (h : Own kStr 9 ts B0 B w v zs) (hl : zs.length ≤ 1000000) (hj : (Lib.join (zs.map (·.data.toList)) [c]).length ≤ 1000000000) :
    Calls Tryz.prog 58 #[v, .string ⟨#[c]⟩] w fun e w' => e = .returned (.string ⟨(Lib.join (zs.map (·.data.toList)) [c]).toArray⟩) ∧ Below w.heap.size w w' := by
  obtain ⟨h1, h2⟩ := strs_of_own h
  rcases h2 with ⟨rfl, h0⟩ | ⟨g, cap, cur, rfl, hb, hg, hn, hm, hs, ht⟩
  · obtain rfl := List.eq_nil_of_length_eq_zero h0
    exact (Tryz.strings_Join_none none 0 _ w).mono fun e w' ⟨he, hw⟩ => ⟨he, by rw [hw]; exact Below.refl _ _⟩
  · exact Tryz.strings_Join g 0 cap zs ⟨#[c]⟩ w (by
      intro j x hx
      have e : (cur.toList.take (zs.length * 1))[j]? = (zs.map Value.string)[j]? := by rw [ht]
      have hjl := (List.getElem?_eq_some_iff.1 hx).1
      rw [List.getElem?_take, if_pos (by omega), List.getElem?_map, hx] at e
      rw [Nat.zero_add, cell_of_row w g j _ _ _ hg, ← Array.getElem?_toList, e]; rfl)
      (Array.getElem?_eq_some_iff.1 hg).1 (by omega) hn (by show (Lib.join (zs.map (·.data.toList)) [c]).length ≤ _; omega)
def fmtS (d sl b m n : Int) (t : T4) : ByteArray := ⟨(fmtB d sl b m n t).toArray⟩
theorem fmtS_list (d sl b m n : Int) (ts : List T4) : (ts.map (fmtS d sl b m n)).map (·.data.toList) = ts.map (fmtB d sl b m n) := by
  rw [List.map_map]; exact List.map_congr_left fun _ _ => rfl
set_option maxHeartbeats 4000000 in
theorem ftimesW_walk (A : Option Addr) (ts : List T4) (c : Nat) (d sl b m n : Int) (w : World) (hn : ts.length ≤ 1000) (hX : CellsAt w.heap.size w A 4 ts.length fun j => encT (ts.getD j (0, 0, 0, 0))) :
    Calls Tryz.prog 25 #[.slice A ts.length c, .agg #[.int .i64 d, .int .i64 sl, .int .i64 b, .int .i64 m], .int .i64 n] w fun e w' => e = .returned (.string ⟨(timesL d sl b m n ts).toArray⟩) ∧ Below w.heap.size w w' := by
  have hb0 : Below w.heap.size w (w.alloc (.cells #[.int .i64 d, .int .i64 sl, .int .i64 b, .int .i64 m] 24)) := (by repeat (first | exact Below.refl _ _ | refine ext_alloc ?_ _ | refine ext_drewN ?_ _ | refine ext_drew ?_ | refine ext_trans ?_ (by assumption)))
  have bG := Box4.new w 24 (.int .i64 d) (.int .i64 sl) (.int .i64 b) (.int .i64 m)
  have hX0 := (hX.below hb0).more hb0.size
  obtain ⟨gb, hgb⟩ : ∃ gb, w.heap.size = gb := ⟨_, rfl⟩
  obtain ⟨W, hW⟩ : ∃ W, w.alloc (.cells #[.int .i64 d, .int .i64 sl, .int .i64 b, .int .i64 m] 24) = W := ⟨_, rfl⟩
  rw [hW] at hb0 bG hX0
  rw [hgb] at bG
  have hgl := bG.lt
  obtain ⟨g0, g1, g2, g3⟩ := bG
  obtain ⟨N, hN⟩ : ∃ N, ts.length = N := ⟨_, rfl⟩
  rw [hN] at hn hX0 ⊢
  replace hN := hide hN
  replace hgb := hide hgb
  replace hW := hide hW
  clear hX
  go_enter Tryz.func25, Tryz.ntmps25
  go_wp2_with fail
  rw [hW.out, hgb.out]
  go_loopw [7, 14] (fun v i wr => ∃ j : Nat, j ≤ N ∧ i = .int .i64 j ∧ Own kStr 9 [] 0 W.heap.size wr v ((ts.take j).map (fmtS d sl b m n)) ∧ Below W.heap.size W wr) (fun _ i _ => N - (intOf i).toNat)
  case atStart => exact ⟨0, Nat.zero_le _, rfl, Own.nil, Below.refl _ _⟩
  case round =>
    obtain ⟨j, hj, rfl, hown, hb⟩ := hrel
    by_cases hlt : j < N
    · obtain ⟨t, ht⟩ : ∃ t, ts[j]? = some t := ⟨_, List.getElem?_eq_getElem (by rw [hN.out]; exact hlt)⟩
      obtain ⟨tb, off, rfl, htb, hc⟩ := (hX0.below hb) (by omega)
      have hget : ts.getD j (0, 0, 0, 0) = t := by rw [List.getD_eq_getElem?_getD, ht]; rfl
      have k0 := hc j hlt 0 _ rfl
      have k1 := hc j hlt 1 _ rfl
      have k2 := hc j hlt 2 _ rfl
      have k3 := hc j hlt 3 _ rfl
      rw [hget] at k0 k1 k2 k3
      rw [Nat.add_zero] at k0
      have hsn : Hid ((ts.take (j + 1)).map (fmtS d sl b m n) = (ts.take j).map (fmtS d sl b m n) ++ [fmtS d sl b m n t]) := by
        refine hide ?_
        rw [List.take_add_one, ht]; simp
      have hlen : ((ts.take j).map (fmtS d sl b m n)).length ≤ 1000 := by rw [List.length_map, List.length_take]; omega
      have hF : Hid (Ending.returned (.tuple #[.string ⟨(fmtT d sl b m n t.1 t.2.1 t.2.2.1 t.2.2.2).1.toArray⟩, .int .i64 (fmtT d sl b m n t.1 t.2.1 t.2.2.1 t.2.2.2).2]) = .returned (.tuple #[.string (fmtS d sl b m n t), .int .i64 (fmtT d sl b m n t.1 t.2.1 t.2.2.1 t.2.2.2).2])) := hide rfl
      obtain ⟨x1, x2, x3, x4⟩ := t
      dsimp only at k0 k1 k2 k3 hF
      obtain ⟨zs, hzs⟩ : ∃ zs, (ts.take j).map (fmtS d sl b m n) = zs := ⟨_, rfl⟩
      rw [hzs] at hown hsn hlen
      have r0 := cell_later hb g0
      have r1 := cell_later hb g1
      have r2 := cell_later hb g2
      have r3 := cell_later hb g3
      have hz := hb.size
      have htbr : tb < wr.heap.size := by omega
      have hgr : gb < wr.heap.size := by omega
      clear hc hget ht hzs
      go_wp2_with fail
      refine (tgFormat_walk d sl b m n x1 x2 x3 x4 _).mono ?_
      rintro e w2 ⟨rfl, hb2⟩
      rw [hF.out]
      have hb3 := ext_trans (ext_alloc (Below.refl wr.heap.size wr) (.cells #[.int .i64 x1, .int .i64 x2, .int .i64 x3, .int .i64 x4] 50)) hb2
      have hown2 := hown.later hb3
      have hbw := ext_trans hb hb3
      have hz2 := hbw.size
      clear hown hb2 hF k0 k1 k2 k3 r0 r1 r2 r3
      go_wp2_with (at_builtin; refine wpList_own rfl _ _ rfl apd_strs (by decide) rfl (hown2.alloc _) ?c1 (by decide) ⟨w2.heap.size, 0, none⟩ 1 rfl (fmtS d sl b m n (x1, x2, x3, x4)) [.string (fmtS d sl b m n (x1, x2, x3, x4))] rfl (World.news_of_block (cs := #[.string (fmtS d sl b m n (x1, x2, x3, x4))]) (t := 9) (fr := (0, 0)) (heap_alloc_new _ _)) (by decide) (Nat.zero_le _) ?c2 ?_)
      case c1 => omega
      case c2 => rw [World.size_alloc]; omega
      intro v' w4 hown4 hgrow
      have hb4 : Below W.heap.size W w4 := (hown2.alloc _).below_grown (ext_alloc hbw _) (Nat.le_refl _) hgrow
      clear hown2 hgrow
      go_wp2
      go_roundw
      case rel => exact ⟨j + 1, by omega, by go_num, by rw [hsn.out]; exact hown4, hb4⟩
      case measure => simp [intOf]; omega
    · obtain rfl : j = N := by omega
      have hall : Hid (ts.take j = ts) := hide (by rw [← hN.out]; exact List.take_length)
      rw [hall.out] at hown
      have hjn := joinC_walk 59 wr _ _ hown (by rw [List.length_map, hN.out]; omega) (by
        rw [fmtS_list]; have := timesL_len d sl b m n ts; unfold timesL at this; rw [hN.out] at this; omega)
      rw [fmtS_list] at hjn
      have hbw := ext_trans hb0 hb
      clear hall hown g0 g1 g2 g3
      go_wp2_with fail
      refine hjn.mono ?_
      rintro e w2 ⟨rfl, hb2⟩
      clear hjn
      go_wp2
      go_ret
      exact ⟨rfl, ext_trans hbw hb2⟩
theorem empty_app (x : ByteArray) : (⟨#[]⟩ : ByteArray) ++ x = x := by apply ByteArray.ext; simp [ByteArray.data_append]
set_option maxHeartbeats 4000000 in
theorem r7WriteT_walk (A : Option Addr) (ts : List T4) (c : Nat) (d sl b m n : Int) (w : World) (hS : Std w) (hWd : Wds w) (hD : Dys w) (hn : ts.length ≤ 1000) (hX : CellsAt w.heap.size w A 4 ts.length fun j => encT (ts.getD j (0, 0, 0, 0))) :
    Calls Tryz.prog 28 #[.slice A ts.length c, .agg #[.int .i64 d, .int .i64 sl, .int .i64 b, .int .i64 m], .int .i64 n] w fun e w' => e = .returned (.string ⟨(timesL d sl b m n ts).toArray⟩) ∧ Below w.heap.size w w' := by
  have hb0 : Below w.heap.size w (w.alloc (.cells #[.int .i64 d, .int .i64 sl, .int .i64 b, .int .i64 m] 24)) := (by repeat (first | exact Below.refl _ _ | refine ext_alloc ?_ _ | refine ext_drewN ?_ _ | refine ext_drew ?_ | refine ext_trans ?_ (by assumption)))
  have bG := Box4.new w 24 (.int .i64 d) (.int .i64 sl) (.int .i64 b) (.int .i64 m)
  have hX0 := (hX.below hb0).more hb0.size
  have hS0 := hS.after hb0
  have hW0 := hWd.after hb0 hS
  have hD0 := hD.after hb0 hS
  obtain ⟨gb, hgb⟩ : ∃ gb, w.heap.size = gb := ⟨_, rfl⟩
  obtain ⟨W, hW⟩ : ∃ W, w.alloc (.cells #[.int .i64 d, .int .i64 sl, .int .i64 b, .int .i64 m] 24) = W := ⟨_, rfl⟩
  rw [hW] at hb0 bG hX0 hS0 hW0 hD0
  rw [hgb] at bG
  have hgl := bG.lt
  obtain ⟨g0, g1, g2, g3⟩ := bG
  obtain ⟨N, hN⟩ : ∃ N, ts.length = N := ⟨_, rfl⟩
  rw [hN] at hn hX0 ⊢
  replace hN := hide hN
  replace hgb := hide hgb
  replace hW := hide hW
  clear hX hS hWd hD
  go_enter Tryz.func28, Tryz.ntmps28
  go_wp2_with fail
  rw [hW.out, hgb.out]
  go_loopw [7, 8] (fun v i wr => ∃ j : Nat, j ≤ N ∧ i = .int .i64 j ∧ v = .string ⟨(timesL d sl b m n (ts.take j)).toArray⟩ ∧ Below W.heap.size W wr) (fun _ i _ => N - (intOf i).toNat)
  case atStart => exact ⟨0, Nat.zero_le _, rfl, rfl, Below.refl _ _⟩
  case round =>
    obtain ⟨j, hj, rfl, rfl, hb⟩ := hrel
    by_cases hlt : j < N
    · obtain ⟨t, ht⟩ : ∃ t, ts[j]? = some t := ⟨_, List.getElem?_eq_getElem (by rw [hN.out]; exact hlt)⟩
      obtain ⟨tb, off, rfl, htb, hc⟩ := (hX0.below hb) (by omega)
      have hget : ts.getD j (0, 0, 0, 0) = t := by rw [List.getD_eq_getElem?_getD, ht]; rfl
      have k0 := hc j hlt 0 _ rfl
      have k1 := hc j hlt 1 _ rfl
      have k2 := hc j hlt 2 _ rfl
      have k3 := hc j hlt 3 _ rfl
      rw [hget] at k0 k1 k2 k3
      rw [Nat.add_zero] at k0
      have hsn : Hid ((⟨(timesL d sl b m n (ts.take (j + 1))).toArray⟩ : ByteArray) = if j = 0 then fmtS d sl b m n t else ⟨(timesL d sl b m n (ts.take j)).toArray⟩ ++ ⟨#[59]⟩ ++ fmtS d sl b m n t) := by
        refine hide ?_
        rw [List.take_add_one, ht]
        show (⟨(timesL d sl b m n (ts.take j ++ [t])).toArray⟩ : ByteArray) = _
        rw [timesL_snoc]
        by_cases h0 : j = 0
        · subst h0; rfl
        · rw [if_neg h0, if_neg (by intro e; have := congrArg List.length e; rw [List.length_take, hN.out] at this; simp at this; omega)]
          apply ByteArray.ext
          simp [fmtS, ByteArray.data_append]
      have hF : Hid (Ending.returned (.tuple #[.string ⟨(fmtT d sl b m n t.1 t.2.1 t.2.2.1 t.2.2.2).1.toArray⟩, .int .i64 (fmtT d sl b m n t.1 t.2.1 t.2.2.1 t.2.2.2).2]) = .returned (.tuple #[.string (fmtS d sl b m n t), .int .i64 (fmtT d sl b m n t.1 t.2.1 t.2.2.1 t.2.2.2).2])) := hide rfl
      have hfl : (fmtS d sl b m n t).size ≤ 200 := by have := fmtB_len d sl b m n t; unfold fmtS; simpa [ByteArray.size] using this
      obtain ⟨x1, x2, x3, x4⟩ := t
      dsimp only at k0 k1 k2 k3 hF
      have hol : (⟨(timesL d sl b m n (ts.take j)).toArray⟩ : ByteArray).size ≤ 201000 := by
        have := timesL_len d sl b m n (ts.take j)
        rw [List.length_take] at this
        simp only [ByteArray.size, List.size_toArray]
        omega
      have hO0 : j = 0 → (⟨(timesL d sl b m n (ts.take j)).toArray⟩ : ByteArray) = ⟨#[]⟩ := fun e => by subst e; rfl
      obtain ⟨O, hO⟩ : ∃ O, (⟨(timesL d sl b m n (ts.take j)).toArray⟩ : ByteArray) = O := ⟨_, rfl⟩
      rw [hO] at hsn hol hO0 ⊢
      obtain ⟨Fb, hFb⟩ : ∃ Fb, fmtS d sl b m n (x1, x2, x3, x4) = Fb := ⟨_, rfl⟩
      rw [hFb] at hsn hfl hF
      have r0 := cell_later hb g0
      have r1 := cell_later hb g1
      have r2 := cell_later hb g2
      have r3 := cell_later hb g3
      have hz := hb.size
      have htbr : tb < wr.heap.size := by omega
      have hgr : gb < wr.heap.size := by omega
      have hC : Cn8 gb 0 (.int .i64 d) gb 1 (.int .i64 sl) gb 2 (.int .i64 b) gb 3 (.int .i64 m) tb (off + j * 4) (.int .i64 x1) tb (off + j * 4 + 1) (.int .i64 x2) tb (off + j * 4 + 2) (.int .i64 x3) tb (off + j * 4 + 3) (.int .i64 x4) wr := ⟨r0, r1, r2, r3, k0, k1, k2, k3⟩
      have hcall := hide (fun (V : World) (hV : Below wr.heap.size wr V) => (r6Format_walk d sl b m n x1 x2 x3 x4 V ((hS0.after hb).after hV) ((hW0.after hb hS0).after hV (hS0.after hb)) ((hD0.after hb hS0).after hV (hS0.after hb))).mono fun _ _ ⟨he, hb⟩ => (⟨he.trans hF.out, ext_trans hV hb, hC.later (ext_trans hV hb)⟩ : _ ∧ Below wr.heap.size wr _ ∧ Cn8 gb 0 (.int .i64 d) gb 1 (.int .i64 sl) gb 2 (.int .i64 b) gb 3 (.int .i64 m) tb (off + j * 4) (.int .i64 x1) tb (off + j * 4 + 1) (.int .i64 x2) tb (off + j * 4 + 2) (.int .i64 x3) tb (off + j * 4 + 3) (.int .i64 x4) _))
      have hCd := hC.drew
      have hrefl := Below.refl wr.heap.size wr
      have hj0 : (0 : Int) ≤ (j : Int) := by omega
      have hj1 : (j : Int) < (N : Int) := by omega
      clear hc hget ht hO hFb hF hX0 hS0 hW0 hD0
      by_cases h0 : j = 0
      · have hO1 := hO0 h0
        subst hO1
        rw [if_pos h0] at hsn
        have hj3 : (j : Int) ≤ 0 := by omega
        have hc1 : (9223372036854775807 < (⟨#[]⟩ : ByteArray).size + Fb.size) = False := eq_false (by rw [show (⟨#[]⟩ : ByteArray).size = 0 from rfl]; omega)
        have hc2 : (9223372036854775807 < Fb.size) = False := eq_false (by omega)
        clear hO0
        replace h0 := hide h0
        go_wp2_with fail
        go_region_held3 (fun W' => W'.cell? ⟨gb, 0, none⟩ = some (.int .i64 d) ∧ W'.cell? ⟨gb, 1, none⟩ = some (.int .i64 sl) ∧ W'.cell? ⟨gb, 2, none⟩ = some (.int .i64 b) ∧ W'.cell? ⟨gb, 3, none⟩ = some (.int .i64 m) ∧ W'.cell? ⟨tb, off + j * 4, none⟩ = some (.int .i64 x1) ∧ W'.cell? ⟨tb, off + j * 4 + 1, none⟩ = some (.int .i64 x2) ∧ W'.cell? ⟨tb, off + j * 4 + 2, none⟩ = some (.int .i64 x3) ∧ W'.cell? ⟨tb, off + j * 4 + 3, none⟩ = some (.int .i64 x4)) (first | ((repeat (first | (with_reducible assumption) | (with_reducible refine Cn8.alloc ?_ _) | (with_reducible refine Cn8.drew ?_) | (with_reducible refine Cn8.set ?_ ?_ ?_ ?_ ?_ ?_ ?_ ?_ ?_ _) | omega)); done)) (first | (go_at_call 61; refine (hcall.out _ (by repeat (first | (with_reducible assumption) | (with_reducible refine ext_alloc ?_ _) | (with_reducible refine ext_drew ?_)))).mono ?_; rintro e w2 ⟨rfl, hb2, hx2⟩))
        all_goals
          have hbn := ext_trans hb hb2
          clear hcall hC hCd hrefl hb2
          go_wp2
          go_roundw
          case rel => exact ⟨j + 1, by omega, by go_num, by rw [hsn.out]; exact congrArg Value.string (empty_app Fb), by first | exact ext_drew hbn | exact hbn⟩
          case measure => simp [intOf]; omega
      · rw [if_neg h0] at hsn
        have hj2 : 0 < j := by omega
        have hj3 : (0 : Int) < (j : Int) := by omega
        have hc1 : (9223372036854775807 < O.size + 1) = False := eq_false (by omega)
        have hc2 : (9223372036854775807 < O.size + 1 + Fb.size) = False := eq_false (by omega)
        clear hO0
        replace h0 := hide h0
        go_wp2_with fail
        go_region_held3 (fun W' => W'.cell? ⟨gb, 0, none⟩ = some (.int .i64 d) ∧ W'.cell? ⟨gb, 1, none⟩ = some (.int .i64 sl) ∧ W'.cell? ⟨gb, 2, none⟩ = some (.int .i64 b) ∧ W'.cell? ⟨gb, 3, none⟩ = some (.int .i64 m) ∧ W'.cell? ⟨tb, off + j * 4, none⟩ = some (.int .i64 x1) ∧ W'.cell? ⟨tb, off + j * 4 + 1, none⟩ = some (.int .i64 x2) ∧ W'.cell? ⟨tb, off + j * 4 + 2, none⟩ = some (.int .i64 x3) ∧ W'.cell? ⟨tb, off + j * 4 + 3, none⟩ = some (.int .i64 x4)) (first | ((repeat (first | (with_reducible assumption) | (with_reducible refine Cn8.alloc ?_ _) | (with_reducible refine Cn8.drew ?_) | (with_reducible refine Cn8.set ?_ ?_ ?_ ?_ ?_ ?_ ?_ ?_ ?_ _) | omega)); done)) (first | (go_at_call 61; refine (hcall.out _ (by repeat (first | (with_reducible assumption) | (with_reducible refine ext_alloc ?_ _) | (with_reducible refine ext_drew ?_)))).mono ?_; rintro e w2 ⟨rfl, hb2, hx2⟩))
        all_goals
          have hbn := ext_trans hb hb2
          clear hcall hC hCd hrefl hb2
          go_wp2
          go_roundw
          case rel => exact ⟨j + 1, by omega, by go_num, by rw [hsn.out], by first | exact ext_drew hbn | exact hbn⟩
          case measure => simp [intOf]; omega
    · obtain rfl : j = N := by omega
      have hall : Hid (ts.take j = ts) := hide (by rw [← hN.out]; exact List.take_length)
      have hbw := ext_trans hb0 hb
      rw [hall.out]
      clear hall g0 g1 g2 g3
      go_wp2
      go_ret
      exact ⟨rfl, hbw⟩
end Go.Proofs.YtnbcaklnpflihaaGreatDoor

namespace Go.Proofs.YtnbcaklnpflihaaGreatDoor
open Go.RowKit
set_option maxRecDepth 100000

theorem TyAt.free {ts : List TypeId} {w : World} {b : Nat} (h : TyAt ts w b) (o : Nat) : w.frozen? ⟨b, o, none⟩ = false := by
  obtain ⟨cs, t, h, -⟩ := h
  simp [World.frozen?, h]
theorem list_choice {α β : Type} {R : Nat → α → β → Prop} : ∀ (xs : List α), (∀ (j : Nat) (x : α), xs[j]? = some x → ∃ y, R j x y) → ∃ ys : List β, ys.length = xs.length ∧ ∀ (j : Nat) (x : α) (y : β), xs[j]? = some x → ys[j]? = some y → R j x y := by
  intro xs
  induction xs generalizing R with
  | nil => exact fun _ => ⟨[], rfl, fun j x y h => by simp at h⟩
  | cons x xs ih =>
    intro h
    obtain ⟨y, hy⟩ := h 0 x rfl
    obtain ⟨ys, h1, h2⟩ := ih (R := fun j => R (j + 1)) (fun j x hx => h (j + 1) x (by simpa using hx))
    refine ⟨y :: ys, by simp [h1], fun j a b ha hb => ?_⟩
    cases j with
    | zero => simp at ha hb; subst ha; subst hb; exact hy
    | succ j => exact h2 j a b (by simpa using ha) (by simpa using hb)
section
variable {w : World} {B B0 : Nat} {t t1 : TypeId} {ts : List TypeId} {v : Value} {xs : List (List ByteArray)}
/-- The slice that stands for row k, and its strings. -/
theorem Own.row_at {α : Type} {K : Kind α} {xs : List (List α)} (h : Own (kSlice K) t ts B0 B w v xs) {k : Nat} {x : List α} (hk : xs[k]? = some x) :
    ∃ g c F cF, v = .slice (some ⟨g, 0, none⟩) xs.length c ∧ xs.length ≤ c ∧ B ≤ g ∧ g < w.heap.size ∧ w.cell? ⟨g, k, none⟩ = some (.slice F x.length cF) ∧ x.length ≤ cF ∧ At K (Ty ts B0 B w) w F x := by
  have hcap := h.at
  obtain ⟨vss, e1, e2, e3⟩ := h
  have hkl := (List.getElem?_eq_some_iff.1 hk).1
  obtain ⟨A, c, rfl, hc, -⟩ := hcap
  rcases e2.2 with ⟨_, h0⟩ | ⟨g, cap, cur, he, hB, hg, _, _, _, htake⟩
  · omega
  · injection he with he hc2 hc3
    subst he
    have hv : vss[k]? = some (vss[k]'(by omega)) := List.getElem?_eq_getElem (by omega)
    obtain ⟨F, cF, hvs, h1, h2⟩ := e3 k x _ hk hv
    have hall : ∀ vs ∈ vss, vs.length = 1 := by
      intro vs hvm
      obtain ⟨j, hj⟩ := List.getElem?_of_mem hvm
      have hjl := (List.getElem?_eq_some_iff.1 hj).1
      exact (kSlice K).len (e3 j _ vs (List.getElem?_eq_getElem (by omega)) hj)
    have hcell := e2.cells (g := g) rfl (k * 1 + 0) _ ((flatten_at vss hall k 0 _ hv (by omega)).trans (by rw [hvs]; rfl))
    rw [show (⟨g, 0, none⟩ : Addr).add (k * 1 + 0) = ⟨g, k, none⟩ from by rw [Addr.add_lit]; simp] at hcell
    exact ⟨g, c, F, cF, rfl, hc, hB, blk_lt hg, hcell, h1, h2⟩
/-- A string of a row is written anew: each row reads as one of the same length, of the same strings and the new one. -/
theorem Own.restore (h : Own (kSlice kStr) t [t1] 0 B w v xs) {b' o' : Nat} {cs : Array Value} {z : ByteArray} (hb : w.heap[b']? = some (.cells cs t1 (0, 0))) (hts : t ≠ t1) (hB : B ≤ b') :
    ∃ xs', Own (kSlice kStr) t [t1] 0 B (w.setCell ⟨b', o', none⟩ (.string z)) v xs' ∧ xs'.length = xs.length ∧ ∀ (j : Nat) (x' : List ByteArray), xs'[j]? = some x' → ∃ x : List ByteArray, xs[j]? = some x ∧ x'.length = x.length ∧ ∀ y ∈ x', y ∈ x ∨ y = z := by
  obtain ⟨vss, e1, e2, e3⟩ := h
  obtain ⟨w', hw'⟩ : ∃ w', w.setCell ⟨b', o', none⟩ (.string z) = w' := ⟨_, rfl⟩
  have hz : w'.heap.size = w.heap.size := by rw [← hw']; simp [World.setCell]
  have hother : ∀ b, b ≠ b' → w'.heap[b]? = w.heap[b]? := fun b hne => by rw [← hw']; exact Below.heap_setCell w ⟨b', o', none⟩ (.string z) b hne
  have hsame : ∃ cs', w'.heap[b']? = some (.cells cs' t1 (0, 0)) := by
    rw [← hw']
    simp only [World.setCell, Array.getElem?_modify, hb]
    exact ⟨_, rfl⟩
  have hTy : ∀ b, Ty [t1] 0 B w b → Ty [t1] 0 B w' b := by
    intro b hs
    rcases hs with hs | ⟨hs, cs2, t2, hc, ht⟩
    · exact .inl hs
    · by_cases hbb : b = b'
      · subst hbb
        obtain ⟨cs', hc'⟩ := hsame
        exact .inr ⟨hs, cs', t1, hc', by simp⟩
      · exact .inr ⟨hs, cs2, t2, (hother b hbb).trans hc, ht⟩
  have hrow : ∀ (j : Nat) (x : List ByteArray), xs[j]? = some x → ∃ x' : List ByteArray, (∀ vs, vss[j]? = some vs → (kSlice kStr).rep (Ty [t1] 0 B w') w' x' vs) ∧ x'.length = x.length ∧ ∀ y ∈ x', y ∈ x ∨ y = z := by
    intro j x hx
    have hjl := (List.getElem?_eq_some_iff.1 hx).1
    have hv : vss[j]? = some (vss[j]'(by omega)) := List.getElem?_eq_getElem (by omega)
    obtain ⟨F, cF, hvs, hc, hF⟩ := e3 j x _ hx hv
    by_cases hn : 0 < x.length
    · obtain ⟨b, off, rfl, hS, hlt, hcell⟩ := hF hn
      refine ⟨x.mapIdx fun i y => if b = b' ∧ off + i = o' then z else y, fun vs hvs' => ?_, by simp, fun y hy => ?_⟩
      · rw [hv] at hvs'
        obtain rfl := Option.some.inj hvs'
        refine ⟨some ⟨b, off, none⟩, cF, by simpa using hvs, by simpa using hc, fun _ => ⟨b, off, rfl, hTy b hS, by omega, fun i y hy => ⟨[.string y], rfl, fun q u hu => ?_⟩⟩⟩
        have hq : q = 0 := by
          have := (List.getElem?_eq_some_iff.1 hu).1
          simpa using this
        subst hq
        simp at hu
        subst hu
        obtain ⟨y0, hy0, hyy⟩ : ∃ y0, x[i]? = some y0 ∧ (if b = b' ∧ off + i = o' then z else y0) = y := by
          rw [List.getElem?_mapIdx] at hy
          obtain ⟨y0, h1, h2⟩ := Option.map_eq_some_iff.1 hy
          exact ⟨y0, h1, h2⟩
        obtain ⟨us, rfl, hus⟩ := hcell i y0 hy0
        have hold : w.cell? ⟨b, off + i, none⟩ = some (.string y0) := by simpa [kStr] using hus 0 _ rfl
        have hgoal : w'.cell? ⟨b, off + i, none⟩ = some (.string y) := by
          rw [← hyy, ← hw']
          by_cases hh : b = b' ∧ off + i = o'
          · rw [if_pos hh]
            obtain ⟨rfl, rfl⟩ := hh
            exact World.cell?_setCell_same _ _ _ hold
          · rw [if_neg hh]
            exact (World.cell?_setCell_other _ _ _ _ (fun e => hh (by injection e with h1 h2; exact ⟨h1.symm, h2.symm⟩))).trans hold
        simpa [kStr] using hgoal
      · obtain ⟨i, hi⟩ := List.getElem?_of_mem hy
        rw [List.getElem?_mapIdx] at hi
        obtain ⟨y0, h1, h2⟩ := Option.map_eq_some_iff.1 hi
        split at h2
        · exact .inr h2.symm
        · exact .inl (by rw [← h2]; exact List.mem_of_getElem? h1)
    · have hx0 : x = [] := List.eq_nil_of_length_eq_zero (by omega)
      subst hx0
      refine ⟨[], fun vs hvs' => ?_, rfl, fun y hy => by simp at hy⟩
      rw [hv] at hvs'
      obtain rfl := Option.some.inj hvs'
      exact ⟨F, cF, hvs, hc, fun h0 => absurd h0 (Nat.lt_irrefl 0)⟩
  obtain ⟨xs', l1, l2⟩ := list_choice xs hrow
  rw [hw']
  refine ⟨xs', ⟨vss, by omega, ?_, fun j x' vs hx' hvs => ?_⟩, l1, fun j x' hx' => ?_⟩
  · have hg : w.grownBy w' (some b') := by rw [← hw']; exact only_setCell (World.grownBy.refl _ _) (Or.inl rfl) _
    have := e2.kept hg (by
      rcases e2.2 with ⟨rfl, _⟩ | ⟨g, cap, cur, rfl, _, hgg, _⟩
      · exact .inl rfl
      · refine .inr fun e => hts ?_
        have : g = b' := by simpa [Value.ownBlock] using e
        subst this
        rw [hgg] at hb
        injection hb with h1
        injection h1)
    rw [l1]; exact this
  · have hjl := (List.getElem?_eq_some_iff.1 hx').1
    have hx : xs[j]? = some (xs[j]'(by omega)) := List.getElem?_eq_getElem (by omega)
    exact (l2 j _ x' hx hx').1 vs hvs
  · have hjl := (List.getElem?_eq_some_iff.1 hx').1
    have hx : xs[j]? = some (xs[j]'(by omega)) := List.getElem?_eq_getElem (by omega)
    exact ⟨_, hx, (l2 j _ x' hx hx').2⟩
end
section
variable {α : Type} {P : Program} {K : Kind α} {t2 t : TypeId} {ts : List TypeId} {B0 B bytes : Nat} {w w' : World} {v v' : Value} {l : List α}
/-- Several elements are appended. -/
theorem Own.append (es : List α) (ess : List (List Value)) (vss : List (List Value)) (e1 : vss.length = l.length) (e2 : w.ownsRow B t K.k v l.length vss.flatten)
    (e3 : ∀ (j : Nat) (x : α) (vs : List Value), l[j]? = some x → vss[j]? = some vs → K.rep (Ty ts B0 B w) w x vs) (he : ess.length = es.length) (hx : ∀ (j : Nat) (x : α) (vs : List Value), es[j]? = some x → ess[j]? = some vs → K.rep (Ty ts B0 B w) w x vs) (ht : t ∉ ts) (hB : B0 ≤ B) (hg : w.grownBy w' v.ownBlock)
    (hn : w'.ownsRow B t K.k v' (l.length + es.length) (vss.flatten ++ ess.flatten)) : Own K t ts B0 B w' v' (l ++ es) := by
  have hk : ∀ {a : α} {us : List Value}, K.rep (Ty ts B0 B w) w a us → K.rep (Ty ts B0 B w') w' a us := fun h => K.kept h fun b hs hlt => by
    have hb : w'.heap[b]? = w.heap[b]? := hg.block b hlt fun e => by
      rcases e2.2 with ⟨rfl, _⟩ | ⟨y, cap', cur', rfl, hy0, hy, _⟩
      · simp [Value.ownBlock] at e
      · have : b = y := by simpa [Value.ownBlock] using e
        subst this
        rcases hs with hs | ⟨_, cs, t', hc, ht'⟩
        · omega
        · rw [hy] at hc
          injection hc with h3
          injection h3 with _ h4
          rw [← h4] at ht'; exact ht ht'
    refine ⟨?_, Nat.lt_of_lt_of_le hlt hg.size, hb⟩
    rcases hs with hs | ⟨hs, cs, t', hc, ht'⟩
    · exact .inl hs
    · exact .inr ⟨hs, cs, t', hb.trans hc, ht'⟩
  refine ⟨vss ++ ess, by simp [e1, he], ?_, fun j y us hy hu => ?_⟩
  · rw [List.length_append, List.flatten_append]
    exact hn
  · by_cases hj : j < l.length
    · rw [List.getElem?_append_left hj] at hy
      rw [List.getElem?_append_left (by omega)] at hu
      exact hk (e3 j y us hy hu)
    · rw [List.getElem?_append_right (by omega)] at hy
      rw [List.getElem?_append_right (by omega), e1] at hu
      exact hk (hx _ y us hy hu)
theorem reps_len {S : Nat → Prop} : ∀ (es : List α) (ess : List (List Value)), ess.length = es.length → (∀ (j : Nat) (x : α) (vs : List Value), es[j]? = some x → ess[j]? = some vs → K.rep S w x vs) → ess.flatten.length = es.length * K.k ∧ ∀ u ∈ ess.flatten, u.oneCell' = true
  | [], [], _, _ => by simp
  | [], _ :: _, h, _ => by simp at h
  | _ :: _, [], h, _ => by simp at h
  | x :: es, vs :: ess, h, hx => by
    obtain ⟨h1, h2⟩ := reps_len es ess (by simpa using h) (fun j x vs hj hv => hx (j + 1) x vs (by simpa using hj) (by simpa using hv))
    have h0 := hx 0 x vs rfl rfl
    refine ⟨?_, fun u hu => ?_⟩
    · rw [List.flatten_cons, List.length_append, h1, K.len h0, List.length_cons, Nat.add_mul]; omega
    · rw [List.flatten_cons] at hu
      rcases List.mem_append.1 hu with hu | hu
      · exact K.one h0 u hu
      · exact h2 u hu
theorem wpList_own_many {ops : Array Oper} {rest : List Oper} {o : Oper} {a : Act} {Q : Exit → Act → World → Prop} (hgd : o.guard = none) (s x : Operand)
    (ho : o.op = .call { callee := .builtin .append, args := #[s, x], argTypes := #[t2, t2] }) (hA : Apd P t2 t K.k bytes) (hk0 : 0 < K.k) (hs : a.eval s = v) (h : Own K t ts B0 B w v l)
    (es : List α) (ess : List (List Value)) (he : ess.length = es.length) (hl : l.length + es.length ≤ 4000000000) (hby : bytes ≤ 1000) (ad : Addr) (m c : Nat) (hm : m = es.length) (hx : a.eval x = .slice (some ad) m c)
    (hrep : ∀ (j : Nat) (x : α) (vs : List Value), es[j]? = some x → ess[j]? = some vs → K.rep (Ty ts B0 B w) w x vs) (hnews : ∀ j u, ess.flatten[j]? = some u → w.cell? (ad.add j) = some u)
    (ht : t ∉ ts) (hB0 : B0 ≤ B) (hB : B ≤ w.heap.size)
    (hk : ∀ v' w', Own K t ts B0 B w' v' (l ++ es) → w.grownBy w' v.ownBlock → wpList P ops Q rest (a.put o.dst v') w') : wpList P ops Q (o :: rest) a w := by
  subst hm
  obtain ⟨i, z, hi, hz, h1, h2, h3⟩ := hA.i
  obtain ⟨vss, e1, e2, e3⟩ := h
  obtain ⟨r1, r2⟩ := reps_len es ess he hrep
  refine wpList_append_own w hgd s x t2 ho B t i z K.k bytes hA.u hi hz h1 h2 h3 hk0 v l.length vss.flatten hs e2 ad es.length c ess.flatten hx r1 hnews r2 (by unfold maxLen; omega) ?_ hB fun v' w' hn hg _ => hk v' w' (Own.append es ess vss e1 e2 e3 he hrep ht hB0 hg hn) hg
  exact Nat.le_trans (Nat.mul_le_mul hl hby) (by decide)
/-- An element is appended; where the row lies then. -/
theorem wpList_own2 {ops : Array Oper} {rest : List Oper} {o : Oper} {a : Act} {Q : Exit → Act → World → Prop} (hgd : o.guard = none) (s x : Operand)
    (ho : o.op = .call { callee := .builtin .append, args := #[s, x], argTypes := #[t2, t2] }) (hA : Apd P t2 t K.k bytes) (hk0 : 0 < K.k) (hs : a.eval s = v) (h : Own K t ts B0 B w v l)
    (hl : l.length ≤ 4000000000) (hby : bytes ≤ 1000) (ad : Addr) (c : Nat) (hx : a.eval x = .slice (some ad) 1 c) (e : α) (vs : List Value) (hrep : K.rep (Ty ts B0 B w) w e vs) (hnews : ∀ j u, vs[j]? = some u → w.cell? (ad.add j) = some u)
    (ht : t ∉ ts) (hB0 : B0 ≤ B) (hB : B ≤ w.heap.size)
    (hk : ∀ g cap w', Own K t ts B0 B w' (.slice (some ⟨g, 0, none⟩) (l.length + 1) cap) (l ++ [e]) → w.grownBy w' v.ownBlock → (v.ownBlock = some g ∨ g = w.heap.size) → wpList P ops Q rest (a.put o.dst (.slice (some ⟨g, 0, none⟩) (l.length + 1) cap)) w') : wpList P ops Q (o :: rest) a w := by
  obtain ⟨i, z, hi, hz, h1, h2, h3⟩ := hA.i
  obtain ⟨vss, e1, e2, e3⟩ := h
  refine wpList_append_lies w hgd s x t2 ho B t i z K.k bytes hA.u hi hz h1 h2 h3 hk0 v l.length vss.flatten hs e2 ad 1 c vs hx (by rw [K.len hrep]; omega) hnews (K.one hrep) (by omega) (by unfold maxLen; omega) ?_ hB w.heap.size rfl fun g cap w' hn hg hl' _ => hk g cap w' (Own.snoc vss e1 e2 e3 hrep ht hB0 hg hn) hg hl'
  exact Nat.le_trans (Nat.mul_le_mul (Nat.succ_le_succ hl) hby) (by decide)
/-- The cells of data, one behind the other. -/
theorem At.rows {S : Nat → Prop} {A : Option Addr} (h : At K S w A l) (hn : 0 < l.length) : ∃ (b off : Nat) (vss : List (List Value)), A = some ⟨b, off, none⟩ ∧ b < w.heap.size ∧ vss.length = l.length ∧ (∀ (j : Nat) (x : α) (vs : List Value), l[j]? = some x → vss[j]? = some vs → K.rep S w x vs) ∧ ∀ i u, vss.flatten[i]? = some u → w.cell? ⟨b, off + i, none⟩ = some u := by
  obtain ⟨b, off, e, -, hlt, hc⟩ := h hn
  obtain ⟨vss, h1, h2⟩ := list_choice (R := fun j x vs => K.rep S w x vs ∧ ∀ i u, vs[i]? = some u → w.cell? ⟨b, off + j * K.k + i, none⟩ = some u) l hc
  refine ⟨b, off, vss, e, hlt, h1, fun j x vs hj hv => (h2 j x vs hj hv).1, ?_⟩
  have key : ∀ (vss : List (List Value)) (q : Nat), (∀ j vs, vss[j]? = some vs → vs.length = K.k ∧ ∀ i u, vs[i]? = some u → w.cell? ⟨b, off + (q + j) * K.k + i, none⟩ = some u) → ∀ i u, vss.flatten[i]? = some u → w.cell? ⟨b, off + q * K.k + i, none⟩ = some u := by
    intro vss
    induction vss with
    | nil => intro q _ i u hu; simp at hu
    | cons vs vss ih =>
      intro q hall i u hu
      obtain ⟨k1, k2⟩ := hall 0 vs rfl
      rw [List.flatten_cons] at hu
      by_cases hi : i < vs.length
      · rw [List.getElem?_append_left hi] at hu
        have := k2 i u hu
        simpa using this
      · rw [List.getElem?_append_right (by omega)] at hu
        have := ih (q + 1) (fun j vs hj => by
          have := hall (j + 1) vs (by simpa using hj)
          rw [show q + (j + 1) = q + 1 + j from by omega] at this
          exact this) (i - vs.length) u hu
        rw [show off + (q + 1) * K.k + (i - vs.length) = off + q * K.k + i from by rw [k1, Nat.add_mul]; omega] at this
        exact this
  have := key vss 0 (fun j vs hj => by
    have hjl := (List.getElem?_eq_some_iff.1 hj).1
    have hx : l[j]? = some (l[j]'(by omega)) := List.getElem?_eq_getElem (by omega)
    obtain ⟨a1, a2⟩ := h2 j _ vs hx hj
    refine ⟨K.len a1, fun i u hu => ?_⟩
    rw [Nat.zero_add]; exact a2 i u hu)
  intro i u hu
  have h3 := this i u hu
  simpa using h3
/-- A row that was just laid. -/
theorem Own.lit {g : Nat} {cs : Array Value} (h : w.heap[g]? = some (.cells cs t (0, 0))) (es : List α) (ess : List (List Value)) (he : ess.length = es.length) (hc : cs.toList = ess.flatten) (hl : es.length ≤ 1000000)
    (hx : ∀ (j : Nat) (x : α) (vs : List Value), es[j]? = some x → ess[j]? = some vs → K.rep (Ty ts B0 B w) w x vs) (hB : B ≤ g) : Own K t ts B0 B w (.slice (some ⟨g, 0, none⟩) es.length es.length) es := by
  obtain ⟨r1, -⟩ := reps_len es ess he hx
  have hcs : cs.size = es.length * K.k := by rw [← Array.length_toList, hc, r1]
  refine ⟨ess, he, ⟨r1, .inr ⟨g, es.length, cs, rfl, hB, h, Nat.le_refl _, by unfold maxLen; omega, hcs, ?_⟩⟩, hx⟩
  rw [List.take_of_length_le (by rw [Array.length_toList]; omega)]; exact hc
theorem flatten_set {k : Nat} : ∀ (vss : List (List Value)), (∀ vs ∈ vss, vs.length = k) → ∀ (j i : Nat) (vs : List Value) (u : Value), vss[j]? = some vs → i < k → vss.flatten.set (j * k + i) u = (vss.set j (vs.set i u)).flatten
  | [], _, j, i, vs, u, h, _ => by simp at h
  | us :: vss, hk, 0, i, vs, u, h, hi => by
    have h1 := hk us (by simp)
    simp at h
    subst h
    simp only [List.flatten_cons, Nat.zero_mul, Nat.zero_add, List.set_cons_zero]
    exact List.set_append_left _ _ (by omega)
  | us :: vss, hk, j + 1, i, vs, u, h, hi => by
    have h1 := hk us (by simp)
    simp only [List.getElem?_cons_succ] at h
    have ih := flatten_set vss (fun vs hv => hk vs (by simp [hv])) j i vs u h hi
    rw [List.flatten_cons, List.set_append_right _ _ (by rw [h1, Nat.add_mul]; omega), show (j + 1) * k + i - us.length = j * k + i from by rw [h1, Nat.add_mul]; omega, ih]
    simp
/-- A cell of element k is written. -/
theorem Own.set {g n c k i : Nat} {x x' : α} {u : Value} (h : Own K t ts B0 B w (.slice (some ⟨g, 0, none⟩) n c) l) (hk : l[k]? = some x) (hi : i < K.k) (ht : t ∉ ts) (hB : B0 ≤ B)
    (hr : ∀ vs, K.rep (Ty ts B0 B w) w x vs → K.rep (Ty ts B0 B w) w x' (vs.set i u)) :
    Own K t ts B0 B (w.setCell ⟨g, k * K.k + i, none⟩ u) (.slice (some ⟨g, 0, none⟩) n c) (l.set k x') ∧ w.grownBy (w.setCell ⟨g, k * K.k + i, none⟩ u) (some g) := by
  obtain ⟨vss, e1, e2, e3⟩ := h
  have hkl := (List.getElem?_eq_some_iff.1 hk).1
  have hv : vss[k]? = some (vss[k]'(by omega)) := List.getElem?_eq_getElem (by omega)
  have hall : ∀ vs ∈ vss, vs.length = K.k := by
    intro vs hvm
    obtain ⟨j, hj⟩ := List.getElem?_of_mem hvm
    have hjl := (List.getElem?_eq_some_iff.1 hj).1
    exact K.len (e3 j _ vs (List.getElem?_eq_getElem (by omega)) hj)
  have hn : n = l.length := by
    rcases e2.2 with ⟨h1, _⟩ | ⟨g', cap, cur, h1, _⟩
    · simp at h1
    · injection h1
  subst hn
  obtain ⟨s1, s2⟩ := e2.stored (k * K.k + i) u
  obtain ⟨g', cap, cur, hgB, hgg⟩ : ∃ g' cap, ∃ cur : Array Value, B ≤ g ∧ w.heap[g]? = some (.cells cur t (0, 0)) := by
    rcases e2.2 with ⟨h1, _⟩ | ⟨g', cap, cur, h1, hB', hg', _⟩
    · simp at h1
    · injection h1 with h2 h3 h4
      injection h2 with h2
      injection h2 with h2
      subst h2
      exact ⟨g, cap, cur, hB', hg'⟩
  have hkk : ∀ {a : α} {us : List Value}, K.rep (Ty ts B0 B w) w a us → K.rep (Ty ts B0 B (w.setCell ⟨g, k * K.k + i, none⟩ u)) (w.setCell ⟨g, k * K.k + i, none⟩ u) a us := fun h => K.kept h fun b hs hlt => by
    have hb : (w.setCell ⟨g, k * K.k + i, none⟩ u).heap[b]? = w.heap[b]? := s2.block b hlt fun e => by
      injection e with e
      subst e
      rcases hs with hs | ⟨_, cs, t', hc, ht'⟩
      · omega
      · rw [hgg] at hc
        injection hc with h3
        injection h3 with _ h4
        rw [← h4] at ht'; exact ht ht'
    refine ⟨?_, Nat.lt_of_lt_of_le hlt s2.size, hb⟩
    rcases hs with hs | ⟨hs, cs, t', hc, ht'⟩
    · exact .inl hs
    · exact .inr ⟨hs, cs, t', hb.trans hc, ht'⟩
  refine ⟨⟨vss.set k ((vss[k]'(by omega)).set i u), by simp [e1], ?_, fun j y us hy hu => ?_⟩, s2⟩
  · rw [List.length_set, ← flatten_set vss hall k i _ u hv hi]
    exact s1
  · by_cases hj : k = j
    · subst hj
      rw [List.getElem?_set_self (by omega)] at hy
      rw [List.getElem?_set_self (by omega)] at hu
      obtain rfl := Option.some.inj hy
      obtain rfl := Option.some.inj hu
      exact hkk (hr _ (e3 k x _ hk hv))
    · rw [List.getElem?_set_ne hj] at hy hu
      exact hkk (e3 j y us hy hu)
end
theorem Own.any' {α : Type} {K : Kind α} {t : TypeId} {ts : List TypeId} {B0 B n c : Nat} {w : World} {A : Option Addr} {l : List α} (h : Own K t ts B0 B w (.slice A n c) l) : At K (· < w.heap.size) w A l := by
  obtain ⟨A', c', e, -, h2⟩ := h.any
  injection e with e
  subst e
  exact h2
end Go.Proofs.YtnbcaklnpflihaaGreatDoor

namespace Go.Proofs.YtnbcaklnpflihaaGreatDoor
open Go.RowKit
set_option maxRecDepth 100000

/-- The first index of a string, -1 if there is none. -/
def idxFrom (z : ByteArray) : List ByteArray → Int → Int
  | [], _ => -1
  | x :: r, i => if x.toList == z.toList then i else idxFrom z r (i + 1)
def idxS (z : ByteArray) (xs : List ByteArray) : Int := idxFrom z xs 0
theorem idxFrom_miss (z : ByteArray) : ∀ (l r : List ByteArray) (i : Int), (∀ x ∈ l, (x.toList == z.toList) = false) → idxFrom z (l ++ r) i = idxFrom z r (i + l.length)
  | [], r, i, _ => by simp
  | x :: l, r, i, h => by
    rw [List.cons_append, idxFrom, if_neg (by simp [h x (by simp)]), idxFrom_miss z l r (i + 1) (fun y hy => h y (by simp [hy]))]
    congr 1
    simp only [List.length_cons]
    omega
theorem idxS_hit {z x : ByteArray} {xs : List ByteArray} {j : Nat} (hx : xs[j]? = some x) (h0 : ∀ y ∈ xs.take j, (y.toList == z.toList) = false) (h : (x.toList == z.toList) = true) : idxS z xs = j := by
  have hjl := (List.getElem?_eq_some_iff.1 hx).1
  have he : xs = xs.take j ++ x :: xs.drop (j + 1) := by
    conv => lhs; rw [← List.take_append_drop j xs]
    rw [List.drop_eq_getElem_cons hjl]
    congr 2
    have := List.getElem?_eq_getElem hjl
    rw [hx] at this
    exact (Option.some.inj this).symm
  unfold idxS
  rw [he, idxFrom_miss z _ _ _ h0, idxFrom, if_pos h, List.length_take]
  omega
theorem idxS_none {z : ByteArray} {xs : List ByteArray} (h0 : ∀ y ∈ xs, (y.toList == z.toList) = false) : idxS z xs = -1 := by
  have := idxFrom_miss z xs [] 0 h0
  rw [List.append_nil] at this
  exact this
theorem take_miss {z x : ByteArray} {xs : List ByteArray} {j : Nat} (hx : xs[j]? = some x) (h0 : ∀ y ∈ xs.take j, (y.toList == z.toList) = false) (h : (x.toList == z.toList) = false) : ∀ y ∈ xs.take (j + 1), (y.toList == z.toList) = false := by
  intro y hy
  rw [List.take_add_one, hx] at hy
  rcases List.mem_append.1 hy with h1 | h1
  · exact h0 y h1
  · simp at h1; subst h1; exact h
-- <index>
set_option maxHeartbeats 2000000 in
theorem sindex_walk (A : Option Addr) (xs : List ByteArray) (c : Nat) (z : ByteArray) (w : World) (hn : xs.length ≤ 9223372036854775807) (h : At kStr AnyB w A xs) :
    Calls Tryz.prog 125 #[.slice A xs.length c, .string z] w fun e w' => e = .returned (.int .i64 (idxS z xs)) ∧ w = w' := by
  obtain ⟨n, hnn⟩ : ∃ n, xs.length = n := ⟨_, rfl⟩
  rw [hnn] at hn ⊢
  replace hnn := hide hnn
  go_enter Tryz.func125, Tryz.ntmps125
  go_wp2
  go_loop [5, 8] (fun _ i => ∃ j : Nat, j ≤ n ∧ i = .int .i64 j ∧ Hid (∀ y ∈ xs.take j, (y.toList == z.toList) = false)) (fun _ i => n - (intOf i).toNat)
  case atStart => exact ⟨0, Nat.zero_le _, rfl, hide (fun y hy => by simp at hy)⟩
  case round =>
    obtain ⟨j, hj, rfl, ho⟩ := hrel
    by_cases hlt : j < n
    · obtain ⟨x, hx⟩ : ∃ x, xs[j]? = some x := ⟨_, List.getElem?_eq_getElem (by rw [hnn.out]; exact hlt)⟩
      obtain ⟨b, off, rfl, -, hb, k0⟩ := h.str hx
      have hj0 : (0 : Int) ≤ (j : Int) := by omega
      have hj1 : (j : Int) < (n : Int) := by omega
      cases hq : (x.toList == z.toList) with
      | true =>
        have hq' : (z.toList == x.toList) = true := by rw [beq_iff_eq] at hq ⊢; exact hq.symm
        have hit := hide (idxS_hit hx ho.out hq)
        clear hx h ho
        go_wp2
        go_ret
        exact ⟨by rw [hit.out]; rfl, rfl⟩
      | false =>
        have hq' : (z.toList == x.toList) = false := by rw [beq_eq_false_iff_ne] at hq ⊢; exact fun e => hq e.symm
        have miss := hide (take_miss hx ho.out hq)
        clear hx h ho
        go_wp2
        go_round
        case rel => exact ⟨j + 1, by omega, by go_num, miss⟩
        case measure => simp [intOf]; omega
    · obtain rfl : j = n := by omega
      have hall : Hid (idxS z xs = -1) := hide (idxS_none fun y hy => ho.out y (by rw [← hnn.out, List.take_length]; exact hy))
      go_wp2
      go_ret
      exact ⟨by rw [hall.out]; rfl, rfl⟩
-- </index>
theorem scontains_walk (A : Option Addr) (xs : List ByteArray) (c : Nat) (z : ByteArray) (w : World) (hn : xs.length ≤ 9223372036854775807) (h : At kStr AnyB w A xs) :
    Calls Tryz.prog 89 #[.slice A xs.length c, .string z] w fun e w' => e = .returned (.bool (decide (0 ≤ idxS z xs))) ∧ w = w' := by
  go_enter Tryz.func89, Tryz.ntmps89
  go_wp2_with fail
  refine (sindex_walk A xs c z w hn h).mono ?_
  rintro e w' ⟨rfl, rfl⟩
  go_wp2
  go_ret
  exact ⟨rfl, rfl⟩
end Go.Proofs.YtnbcaklnpflihaaGreatDoor

namespace Go.Proofs.YtnbcaklnpflihaaGreatDoor
open Go.RowKit
set_option maxRecDepth 100000

structure RG (α : Type) where
  ls : List α
  lines : List Int
  ps : List Prob
/-- One record: n fields, its problem behind others, what it says. -/
def gathStep {α : Type} (n : Nat) (P : Int → List Fld → List α → Option Prob) (f : List Fld → α) (s : RG α) (r : Rec) : RG α :=
  if r.2.length = n then (match P r.1 r.2 s.ls with | some p => ⟨s.ls, s.lines, s.ps ++ [p]⟩ | none => ⟨s.ls ++ [f r.2], s.lines ++ [r.1], s.ps⟩) else ⟨s.ls, s.lines, s.ps ++ [(r.1, 0, 9)]⟩
def readAll {α : Type} (n : Nat) (P : Int → List Fld → List α → Option Prob) (f : List Fld → α) (rs : List Rec) : RG α := rs.foldl (gathStep n P f) ⟨[], [], []⟩
section
variable {α : Type} {n : Nat} {P : Int → List Fld → List α → Option Prob} {f : List Fld → α}
theorem readAll_take (rs : List Rec) (j : Nat) (r : Rec) (h : rs[j]? = some r) : readAll n P f (rs.take (j + 1)) = gathStep n P f (readAll n P f (rs.take j)) r := by
  rw [List.take_add_one, h]
  unfold readAll
  simp [List.foldl_append]
theorem gathStep_len {M : Nat} (hM : ∀ line fs ls, P line fs ls = none → ls.length < M) {s : RG α} (h1 : s.ls.length ≤ M) (h2 : s.lines.length = s.ls.length) (r : Rec) :
    (gathStep n P f s r).ls.length ≤ M ∧ (gathStep n P f s r).lines.length = (gathStep n P f s r).ls.length ∧ (gathStep n P f s r).ps.length ≤ s.ps.length + 1 := by
  unfold gathStep
  split
  · split
    · exact ⟨h1, h2, by simp⟩
    · rename_i hp
      have := hM _ _ _ hp
      exact ⟨by simp; omega, by simp [h2], by simp⟩
  · exact ⟨h1, h2, by simp⟩
theorem readAll_len {M : Nat} (hM : ∀ line fs ls, P line fs ls = none → ls.length < M) : ∀ (rs : List Rec), (readAll n P f rs).ls.length ≤ M ∧ (readAll n P f rs).lines.length = (readAll n P f rs).ls.length ∧ (readAll n P f rs).ps.length ≤ rs.length := by
  have key : ∀ (rs : List Rec) (s : RG α), s.ls.length ≤ M → s.lines.length = s.ls.length → (rs.foldl (gathStep n P f) s).ls.length ≤ M ∧ (rs.foldl (gathStep n P f) s).lines.length = (rs.foldl (gathStep n P f) s).ls.length ∧ (rs.foldl (gathStep n P f) s).ps.length ≤ s.ps.length + rs.length := by
    intro rs
    induction rs with
    | nil => intro s h1 h2; exact ⟨h1, h2, by simp⟩
    | cons r rs ih =>
      intro s h1 h2
      obtain ⟨a, b, c⟩ := gathStep_len (n := n) (f := f) hM h1 h2 r
      obtain ⟨x, y, z⟩ := ih _ a b
      exact ⟨x, y, by simp only [List.foldl_cons, List.length_cons]; omega⟩
  intro rs
  obtain ⟨a, b, c⟩ := key rs ⟨[], [], []⟩ (by simp) rfl
  exact ⟨a, b, by simpa [readAll] using c⟩
end
/-- The types of what is gathered are apart from those of the scanner, the problems and the numbers. -/
structure TyApart (t : TypeId) (ts : List TypeId) : Prop where
  s1 : t ≠ 108
  s2 : 108 ∉ ts
  p1 : t ≠ 56
  p2 : 56 ∉ ts
  i1 : t ≠ 3
  i2 : 3 ∉ ts
  own : t ∉ ts
theorem apd_intsG : Apd Tryz.prog 51 3 1 8 := apd Tryz.underlying51 (z := .int .i64 0) (by kernel_rfl) rfl
/-- What is gathered. -/
structure GG {α : Type} (K : Kind α) (t : TypeId) (ts : List TypeId) (w0 : World) (u6 u7 u8 : Value) (ls : List α) (lines : List Int) (ps : List Prob) (W : World) : Prop where
  ls : Own K t ts 0 w0.heap.size W u6 ls
  ins : Own kInt 3 [] 0 w0.heap.size W u7 lines
  ps : ProbsOwn w0.heap.size W u8 ps
  below : Below w0.heap.size w0 W
section
variable {α : Type} {K : Kind α} {t : TypeId} {ts : List TypeId} {w0 W W' : World} {u6 u7 u8 : Value} {ls : List α} {lines : List Int} {ps : List Prob}
theorem GG.later (h : GG K t ts w0 u6 u7 u8 ls lines ps W) (hb : Below W.heap.size W W') : GG K t ts w0 u6 u7 u8 ls lines ps W' :=
  ⟨h.ls.later hb, h.ins.later hb, owns_later h.ps hb, ext_trans h.below hb⟩
theorem GG.alloc (h : GG K t ts w0 u6 u7 u8 ls lines ps W) (o : Obj) : GG K t ts w0 u6 u7 u8 ls lines ps (W.alloc o) := h.later (ext_alloc (Below.refl _ _) _)
theorem GG.drew (h : GG K t ts w0 u6 u7 u8 ls lines ps W) : GG K t ts w0 u6 u7 u8 ls lines ps W.drew := h.later (ext_drew (Below.refl _ _))
theorem GG.scan {g : Nat} {line : Int} {F : Option Addr} {m c j : Nat} {pr : Option Prob} (h : GG K t ts w0 u6 u7 u8 ls lines ps W) (hT : TyApart t ts) (hs : Scan W g line F m c j pr) (ho : Only g W W') (hg : w0.heap.size ≤ g) : GG K t ts w0 u6 u7 u8 ls lines ps W' := by
  have hs' := hs
  obtain ⟨v, hgb, -⟩ := hs'
  exact ⟨h.ls.only ho hgb (Nat.zero_le _) hT.s1 hT.s2, h.ins.only ho hgb (Nat.zero_le _) (by decide) (by decide), owns_scan h.ps hs (by decide) ho, h.below.trans (Only.below ho hg h.below.size)⟩
theorem GG.prob {v' : Value} {p : Prob} (h : GG K t ts w0 u6 u7 u8 ls lines ps W) (hT : TyApart t ts) (hg : W.grownBy W' u8.ownBlock) (hn : W'.ownsRow w0.heap.size 56 4 v' (ps.length + 1) (ps.flatMap encP ++ encP p)) : GG K t ts w0 u6 u7 v' ls lines (ps ++ [p]) W' :=
  ⟨h.ls.grown h.ps (Nat.zero_le _) hg hT.p1 hT.p2, h.ins.grown h.ps (Nat.zero_le _) hg (by decide) (by decide), by unfold ProbsOwn; rw [List.length_append, flatP_snoc]; exact hn, Below.grown h.below hg h.below.size (fun j hj => (h.ps.lt j hj).1)⟩
theorem stepg_ls {ops : Array Oper} {o : Oper} {a : Act} {K' : Act → World → Prop} {Q : Exit → Act → World → Prop} {E : Prop} {S : World → Prop} {t2 : TypeId} {bytes : Nat} (hT : TyApart t ts) (hA : Apd Tryz.prog t2 t K.k bytes) (hk0 : 0 < K.k) (hby : bytes ≤ 1000) (hgd : o.guard = none) (s x : Operand)
    (ho : o.op = .call { callee := .builtin .append, args := #[s, x], argTypes := #[t2, t2] }) (hs : a.eval s = u6) (h : GG K t ts w0 u6 u7 u8 ls lines ps W) (hl : ls.length ≤ 100000)
    (ad : Addr) (c : Nat) (hx : a.eval x = .slice (some ad) 1 c) (e : α) (vs : List Value) (hrep : K.rep (Ty ts 0 w0.heap.size W) W e vs) (hnews : ∀ j u, vs[j]? = some u → W.cell? (ad.add j) = some u) (hS : ∀ w', W.grownBy w' u6.ownBlock → S w')
    (hk : ∀ g cap w', GG K t ts w0 (.slice (some ⟨g, 0, none⟩) (ls.length + 1) cap) u7 u8 (ls ++ [e]) lines ps w' → W.grownBy w' u6.ownBlock → S w' → K' (a.put o.dst (.slice (some ⟨g, 0, none⟩) (ls.length + 1) cap)) w') :
    if Region.wanted o (yielded ops a.tmps) = true then Oper.wp Tryz.prog o a W K' Q else E := by
  refine step_own (S := S) hgd s x ho hA hk0 hs h.ls (by omega) hby ad c hx e vs hrep hnews hT.own (Nat.zero_le _) h.below.size hS fun g cap w' hn hg hs => hk g cap w' ?_ hg hs
  obtain ⟨vss, e1, e2, e3⟩ := h.ls
  exact ⟨hn, h.ins.grown e2 (Nat.zero_le _) hg (fun e => hT.i1 e.symm) (by simp), World.ownsRow.kept h.ps hg (own_ne h.ps e2 (fun e => hT.p1 e.symm)), Below.grown h.below hg h.below.size (fun j hj => (e2.lt j hj).1)⟩
theorem stepg_ins {ops : Array Oper} {o : Oper} {a : Act} {K' : Act → World → Prop} {Q : Exit → Act → World → Prop} {E : Prop} {S : World → Prop} (hT : TyApart t ts) (hgd : o.guard = none) (s x : Operand)
    (ho : o.op = .call { callee := .builtin .append, args := #[s, x], argTypes := #[51, 51] }) (hs : a.eval s = u7) (h : GG K t ts w0 u6 u7 u8 ls lines ps W) (hl : lines.length ≤ 100000)
    (ad : Addr) (c : Nat) (hx : a.eval x = .slice (some ad) 1 c) (e : Int) (hnews : ∀ j u, [Value.int .i64 e][j]? = some u → W.cell? (ad.add j) = some u) (hS : ∀ w', W.grownBy w' u7.ownBlock → S w')
    (hk : ∀ g cap w', GG K t ts w0 u6 (.slice (some ⟨g, 0, none⟩) (lines.length + 1) cap) u8 ls (lines ++ [e]) ps w' → W.grownBy w' u7.ownBlock → S w' → K' (a.put o.dst (.slice (some ⟨g, 0, none⟩) (lines.length + 1) cap)) w') :
    if Region.wanted o (yielded ops a.tmps) = true then Oper.wp Tryz.prog o a W K' Q else E := by
  refine step_own (S := S) hgd s x ho apd_intsG (by decide) hs h.ins (by omega) (by decide) ad c hx e [.int .i64 e] rfl hnews (by decide) (Nat.zero_le _) h.below.size hS fun g cap w' hn hg hs => hk g cap w' ?_ hg hs
  obtain ⟨vss, e1, e2, e3⟩ := h.ins
  exact ⟨h.ls.grown e2 (Nat.zero_le _) hg hT.i1 hT.i2, hn, World.ownsRow.kept h.ps hg (own_ne h.ps e2 (by decide)), Below.grown h.below hg h.below.size (fun j hj => (e2.lt j hj).1)⟩
theorem wpg_ls {ops : Array Oper} {rest : List Oper} {o : Oper} {a : Act} {Q : Exit → Act → World → Prop} {t2 : TypeId} {bytes : Nat} (hT : TyApart t ts) (hA : Apd Tryz.prog t2 t K.k bytes) (hk0 : 0 < K.k) (hby : bytes ≤ 1000) (hgd : o.guard = none) (s x : Operand)
    (ho : o.op = .call { callee := .builtin .append, args := #[s, x], argTypes := #[t2, t2] }) (hs : a.eval s = u6) (h : GG K t ts w0 u6 u7 u8 ls lines ps W) (hl : ls.length ≤ 100000)
    (ad : Addr) (c : Nat) (hx : a.eval x = .slice (some ad) 1 c) (e : α) (vs : List Value) (hrep : K.rep (Ty ts 0 w0.heap.size W) W e vs) (hnews : ∀ j u, vs[j]? = some u → W.cell? (ad.add j) = some u)
    (hk : ∀ v' w', GG K t ts w0 v' u7 u8 (ls ++ [e]) lines ps w' → wpList Tryz.prog ops Q rest (a.put o.dst v') w') : wpList Tryz.prog ops Q (o :: rest) a W := by
  refine wpList_own hgd s x ho hA hk0 hs h.ls (by omega) hby ad c hx e vs hrep hnews hT.own (Nat.zero_le _) h.below.size fun v' w' hn hg => hk v' w' ?_
  obtain ⟨vss, e1, e2, e3⟩ := h.ls
  exact ⟨hn, h.ins.grown e2 (Nat.zero_le _) hg (fun e => hT.i1 e.symm) (by simp), World.ownsRow.kept h.ps hg (own_ne h.ps e2 (fun e => hT.p1 e.symm)), Below.grown h.below hg h.below.size (fun j hj => (e2.lt j hj).1)⟩
theorem wpg_ins {ops : Array Oper} {rest : List Oper} {o : Oper} {a : Act} {Q : Exit → Act → World → Prop} (hT : TyApart t ts) (hgd : o.guard = none) (s x : Operand)
    (ho : o.op = .call { callee := .builtin .append, args := #[s, x], argTypes := #[51, 51] }) (hs : a.eval s = u7) (h : GG K t ts w0 u6 u7 u8 ls lines ps W) (hl : lines.length ≤ 100000)
    (ad : Addr) (c : Nat) (hx : a.eval x = .slice (some ad) 1 c) (e : Int) (hnews : ∀ j u, [Value.int .i64 e][j]? = some u → W.cell? (ad.add j) = some u)
    (hk : ∀ v' w', GG K t ts w0 u6 v' u8 ls (lines ++ [e]) ps w' → wpList Tryz.prog ops Q rest (a.put o.dst v') w') : wpList Tryz.prog ops Q (o :: rest) a W := by
  refine wpList_own hgd s x ho apd_intsG (by decide) hs h.ins (by omega) (by decide) ad c hx e [.int .i64 e] rfl hnews (by decide) (Nat.zero_le _) h.below.size fun v' w' hn hg => hk v' w' ?_
  obtain ⟨vss, e1, e2, e3⟩ := h.ins
  exact ⟨h.ls.grown e2 (Nat.zero_le _) hg hT.i1 hT.i2, hn, World.ownsRow.kept h.ps hg (own_ne h.ps e2 (by decide)), Below.grown h.below hg h.below.size (fun j hj => (e2.lt j hj).1)⟩
end
end Go.Proofs.YtnbcaklnpflihaaGreatDoor
