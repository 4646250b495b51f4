/- The text of times (plain), and what it is read as. No walk. Walks of fields.Times and timetableref07.WriteTimes: the text of times. Conditions: the cells; at most 1000 times; what the program's variables hold. -/
import Derived.Test.YtnbcaklnpflihaaGreatDoorKTgK
import Derived.Test.YtnbcaklnpflihaaGreatDoorKStaffB
import Derived.Test.YtnbcaklnpflihaaGreatDoorKValB
import Derived.Test.YtnbcaklnpflihaaGreatDoorKSameL
import Derived.Test.YtnbcaklnpflihaaGreatDoorKTgN
import Derived.Deep.RegionHeld3
import Derived.Deep.DeepCutAuto
namespace Go.Proofs.YtnbcaklnpflihaaGreatDoor
set_option maxRecDepth 100000

/-- The text of a time, where it fits; the text of times. -/
def fmtB (d sl b m n : Int) (t : T4) : List UInt8 := (fmtT d sl b m n t.1 t.2.1 t.2.2.1 t.2.2.2).1
def timesL (d sl b m n : Int) (ts : List T4) : List UInt8 := Lib.join (ts.map (fmtB d sl b m n)) [59]
theorem fmtB_len (d sl b m n : Int) (t : T4) : (fmtB d sl b m n t).length ≤ 200 := by
  unfold fmtB fmtT
  by_cases h : fitsV d sl b m n t.1 t.2.1 t.2.2.1 t.2.2.2 = 0
  · rw [if_pos h]
    obtain ⟨-, hF⟩ := fits_parts h
    exact timeT_len (by have := hF.n2; omega)
  · rw [if_neg h]; exact Nat.zero_le _
theorem join_snoc59 (x : List UInt8) : ∀ (xs : List (List UInt8)), Lib.join (xs ++ [x]) [59] = if xs = [] then x else Lib.join xs [59] ++ 59 :: x
  | [] => by simp [Lib.join_one]
  | y :: r => by
    rw [if_neg (by simp), ← join_two (y :: r) [x] 59 (by simp) (by simp), Lib.join_one]
theorem lens59 (m : Nat) : ∀ (l : List (List UInt8)), (∀ x ∈ l, x.length ≤ m) → (Lib.join l [59]).length ≤ (m + 1) * l.length
  | [], _ => by simp [Lib.join_nil]
  | [x], h => by
    rw [Lib.join_one]
    have := h x (by simp)
    simp; omega
  | x :: y :: r, h => by
    have ih := lens59 m (y :: r) (fun z hz => h z (by simp [hz]))
    have h1 := h x (by simp)
    have : Lib.join (x :: y :: r) [59] = x ++ 59 :: Lib.join (y :: r) [59] := by simp [Lib.join, List.intercalate]
    rw [this]
    simp only [List.length_append, List.length_cons, Nat.mul_add] at ih ⊢
    omega
theorem timesL_len (d sl b m n : Int) (ts : List T4) : (timesL d sl b m n ts).length ≤ 201 * ts.length := by
  have := lens59 200 (ts.map (fmtB d sl b m n)) (fun x hx => by obtain ⟨t, -, rfl⟩ := List.mem_map.1 hx; exact fmtB_len d sl b m n t)
  rw [List.length_map] at this
  exact this
theorem timesL_snoc (d sl b m n : Int) (ts : List T4) (t : T4) : timesL d sl b m n (ts ++ [t]) = if ts = [] then fmtB d sl b m n t else timesL d sl b m n ts ++ 59 :: fmtB d sl b m n t := by
  unfold timesL
  rw [List.map_append, List.map_singleton, join_snoc59]
  by_cases h : ts = []
  · simp [h]
  · rw [if_neg (by simpa using h), if_neg h]
/-! What it is read as. -/
theorem dec2_no59 : ∀ k : Nat, k < 30 → 59 ∉ dec2 k := by decide +kernel
theorem dayB_no59 : ∀ k : Nat, k < 7 → 59 ∉ (dayB k).data.toList := by decide
theorem wordName_no59 : ∀ k : Nat, k < 5 → 59 ∉ wordName k := by decide
theorem runT_no59 {a b : Nat} (h2 : a < 30) (h4 : b < 30) : 59 ∉ runT (a, b) := by
  have ha := dec2_no59 a h2
  have hb := dec2_no59 b h4
  unfold runT
  split
  · exact ha
  · simp only [List.mem_append, List.mem_cons, not_or]
    exact ⟨ha, by decide, hb⟩
theorem formatL_no59 {s n : Nat} (hn : n ≤ 20) : 59 ∉ formatL s n := by
  unfold formatL
  refine join_notin 59 _ (by decide) (fun x hx => ?_)
  unfold itemsT at hx
  by_cases h : nameIdx s n < 5
  · rw [if_pos h] at hx
    obtain rfl := List.mem_singleton.1 hx
    exact wordName_no59 _ h
  · rw [if_neg h] at hx
    obtain ⟨⟨a, b⟩, hr, rfl⟩ := List.mem_map.1 hx
    have := (runs_facts s.testBit n _ 1 (Nat.le_refl _) (Nat.le_refl _)).1 _ hr
    dsimp only at this
    exact runT_no59 (by omega) (by omega)
theorem timeT_no59 {n a k p q : Nat} (hn : n ≤ 20) (hk : k < 7) (hpq : p + q ≤ 24) (hq : 1 ≤ q) : 59 ∉ timeT n a k p q := by
  have h1 := dayB_no59 k hk
  have h2 := dec2_no59 (p + 1) (by omega)
  have h3 := dec2_no59 (p + q) (by omega)
  have h4 := formatL_no59 (s := a) hn
  unfold timeT slotT
  split <;> split <;> simp only [List.mem_append, List.mem_cons, not_or, List.append_nil] <;> simp [h1, h2, h3, h4]
theorem timeT_ne (n a k p q : Nat) : timeT n a k p q ≠ [] := by unfold timeT; simp
theorem fmt_piece {d s b m n : Int} {t : T4} (h : fitsV d s b m n t.1 t.2.1 t.2.2.1 t.2.2.2 = 0) :
    59 ∉ fmtB d s b m n t ∧ fmtB d s b m n t ≠ [] ∧ pieceT d s b m n ⟨(fmtB d s b m n t).toArray⟩ = (t.1, t.2.1, t.2.2.1, t.2.2.2, 0) := by
  have hf : fmtB d s b m n t = timeT n.toNat t.1.toNat t.2.1.toNat t.2.2.1.toNat t.2.2.2.toNat := by unfold fmtB fmtT; rw [if_pos h]
  rw [hf]
  obtain ⟨hwk, hF⟩ := fits_parts h
  obtain ⟨x1, x2, x3, x4⟩ := t
  dsimp only at *
  obtain ⟨n1, n2, hv, w1, d1, d2, d3, s1, l1, s2, s3⟩ := hF
  obtain ⟨N, rfl⟩ := Int.eq_ofNat_of_zero_le (by omega : 0 ≤ n)
  obtain ⟨a, rfl⟩ := Int.eq_ofNat_of_zero_le (by omega : 0 ≤ x1)
  obtain ⟨k, rfl⟩ := Int.eq_ofNat_of_zero_le d1
  obtain ⟨p, rfl⟩ := Int.eq_ofNat_of_zero_le s1
  obtain ⟨q, rfl⟩ := Int.eq_ofNat_of_zero_le (by omega : 0 ≤ x4)
  simp only [Int.toNat_natCast]
  have ha := validB_iff.1 hv
  have haN : a < 2 ^ N := by
    have h3 := ha.2.2.2
    rw [Int.toNat_natCast] at h3
    exact_mod_cast h3
  exact ⟨timeT_no59 (by omega) (by omega) (by omega) (by omega), timeT_ne _ _ _ _ _, parse_time hwk (by omega) (by omega) (by omega) haN (by omega) d3 (by omega) (by omega) s3⟩
theorem join59_ne : ∀ (xs : List (List UInt8)), xs ≠ [] → (∀ x ∈ xs, x ≠ []) → Lib.join xs [59] ≠ []
  | [], h, _ => absurd rfl h
  | [x], _, h => by rw [Lib.join_one]; exact h x (by simp)
  | x :: y :: r, _, _ => by
    have : Lib.join (x :: y :: r) [59] = x ++ 59 :: Lib.join (y :: r) [59] := by simp [Lib.join, List.intercalate]
    rw [this]; simp
theorem parts_join (xs : List ByteArray) (h59 : ∀ x ∈ xs, 59 ∉ x.data.toList) (h0 : ∀ x ∈ xs, x.data.toList ≠ []) : partsOf ⟨(Lib.join (xs.map (·.data.toList)) [59]).toArray⟩ = xs := by
  by_cases hx : xs = []
  · subst hx; rfl
  · have hne : Lib.join (xs.map (·.data.toList)) [59] ≠ [] := join59_ne _ (by simpa using hx) (fun x hm => by obtain ⟨y, hy, rfl⟩ := List.mem_map.1 hm; exact h0 y hy)
    have hs : (⟨(Lib.join (xs.map (·.data.toList)) [59]).toArray⟩ : ByteArray).size ≠ 0 := by
      intro e
      exact hne (List.eq_nil_of_length_eq_zero (by simpa [ByteArray.size] using e))
    refine map_data_inj ?_
    unfold partsOf
    rw [if_neg hs, splitB_one]
    exact splitOn1_of_join 59 _ (by simpa using hx) (fun x hm => by obtain ⟨y, hy, rfl⟩ := List.mem_map.1 hm; exact h59 y hy)
theorem times_parts {d s b m n : Int} {ts : List T4} (h : ∀ t ∈ ts, fitsV d s b m n t.1 t.2.1 t.2.2.1 t.2.2.2 = 0) :
    partsOf ⟨(timesL d s b m n ts).toArray⟩ = ts.map fun t => ⟨(fmtB d s b m n t).toArray⟩ := by
  have := parts_join (ts.map fun t => ⟨(fmtB d s b m n t).toArray⟩) (fun x hx => by obtain ⟨t, ht, rfl⟩ := List.mem_map.1 hx; exact (fmt_piece (h t ht)).1) (fun x hx => by obtain ⟨t, ht, rfl⟩ := List.mem_map.1 hx; exact (fmt_piece (h t ht)).2.1)
  rw [List.map_map] at this
  exact this
theorem firstE_zero {f : ByteArray → Int} : ∀ {l : List ByteArray}, (∀ z ∈ l, f z = 0) → firstE f l = 0
  | [], _ => rfl
  | z :: r, h => by rw [firstE, if_pos (h z (by simp))]; exact firstE_zero fun y hy => h y (by simp [hy])
/-- Times that fit are read as they were written. -/
theorem times_back {d s b m n : Int} {ts : List T4} (h : ∀ t ∈ ts, fitsV d s b m n t.1 t.2.1 t.2.2.1 t.2.2.2 = 0) (hl : ts.length ≤ 24) :
    (partsOf ⟨(timesL d s b m n ts).toArray⟩).map (pieceV d s b m n) = ts ∧ timesE d s b m n (partsOf ⟨(timesL d s b m n ts).toArray⟩) = 0 := by
  rw [times_parts h]
  constructor
  · rw [List.map_map]
    refine (List.map_congr_left (g := id) fun t ht => ?_).trans (List.map_id ts)
    have := (fmt_piece (h t ht)).2.2
    show pieceV d s b m n ⟨(fmtB d s b m n t).toArray⟩ = t
    unfold pieceV
    rw [this]
  · have h0 : firstE (pieceE d s b m n) (ts.map fun t => ⟨(fmtB d s b m n t).toArray⟩) = 0 := firstE_zero fun z hz => by
      obtain ⟨t, ht, rfl⟩ := List.mem_map.1 hz
      unfold pieceE
      rw [(fmt_piece (h t ht)).2.2]
    unfold timesE
    rw [if_pos h0, List.length_map, if_neg (by omega)]
end Go.Proofs.YtnbcaklnpflihaaGreatDoor

namespace Go.Proofs.YtnbcaklnpflihaaGreatDoor
open Go.RowKit
set_option maxRecDepth 100000

theorem apd_strs : Apd Tryz.prog 44 9 1 16 := apd Tryz.underlying44 (z := .string ⟨#[]⟩) (by kernel_rfl) rfl
theorem strs_flat : ∀ (zs : List ByteArray) (vss : List (List Value)), vss.length = zs.length → (∀ (j : Nat) (x : ByteArray) (vs : List Value), zs[j]? = some x → vss[j]? = some vs → vs = [Value.string x]) → vss.flatten = zs.map Value.string
  | [], [], _, _ => rfl
  | [], _ :: _, h, _ => by simp at h
  | _ :: _, [], h, _ => by simp at h
  | z :: zs, vs :: vss, h, hk => by
    have h0 := hk 0 z vs rfl rfl
    subst h0
    have ih := strs_flat zs vss (by simpa using h) (fun j x us hx hu => hk (j + 1) x us (by simpa using hx) (by simpa using hu))
    simp [ih]
theorem strs_of_own {t : TypeId} {ts : List TypeId} {B0 B : Nat} {w : World} {v : Value} {zs : List ByteArray} (h : Own kStr t ts B0 B w v zs) : w.ownsRow B t 1 v zs.length (zs.map Value.string) := by
  obtain ⟨vss, e1, e2, e3⟩ := h
  rw [strs_flat zs vss e1 (fun j x vs hx hv => rep_str.1 (e3 j x vs hx hv))] at e2
  exact e2
theorem joinC_walk (c : UInt8) {ts : List TypeId} {B0 B : Nat} (w : World) (v : Value) (zs : List ByteArray) (h : Own kStr 9 ts B0 B w v zs) (hl : zs.length ≤ 1000000) (hj : (Lib.join (zs.map (·.data.toList)) [c]).length ≤ 1000000000) :
    Calls Tryz.prog 58 #[v, .string ⟨#[c]⟩] w fun e w' => e = .returned (.string ⟨(Lib.join (zs.map (·.data.toList)) [c]).toArray⟩) ∧ Below w.heap.size w w' := by
  obtain ⟨h1, h2⟩ := strs_of_own h
  rcases h2 with ⟨rfl, h0⟩ | ⟨g, cap, cur, rfl, hb, hg, hn, hm, hs, ht⟩
  · obtain rfl := List.eq_nil_of_length_eq_zero h0
    exact (Tryz.strings_Join_none none 0 _ w).mono fun e w' ⟨he, hw⟩ => ⟨he, by rw [hw]; exact Below.refl _ _⟩
  · exact Tryz.strings_Join g 0 cap zs ⟨#[c]⟩ w (by
      intro j x hx
      have e : (cur.toList.take (zs.length * 1))[j]? = (zs.map Value.string)[j]? := by rw [ht]
      have hjl := (List.getElem?_eq_some_iff.1 hx).1
      rw [List.getElem?_take, if_pos (by omega), List.getElem?_map, hx] at e
      rw [Nat.zero_add, cell_of_row w g j _ _ _ hg, ← Array.getElem?_toList, e]; rfl)
      (Array.getElem?_eq_some_iff.1 hg).1 (by omega) hn (by show (Lib.join (zs.map (·.data.toList)) [c]).length ≤ _; omega)
def fmtS (d sl b m n : Int) (t : T4) : ByteArray := ⟨(fmtB d sl b m n t).toArray⟩
theorem fmtS_list (d sl b m n : Int) (ts : List T4) : (ts.map (fmtS d sl b m n)).map (·.data.toList) = ts.map (fmtB d sl b m n) := by
  rw [List.map_map]; exact List.map_congr_left fun _ _ => rfl
set_option maxHeartbeats 4000000 in
theorem ftimesW_walk (A : Option Addr) (ts : List T4) (c : Nat) (d sl b m n : Int) (w : World) (hn : ts.length ≤ 1000) (hX : CellsAt w.heap.size w A 4 ts.length fun j => encT (ts.getD j (0, 0, 0, 0))) :
    Calls Tryz.prog 25 #[.slice A ts.length c, .agg #[.int .i64 d, .int .i64 sl, .int .i64 b, .int .i64 m], .int .i64 n] w fun e w' => e = .returned (.string ⟨(timesL d sl b m n ts).toArray⟩) ∧ Below w.heap.size w w' := by
  have hb0 : Below w.heap.size w (w.alloc (.cells #[.int .i64 d, .int .i64 sl, .int .i64 b, .int .i64 m] 24)) := (by repeat (first | exact Below.refl _ _ | refine ext_alloc ?_ _ | refine ext_drewN ?_ _ | refine ext_drew ?_ | refine ext_trans ?_ (by assumption)))
  have bG := Box4.new w 24 (.int .i64 d) (.int .i64 sl) (.int .i64 b) (.int .i64 m)
  have hX0 := (hX.below hb0).more hb0.size
  obtain ⟨gb, hgb⟩ : ∃ gb, w.heap.size = gb := ⟨_, rfl⟩
  obtain ⟨W, hW⟩ : ∃ W, w.alloc (.cells #[.int .i64 d, .int .i64 sl, .int .i64 b, .int .i64 m] 24) = W := ⟨_, rfl⟩
  rw [hW] at hb0 bG hX0
  rw [hgb] at bG
  have hgl := bG.lt
  obtain ⟨g0, g1, g2, g3⟩ := bG
  obtain ⟨N, hN⟩ : ∃ N, ts.length = N := ⟨_, rfl⟩
  rw [hN] at hn hX0 ⊢
  replace hN := hide hN
  replace hgb := hide hgb
  replace hW := hide hW
  clear hX
  go_enter Tryz.func25, Tryz.ntmps25
  go_wp2_with fail
  rw [hW.out, hgb.out]
  go_loopw [7, 14] (fun v i wr => ∃ j : Nat, j ≤ N ∧ i = .int .i64 j ∧ Own kStr 9 [] 0 W.heap.size wr v ((ts.take j).map (fmtS d sl b m n)) ∧ Below W.heap.size W wr) (fun _ i _ => N - (intOf i).toNat)
  case atStart => exact ⟨0, Nat.zero_le _, rfl, Own.nil, Below.refl _ _⟩
  case round =>
    obtain ⟨j, hj, rfl, hown, hb⟩ := hrel
    by_cases hlt : j < N
    · obtain ⟨t, ht⟩ : ∃ t, ts[j]? = some t := ⟨_, List.getElem?_eq_getElem (by rw [hN.out]; exact hlt)⟩
      obtain ⟨tb, off, rfl, htb, hc⟩ := (hX0.below hb) (by omega)
      have hget : ts.getD j (0, 0, 0, 0) = t := by rw [List.getD_eq_getElem?_getD, ht]; rfl
      have k0 := hc j hlt 0 _ rfl
      have k1 := hc j hlt 1 _ rfl
      have k2 := hc j hlt 2 _ rfl
      have k3 := hc j hlt 3 _ rfl
      rw [hget] at k0 k1 k2 k3
      rw [Nat.add_zero] at k0
      have hsn : Hid ((ts.take (j + 1)).map (fmtS d sl b m n) = (ts.take j).map (fmtS d sl b m n) ++ [fmtS d sl b m n t]) := by
        refine hide ?_
        rw [List.take_add_one, ht]; simp
      have hlen : ((ts.take j).map (fmtS d sl b m n)).length ≤ 1000 := by rw [List.length_map, List.length_take]; omega
      have hF : Hid (Ending.returned (.tuple #[.string ⟨(fmtT d sl b m n t.1 t.2.1 t.2.2.1 t.2.2.2).1.toArray⟩, .int .i64 (fmtT d sl b m n t.1 t.2.1 t.2.2.1 t.2.2.2).2]) = .returned (.tuple #[.string (fmtS d sl b m n t), .int .i64 (fmtT d sl b m n t.1 t.2.1 t.2.2.1 t.2.2.2).2])) := hide rfl
      obtain ⟨x1, x2, x3, x4⟩ := t
      dsimp only at k0 k1 k2 k3 hF
      obtain ⟨zs, hzs⟩ : ∃ zs, (ts.take j).map (fmtS d sl b m n) = zs := ⟨_, rfl⟩
      rw [hzs] at hown hsn hlen
      have r0 := cell_later hb g0
      have r1 := cell_later hb g1
      have r2 := cell_later hb g2
      have r3 := cell_later hb g3
      have hz := hb.size
      have htbr : tb < wr.heap.size := by omega
      have hgr : gb < wr.heap.size := by omega
      clear hc hget ht hzs
      go_wp2_with fail
      refine (tgFormat_walk d sl b m n x1 x2 x3 x4 _).mono ?_
      rintro e w2 ⟨rfl, hb2⟩
      rw [hF.out]
      have hb3 := ext_trans (ext_alloc (Below.refl wr.heap.size wr) (.cells #[.int .i64 x1, .int .i64 x2, .int .i64 x3, .int .i64 x4] 50)) hb2
      have hown2 := hown.later hb3
      have hbw := ext_trans hb hb3
      have hz2 := hbw.size
      clear hown hb2 hF k0 k1 k2 k3 r0 r1 r2 r3
      go_wp2_with (at_builtin; refine wpList_own rfl _ _ rfl apd_strs (by decide) rfl (hown2.alloc _) ?c1 (by decide) ⟨w2.heap.size, 0, none⟩ 1 rfl (fmtS d sl b m n (x1, x2, x3, x4)) [.string (fmtS d sl b m n (x1, x2, x3, x4))] rfl (World.news_of_block (cs := #[.string (fmtS d sl b m n (x1, x2, x3, x4))]) (t := 9) (fr := (0, 0)) (heap_alloc_new _ _)) (by decide) (Nat.zero_le _) ?c2 ?_)
      case c1 => omega
      case c2 => rw [World.size_alloc]; omega
      intro v' w4 hown4 hgrow
      have hb4 : Below W.heap.size W w4 := (hown2.alloc _).below_grown (ext_alloc hbw _) (Nat.le_refl _) hgrow
      clear hown2 hgrow
      go_wp2
      go_roundw
      case rel => exact ⟨j + 1, by omega, by go_num, by rw [hsn.out]; exact hown4, hb4⟩
      case measure => simp [intOf]; omega
    · obtain rfl : j = N := by omega
      have hall : Hid (ts.take j = ts) := hide (by rw [← hN.out]; exact List.take_length)
      rw [hall.out] at hown
      have hjn := joinC_walk 59 wr _ _ hown (by rw [List.length_map, hN.out]; omega) (by
        rw [fmtS_list]; have := timesL_len d sl b m n ts; unfold timesL at this; rw [hN.out] at this; omega)
      rw [fmtS_list] at hjn
      have hbw := ext_trans hb0 hb
      clear hall hown g0 g1 g2 g3
      go_wp2_with fail
      refine hjn.mono ?_
      rintro e w2 ⟨rfl, hb2⟩
      clear hjn
      go_wp2
      go_ret
      exact ⟨rfl, ext_trans hbw hb2⟩
theorem empty_app (x : ByteArray) : (⟨#[]⟩ : ByteArray) ++ x = x := by apply ByteArray.ext; simp [ByteArray.data_append]
set_option maxHeartbeats 4000000 in
theorem r7WriteT_walk (A : Option Addr) (ts : List T4) (c : Nat) (d sl b m n : Int) (w : World) (hS : Std w) (hWd : Wds w) (hD : Dys w) (hn : ts.length ≤ 1000) (hX : CellsAt w.heap.size w A 4 ts.length fun j => encT (ts.getD j (0, 0, 0, 0))) :
    Calls Tryz.prog 28 #[.slice A ts.length c, .agg #[.int .i64 d, .int .i64 sl, .int .i64 b, .int .i64 m], .int .i64 n] w fun e w' => e = .returned (.string ⟨(timesL d sl b m n ts).toArray⟩) ∧ Below w.heap.size w w' := by
  have hb0 : Below w.heap.size w (w.alloc (.cells #[.int .i64 d, .int .i64 sl, .int .i64 b, .int .i64 m] 24)) := (by repeat (first | exact Below.refl _ _ | refine ext_alloc ?_ _ | refine ext_drewN ?_ _ | refine ext_drew ?_ | refine ext_trans ?_ (by assumption)))
  have bG := Box4.new w 24 (.int .i64 d) (.int .i64 sl) (.int .i64 b) (.int .i64 m)
  have hX0 := (hX.below hb0).more hb0.size
  have hS0 := hS.after hb0
  have hW0 := hWd.after hb0 hS
  have hD0 := hD.after hb0 hS
  obtain ⟨gb, hgb⟩ : ∃ gb, w.heap.size = gb := ⟨_, rfl⟩
  obtain ⟨W, hW⟩ : ∃ W, w.alloc (.cells #[.int .i64 d, .int .i64 sl, .int .i64 b, .int .i64 m] 24) = W := ⟨_, rfl⟩
  rw [hW] at hb0 bG hX0 hS0 hW0 hD0
  rw [hgb] at bG
  have hgl := bG.lt
  obtain ⟨g0, g1, g2, g3⟩ := bG
  obtain ⟨N, hN⟩ : ∃ N, ts.length = N := ⟨_, rfl⟩
  rw [hN] at hn hX0 ⊢
  replace hN := hide hN
  replace hgb := hide hgb
  replace hW := hide hW
  clear hX hS hWd hD
  go_enter Tryz.func28, Tryz.ntmps28
  go_wp2_with fail
  rw [hW.out, hgb.out]
  go_loopw [7, 8] (fun v i wr => ∃ j : Nat, j ≤ N ∧ i = .int .i64 j ∧ v = .string ⟨(timesL d sl b m n (ts.take j)).toArray⟩ ∧ Below W.heap.size W wr) (fun _ i _ => N - (intOf i).toNat)
  case atStart => exact ⟨0, Nat.zero_le _, rfl, rfl, Below.refl _ _⟩
  case round =>
    obtain ⟨j, hj, rfl, rfl, hb⟩ := hrel
    by_cases hlt : j < N
    · obtain ⟨t, ht⟩ : ∃ t, ts[j]? = some t := ⟨_, List.getElem?_eq_getElem (by rw [hN.out]; exact hlt)⟩
      obtain ⟨tb, off, rfl, htb, hc⟩ := (hX0.below hb) (by omega)
      have hget : ts.getD j (0, 0, 0, 0) = t := by rw [List.getD_eq_getElem?_getD, ht]; rfl
      have k0 := hc j hlt 0 _ rfl
      have k1 := hc j hlt 1 _ rfl
      have k2 := hc j hlt 2 _ rfl
      have k3 := hc j hlt 3 _ rfl
      rw [hget] at k0 k1 k2 k3
      rw [Nat.add_zero] at k0
      have hsn : Hid ((⟨(timesL d sl b m n (ts.take (j + 1))).toArray⟩ : ByteArray) = if j = 0 then fmtS d sl b m n t else ⟨(timesL d sl b m n (ts.take j)).toArray⟩ ++ ⟨#[59]⟩ ++ fmtS d sl b m n t) := by
        refine hide ?_
        rw [List.take_add_one, ht]
        show (⟨(timesL d sl b m n (ts.take j ++ [t])).toArray⟩ : ByteArray) = _
        rw [timesL_snoc]
        by_cases h0 : j = 0
        · subst h0; rfl
        · rw [if_neg h0, if_neg (by intro e; have := congrArg List.length e; rw [List.length_take, hN.out] at this; simp at this; omega)]
          apply ByteArray.ext
          simp [fmtS, ByteArray.data_append]
      have hF : Hid (Ending.returned (.tuple #[.string ⟨(fmtT d sl b m n t.1 t.2.1 t.2.2.1 t.2.2.2).1.toArray⟩, .int .i64 (fmtT d sl b m n t.1 t.2.1 t.2.2.1 t.2.2.2).2]) = .returned (.tuple #[.string (fmtS d sl b m n t), .int .i64 (fmtT d sl b m n t.1 t.2.1 t.2.2.1 t.2.2.2).2])) := hide rfl
      have hfl : (fmtS d sl b m n t).size ≤ 200 := by have := fmtB_len d sl b m n t; unfold fmtS; simpa [ByteArray.size] using this
      obtain ⟨x1, x2, x3, x4⟩ := t
      dsimp only at k0 k1 k2 k3 hF
      have hol : (⟨(timesL d sl b m n (ts.take j)).toArray⟩ : ByteArray).size ≤ 201000 := by
        have := timesL_len d sl b m n (ts.take j)
        rw [List.length_take] at this
        simp only [ByteArray.size, List.size_toArray]
        omega
      have hO0 : j = 0 → (⟨(timesL d sl b m n (ts.take j)).toArray⟩ : ByteArray) = ⟨#[]⟩ := fun e => by subst e; rfl
      obtain ⟨O, hO⟩ : ∃ O, (⟨(timesL d sl b m n (ts.take j)).toArray⟩ : ByteArray) = O := ⟨_, rfl⟩
      rw [hO] at hsn hol hO0 ⊢
      obtain ⟨Fb, hFb⟩ : ∃ Fb, fmtS d sl b m n (x1, x2, x3, x4) = Fb := ⟨_, rfl⟩
      rw [hFb] at hsn hfl hF
      have r0 := cell_later hb g0
      have r1 := cell_later hb g1
      have r2 := cell_later hb g2
      have r3 := cell_later hb g3
      have hz := hb.size
      have htbr : tb < wr.heap.size := by omega
      have hgr : gb < wr.heap.size := by omega
      have hC : Cn8 gb 0 (.int .i64 d) gb 1 (.int .i64 sl) gb 2 (.int .i64 b) gb 3 (.int .i64 m) tb (off + j * 4) (.int .i64 x1) tb (off + j * 4 + 1) (.int .i64 x2) tb (off + j * 4 + 2) (.int .i64 x3) tb (off + j * 4 + 3) (.int .i64 x4) wr := ⟨r0, r1, r2, r3, k0, k1, k2, k3⟩
      have hcall := hide (fun (V : World) (hV : Below wr.heap.size wr V) => (r6Format_walk d sl b m n x1 x2 x3 x4 V ((hS0.after hb).after hV) ((hW0.after hb hS0).after hV (hS0.after hb)) ((hD0.after hb hS0).after hV (hS0.after hb))).mono fun _ _ ⟨he, hb⟩ => (⟨he.trans hF.out, ext_trans hV hb, hC.later (ext_trans hV hb)⟩ : _ ∧ Below wr.heap.size wr _ ∧ Cn8 gb 0 (.int .i64 d) gb 1 (.int .i64 sl) gb 2 (.int .i64 b) gb 3 (.int .i64 m) tb (off + j * 4) (.int .i64 x1) tb (off + j * 4 + 1) (.int .i64 x2) tb (off + j * 4 + 2) (.int .i64 x3) tb (off + j * 4 + 3) (.int .i64 x4) _))
      have hCd := hC.drew
      have hrefl := Below.refl wr.heap.size wr
      have hj0 : (0 : Int) ≤ (j : Int) := by omega
      have hj1 : (j : Int) < (N : Int) := by omega
      clear hc hget ht hO hFb hF hX0 hS0 hW0 hD0
      by_cases h0 : j = 0
      · have hO1 := hO0 h0
        subst hO1
        rw [if_pos h0] at hsn
        have hj3 : (j : Int) ≤ 0 := by omega
        have hc1 : (9223372036854775807 < (⟨#[]⟩ : ByteArray).size + Fb.size) = False := eq_false (by rw [show (⟨#[]⟩ : ByteArray).size = 0 from rfl]; omega)
        have hc2 : (9223372036854775807 < Fb.size) = False := eq_false (by omega)
        clear hO0
        replace h0 := hide h0
        go_wp2_with fail
        go_region_held3 (fun W' => W'.cell? ⟨gb, 0, none⟩ = some (.int .i64 d) ∧ W'.cell? ⟨gb, 1, none⟩ = some (.int .i64 sl) ∧ W'.cell? ⟨gb, 2, none⟩ = some (.int .i64 b) ∧ W'.cell? ⟨gb, 3, none⟩ = some (.int .i64 m) ∧ W'.cell? ⟨tb, off + j * 4, none⟩ = some (.int .i64 x1) ∧ W'.cell? ⟨tb, off + j * 4 + 1, none⟩ = some (.int .i64 x2) ∧ W'.cell? ⟨tb, off + j * 4 + 2, none⟩ = some (.int .i64 x3) ∧ W'.cell? ⟨tb, off + j * 4 + 3, none⟩ = some (.int .i64 x4)) (first | ((repeat (first | (with_reducible assumption) | (with_reducible refine Cn8.alloc ?_ _) | (with_reducible refine Cn8.drew ?_) | (with_reducible refine Cn8.set ?_ ?_ ?_ ?_ ?_ ?_ ?_ ?_ ?_ _) | omega)); done)) (first | (go_at_call 61; refine (hcall.out _ (by repeat (first | (with_reducible assumption) | (with_reducible refine ext_alloc ?_ _) | (with_reducible refine ext_drew ?_)))).mono ?_; rintro e w2 ⟨rfl, hb2, hx2⟩))
        all_goals
          have hbn := ext_trans hb hb2
          clear hcall hC hCd hrefl hb2
          go_wp2
          go_roundw
          case rel => exact ⟨j + 1, by omega, by go_num, by rw [hsn.out]; exact congrArg Value.string (empty_app Fb), by first | exact ext_drew hbn | exact hbn⟩
          case measure => simp [intOf]; omega
      · rw [if_neg h0] at hsn
        have hj2 : 0 < j := by omega
        have hj3 : (0 : Int) < (j : Int) := by omega
        have hc1 : (9223372036854775807 < O.size + 1) = False := eq_false (by omega)
        have hc2 : (9223372036854775807 < O.size + 1 + Fb.size) = False := eq_false (by omega)
        clear hO0
        replace h0 := hide h0
        go_wp2_with fail
        go_region_held3 (fun W' => W'.cell? ⟨gb, 0, none⟩ = some (.int .i64 d) ∧ W'.cell? ⟨gb, 1, none⟩ = some (.int .i64 sl) ∧ W'.cell? ⟨gb, 2, none⟩ = some (.int .i64 b) ∧ W'.cell? ⟨gb, 3, none⟩ = some (.int .i64 m) ∧ W'.cell? ⟨tb, off + j * 4, none⟩ = some (.int .i64 x1) ∧ W'.cell? ⟨tb, off + j * 4 + 1, none⟩ = some (.int .i64 x2) ∧ W'.cell? ⟨tb, off + j * 4 + 2, none⟩ = some (.int .i64 x3) ∧ W'.cell? ⟨tb, off + j * 4 + 3, none⟩ = some (.int .i64 x4)) (first | ((repeat (first | (with_reducible assumption) | (with_reducible refine Cn8.alloc ?_ _) | (with_reducible refine Cn8.drew ?_) | (with_reducible refine Cn8.set ?_ ?_ ?_ ?_ ?_ ?_ ?_ ?_ ?_ _) | omega)); done)) (first | (go_at_call 61; refine (hcall.out _ (by repeat (first | (with_reducible assumption) | (with_reducible refine ext_alloc ?_ _) | (with_reducible refine ext_drew ?_)))).mono ?_; rintro e w2 ⟨rfl, hb2, hx2⟩))
        all_goals
          have hbn := ext_trans hb hb2
          clear hcall hC hCd hrefl hb2
          go_wp2
          go_roundw
          case rel => exact ⟨j + 1, by omega, by go_num, by rw [hsn.out], by first | exact ext_drew hbn | exact hbn⟩
          case measure => simp [intOf]; omega
    · obtain rfl : j = N := by omega
      have hall : Hid (ts.take j = ts) := hide (by rw [← hN.out]; exact List.take_length)
      have hbw := ext_trans hb0 hb
      rw [hall.out]
      clear hall g0 g1 g2 g3
      go_wp2
      go_ret
      exact ⟨rfl, hbw⟩
end Go.Proofs.YtnbcaklnpflihaaGreatDoor
