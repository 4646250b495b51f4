/- The text of times (plain), and what it is read as. No walk. The plain law of StafffileReturns: lecturers that are valid are read as they were written. No walk. Walks of fields.Times and timetableref07.WriteTimes: the text of times. Conditions: the cells; at most 1000 times; what the program's variables hold. -/
import Derived.Test.YtonpfohhedcjbaaGreatDoorKTgK
import Derived.Test.YtonpfohhedcjbaaGreatDoorKPlainA
import Derived.Test.YtonpfohhedcjbaaGreatDoorKValC
import Derived.Test.YtonpfohhedcjbaaGreatDoorKSameL
import Derived.Test.YtonpfohhedcjbaaGreatDoorKTgN
import Derived.Deep.RegionHeld3
import Derived.Deep.DeepCutAuto
namespace Go.Proofs.YtonpfohhedcjbaaGreatDoor
set_option maxRecDepth 100000

/-- The text of a time, where it fits; the text of times. -/
def fmtB (d sl b m n : Int) (t : T4) : List UInt8 := (fmtT d sl b m n t.1 t.2.1 t.2.2.1 t.2.2.2).1
def timesL (d sl b m n : Int) (ts : List T4) : List UInt8 := Lib.join (ts.map (fmtB d sl b m n)) [59]
theorem fmtB_len (d sl b m n : Int) (t : T4) : (fmtB d sl b m n t).length ≤ 200 := by
  unfold fmtB fmtT
  by_cases h : fitsV d sl b m n t.1 t.2.1 t.2.2.1 t.2.2.2 = 0
  · rw [if_pos h]
    obtain ⟨-, hF⟩ := fits_parts h
    exact timeT_len (by have := hF.n2; omega)
  · rw [if_neg h]; exact Nat.zero_le _
theorem join_snoc59 (x : List UInt8) : ∀ (xs : List (List UInt8)), Lib.join (xs ++ [x]) [59] = if xs = [] then x else Lib.join xs [59] ++ 59 :: x
  | [] => by simp [Lib.join_one]
  | y :: r => by
    rw [if_neg (by simp), ← join_two (y :: r) [x] 59 (by simp) (by simp), Lib.join_one]
theorem lens59 (m : Nat) : ∀ (l : List (List UInt8)), (∀ x ∈ l, x.length ≤ m) → (Lib.join l [59]).length ≤ (m + 1) * l.length
  | [], _ => by simp [Lib.join_nil]
  | [x], h => by
    rw [Lib.join_one]
    have := h x (by simp)
    simp; omega
  | x :: y :: r, h => by
    have ih := lens59 m (y :: r) (fun z hz => h z (by simp [hz]))
    have h1 := h x (by simp)
    have : Lib.join (x :: y :: r) [59] = x ++ 59 :: Lib.join (y :: r) [59] := by simp [Lib.join, List.intercalate]
    rw [this]
    simp only [List.length_append, List.length_cons, Nat.mul_add] at ih ⊢
    omega
theorem timesL_len (d sl b m n : Int) (ts : List T4) : (timesL d sl b m n ts).length ≤ 201 * ts.length := by
  have := lens59 200 (ts.map (fmtB d sl b m n)) (fun x hx => by obtain ⟨t, -, rfl⟩ := List.mem_map.1 hx; exact fmtB_len d sl b m n t)
  rw [List.length_map] at this
  exact this
theorem timesL_snoc (d sl b m n : Int) (ts : List T4) (t : T4) : timesL d sl b m n (ts ++ [t]) = if ts = [] then fmtB d sl b m n t else timesL d sl b m n ts ++ 59 :: fmtB d sl b m n t := by
  unfold timesL
  rw [List.map_append, List.map_singleton, join_snoc59]
  by_cases h : ts = []
  · simp [h]
  · rw [if_neg (by simpa using h), if_neg h]
/-! What it is read as. -/
theorem dec2_no59 : ∀ k : Nat, k < 30 → 59 ∉ dec2 k := by decide +kernel
theorem dayB_no59 : ∀ k : Nat, k < 7 → 59 ∉ (dayB k).data.toList := by decide
theorem wordName_no59 : ∀ k : Nat, k < 5 → 59 ∉ wordName k := by decide
theorem runT_no59 {a b : Nat} (h2 : a < 30) (h4 : b < 30) : 59 ∉ runT (a, b) := by
  have ha := dec2_no59 a h2
  have hb := dec2_no59 b h4
  unfold runT
  split
  · exact ha
  · simp only [List.mem_append, List.mem_cons, not_or]
    exact ⟨ha, by decide, hb⟩
theorem formatL_no59 {s n : Nat} (hn : n ≤ 20) : 59 ∉ formatL s n := by
  unfold formatL
  refine join_notin 59 _ (by decide) (fun x hx => ?_)
  unfold itemsT at hx
  by_cases h : nameIdx s n < 5
  · rw [if_pos h] at hx
    obtain rfl := List.mem_singleton.1 hx
    exact wordName_no59 _ h
  · rw [if_neg h] at hx
    obtain ⟨⟨a, b⟩, hr, rfl⟩ := List.mem_map.1 hx
    have := (runs_facts s.testBit n _ 1 (Nat.le_refl _) (Nat.le_refl _)).1 _ hr
    dsimp only at this
    exact runT_no59 (by omega) (by omega)
theorem timeT_no59 {n a k p q : Nat} (hn : n ≤ 20) (hk : k < 7) (hpq : p + q ≤ 24) (hq : 1 ≤ q) : 59 ∉ timeT n a k p q := by
  have h1 := dayB_no59 k hk
  have h2 := dec2_no59 (p + 1) (by omega)
  have h3 := dec2_no59 (p + q) (by omega)
  have h4 := formatL_no59 (s := a) hn
  unfold timeT slotT
  split <;> split <;> simp only [List.mem_append, List.mem_cons, not_or, List.append_nil] <;> simp [h1, h2, h3, h4]
theorem timeT_ne (n a k p q : Nat) : timeT n a k p q ≠ [] := by unfold timeT; simp
theorem fmt_piece {d s b m n : Int} {t : T4} (h : fitsV d s b m n t.1 t.2.1 t.2.2.1 t.2.2.2 = 0) :
    59 ∉ fmtB d s b m n t ∧ fmtB d s b m n t ≠ [] ∧ pieceT d s b m n ⟨(fmtB d s b m n t).toArray⟩ = (t.1, t.2.1, t.2.2.1, t.2.2.2, 0) := by
  have hf : fmtB d s b m n t = timeT n.toNat t.1.toNat t.2.1.toNat t.2.2.1.toNat t.2.2.2.toNat := by unfold fmtB fmtT; rw [if_pos h]
  rw [hf]
  obtain ⟨hwk, hF⟩ := fits_parts h
  obtain ⟨x1, x2, x3, x4⟩ := t
  dsimp only at *
  obtain ⟨n1, n2, hv, w1, d1, d2, d3, s1, l1, s2, s3⟩ := hF
  obtain ⟨N, rfl⟩ := Int.eq_ofNat_of_zero_le (by omega : 0 ≤ n)
  obtain ⟨a, rfl⟩ := Int.eq_ofNat_of_zero_le (by omega : 0 ≤ x1)
  obtain ⟨k, rfl⟩ := Int.eq_ofNat_of_zero_le d1
  obtain ⟨p, rfl⟩ := Int.eq_ofNat_of_zero_le s1
  obtain ⟨q, rfl⟩ := Int.eq_ofNat_of_zero_le (by omega : 0 ≤ x4)
  simp only [Int.toNat_natCast]
  have ha := validB_iff.1 hv
  have haN : a < 2 ^ N := by
    have h3 := ha.2.2.2
    rw [Int.toNat_natCast] at h3
    exact_mod_cast h3
  exact ⟨timeT_no59 (by omega) (by omega) (by omega) (by omega), timeT_ne _ _ _ _ _, parse_time hwk (by omega) (by omega) (by omega) haN (by omega) d3 (by omega) (by omega) s3⟩
theorem join59_ne : ∀ (xs : List (List UInt8)), xs ≠ [] → (∀ x ∈ xs, x ≠ []) → Lib.join xs [59] ≠ []
  | [], h, _ => absurd rfl h
  | [x], _, h => by rw [Lib.join_one]; exact h x (by simp)
  | x :: y :: r, _, _ => by
    have : Lib.join (x :: y :: r) [59] = x ++ 59 :: Lib.join (y :: r) [59] := by simp [Lib.join, List.intercalate]
    rw [this]; simp
theorem parts_join (xs : List ByteArray) (h59 : ∀ x ∈ xs, 59 ∉ x.data.toList) (h0 : ∀ x ∈ xs, x.data.toList ≠ []) : partsOf ⟨(Lib.join (xs.map (·.data.toList)) [59]).toArray⟩ = xs := by
  by_cases hx : xs = []
  · subst hx; rfl
  · have hne : Lib.join (xs.map (·.data.toList)) [59] ≠ [] := join59_ne _ (by simpa using hx) (fun x hm => by obtain ⟨y, hy, rfl⟩ := List.mem_map.1 hm; exact h0 y hy)
    have hs : (⟨(Lib.join (xs.map (·.data.toList)) [59]).toArray⟩ : ByteArray).size ≠ 0 := by
      intro e
      exact hne (List.eq_nil_of_length_eq_zero (by simpa [ByteArray.size] using e))
    refine map_data_inj ?_
    unfold partsOf
    rw [if_neg hs, splitB_one]
    exact splitOn1_of_join 59 _ (by simpa using hx) (fun x hm => by obtain ⟨y, hy, rfl⟩ := List.mem_map.1 hm; exact h59 y hy)
theorem times_parts {d s b m n : Int} {ts : List T4} (h : ∀ t ∈ ts, fitsV d s b m n t.1 t.2.1 t.2.2.1 t.2.2.2 = 0) :
    partsOf ⟨(timesL d s b m n ts).toArray⟩ = ts.map fun t => ⟨(fmtB d s b m n t).toArray⟩ := by
  have := parts_join (ts.map fun t => ⟨(fmtB d s b m n t).toArray⟩) (fun x hx => by obtain ⟨t, ht, rfl⟩ := List.mem_map.1 hx; exact (fmt_piece (h t ht)).1) (fun x hx => by obtain ⟨t, ht, rfl⟩ := List.mem_map.1 hx; exact (fmt_piece (h t ht)).2.1)
  rw [List.map_map] at this
  exact this
theorem firstE_zero {f : ByteArray → Int} : ∀ {l : List ByteArray}, (∀ z ∈ l, f z = 0) → firstE f l = 0
  | [], _ => rfl
  | z :: r, h => by rw [firstE, if_pos (h z (by simp))]; exact firstE_zero fun y hy => h y (by simp [hy])
/-- Times that fit are read as they were written. -/
theorem times_back {d s b m n : Int} {ts : List T4} (h : ∀ t ∈ ts, fitsV d s b m n t.1 t.2.1 t.2.2.1 t.2.2.2 = 0) (hl : ts.length ≤ 24) :
    (partsOf ⟨(timesL d s b m n ts).toArray⟩).map (pieceV d s b m n) = ts ∧ timesE d s b m n (partsOf ⟨(timesL d s b m n ts).toArray⟩) = 0 := by
  rw [times_parts h]
  constructor
  · rw [List.map_map]
    refine (List.map_congr_left (g := id) fun t ht => ?_).trans (List.map_id ts)
    have := (fmt_piece (h t ht)).2.2
    show pieceV d s b m n ⟨(fmtB d s b m n t).toArray⟩ = t
    unfold pieceV
    rw [this]
  · have h0 : firstE (pieceE d s b m n) (ts.map fun t => ⟨(fmtB d s b m n t).toArray⟩) = 0 := firstE_zero fun z hz => by
      obtain ⟨t, ht, rfl⟩ := List.mem_map.1 hz
      unfold pieceE
      rw [(fmt_piece (h t ht)).2.2]
    unfold timesE
    rw [if_pos h0, List.length_map, if_neg (by omega)]
end Go.Proofs.YtonpfohhedcjbaaGreatDoor

namespace Go.Proofs.YtonpfohhedcjbaaGreatDoor
set_option maxRecDepth 100000

/-- The fields of a lecturer. -/
def rowOf (d s b m n : Int) (l : Lect) : List ByteArray := [l.1, ⟨(timesL d s b m n l.2).toArray⟩]
theorem lectsE_zero {d sl b m n : Int} {ls : List Lect} : ∀ {k : Nat}, lectsE d sl b m n ls k = 0 → ∀ j, j < k → lectE d sl b m n ls j = 0
  | 0, _, j, hj => by omega
  | k + 1, h, j, hj => by
    by_cases h0 : lectsE d sl b m n ls k = 0
    · rw [lectsE, if_neg (by simp [h0])] at h
      by_cases e : j = k
      · rw [e]; exact h
      · exact lectsE_zero h0 j (by omega)
    · rw [lectsE, if_pos h0] at h
      exact absurd h h0
theorem orTo_all {p : Nat → Bool} : ∀ {n : Nat}, orTo p n = false → ∀ j, j < n → p j = false
  | 0, _, j, hj => by omega
  | n + 1, h, j, hj => by
    rw [orTo, Bool.or_eq_false_iff] at h
    by_cases e : j = n
    · rw [e]; exact h.2
    · exact orTo_all h.1 j (by omega)
theorem orTo_none {p : Nat → Bool} : ∀ {n : Nat}, (∀ j, j < n → p j = false) → orTo p n = false
  | 0, _ => rfl
  | n + 1, h => by rw [orTo, orTo_none fun j hj => h j (by omega), h n (by omega)]; rfl
/-- What validV says of lecturer j. -/
theorem valid_parts {d sl b m n : Int} {ls : List Lect} (h : validV d sl b m n ls = 0) : weekB d sl b m n = true ∧ ls.length ≤ 32 ∧ ∀ (j : Nat) (l : Lect), ls[j]? = some l →
    codeB l.1 = true ∧ l.2.length ≤ 24 ∧ (∀ t ∈ l.2, fitsV d sl b m n t.1 t.2.1 t.2.2.1 t.2.2.2 = 0) ∧ ∀ i, i < j → sameS (codesOf ls i) l.1 = false := by
  unfold validV at h
  by_cases hw : weekB d sl b m n = false
  · rw [if_pos hw] at h; omega
  rw [if_neg hw] at h
  by_cases h32 : 32 < ls.length
  · rw [if_pos h32] at h; omega
  rw [if_neg h32] at h
  refine ⟨by simpa using hw, by omega, fun j l hl => ?_⟩
  have hjl := (List.getElem?_eq_some_iff.1 hl).1
  have hE := lectsE_zero h j hjl
  have hget : ls.getD j (⟨#[]⟩, []) = l := by rw [List.getD_eq_getElem?_getD, hl]; rfl
  have hcode : codesOf ls j = l.1 := by unfold codesOf; rw [hget]
  unfold lectE at hE
  rw [hget, hcode] at hE
  by_cases c1 : codeB l.1 = false
  · rw [if_pos c1] at hE; omega
  rw [if_neg c1] at hE
  by_cases c2 : 24 < l.2.length
  · rw [if_pos c2] at hE; omega
  rw [if_neg c2] at hE
  split at hE
  · omega
  · rename_i c3
    split at hE
    · omega
    · rename_i c4
      refine ⟨by simpa using c1, by omega, fun t ht => ?_, fun i hi => orTo_all (Bool.eq_false_iff.2 c4) i hi⟩
      obtain ⟨k, hk⟩ := List.getElem?_of_mem ht
      have hkl := (List.getElem?_eq_some_iff.1 hk).1
      have h3 := orTo_all (Bool.eq_false_iff.2 c3) k hkl
      have hg : l.2.getD k (0, 0, 0, 0) = t := by rw [List.getD_eq_getElem?_getD, hk]; rfl
      rw [hg] at h3
      simpa using h3
theorem read_step {d s b m n : Int} {ls : List Lect} (h : validV d s b m n ls = 0) : ∀ k, k ≤ ls.length → (readRecs d s b m n (plainR 1 ((ls.take k).map (rowOf d s b m n)))).ls = ls.take k ∧ (readRecs d s b m n (plainR 1 ((ls.take k).map (rowOf d s b m n)))).ps = []
  | 0, _ => ⟨rfl, rfl⟩
  | k + 1, hk => by
    obtain ⟨h1, h2⟩ := read_step h k (by omega)
    obtain ⟨hw, h32, hp⟩ := valid_parts h
    obtain ⟨l, hl⟩ : ∃ l, ls[k]? = some l := ⟨_, List.getElem?_eq_getElem (by omega)⟩
    obtain ⟨c1, c2, c3, c4⟩ := hp k l hl
    obtain ⟨tb1, tb2⟩ := times_back c3 c2
    have ht : ls.take (k + 1) = ls.take k ++ [l] := by rw [List.take_add_one, hl]; rfl
    rw [ht, List.map_append, List.map_singleton, plainR_snoc, readRecs_snoc]
    obtain ⟨st, hst⟩ : ∃ st, readRecs d s b m n (plainR 1 ((ls.take k).map (rowOf d s b m n))) = st := ⟨_, rfl⟩
    rw [hst] at h1 h2 ⊢
    have hlen : st.ls.length = k := by rw [h1, List.length_take]; omega
    obtain ⟨line, hline⟩ : ∃ line, (1 : Int) + ((ls.take k).map (rowOf d s b m n)).length = line := ⟨_, rfl⟩
    rw [hline]
    have hfs : plainF 1 (rowOf d s b m n l) = ([(l.1, 1, false), (⟨(timesL d s b m n l.2).toArray⟩, 1 + ((l.1.size : Int) + 1), false)] : List Fld) := rfl
    have t0 : textAt (plainF 1 (rowOf d s b m n l)) 0 = l.1 := rfl
    have t1 : textAt (plainF 1 (rowOf d s b m n l)) 1 = ⟨(timesL d s b m n l.2).toArray⟩ := rfl
    have hdup : orTo (fun j => sameS (codesOf st.ls j) l.1) st.ls.length = false := by
      rw [hlen]
      refine orTo_none fun j hj => ?_
      have hc := c4 j hj
      have : codesOf st.ls j = codesOf ls j := by
        unfold codesOf
        rw [h1, List.getD_eq_getElem?_getD, List.getD_eq_getElem?_getD, List.getElem?_take, if_pos hj]
      rw [this]; exact hc
    have hP1 : staffP1 d s b m n line (plainF 1 (rowOf d s b m n l)) = none := by
      unfold staffP1
      rw [t0, t1, c1, if_pos rfl, tb2]
      rfl
    have hT : staffT d s b m n (plainF 1 (rowOf d s b m n l)) = l.2 := by
      unfold staffT
      rw [t0, t1, c1, if_pos rfl, tb1]
    have hP : staffP d s b m n line (plainF 1 (rowOf d s b m n l)) (codesOf st.ls) st.ls.length = none := by
      unfold staffP
      rw [hP1, t0, hdup, hlen]
      have : decide ((32 : Int) ≤ (k : Int)) = false := by rw [decide_eq_false_iff_not]; omega
      rw [this]; rfl
    unfold recStep
    rw [if_pos (by rw [hfs]; rfl)]
    dsimp only
    rw [hP]
    dsimp only
    rw [t0, hT, h1]
    exact ⟨rfl, h2⟩
theorem read_back {d s b m n : Int} {ls : List Lect} (h : validV d s b m n ls = 0) : staffRead d s b m n (plainR 1 (ls.map (rowOf d s b m n))) = (ls, []) := by
  obtain ⟨h1, h2⟩ := read_step h ls.length (Nat.le_refl _)
  rw [List.take_length] at h1 h2
  unfold staffRead
  rw [(valid_parts h).1]
  simp [h1, h2]
end Go.Proofs.YtonpfohhedcjbaaGreatDoor

namespace Go.Proofs.YtonpfohhedcjbaaGreatDoor
open Go.RowKit
set_option maxRecDepth 100000

theorem apd_strs : Apd Tryz.prog 34 9 1 16 := apd Tryz.underlying34 (z := .string ⟨#[]⟩) (by kernel_rfl) rfl
theorem strs_flat : ∀ (zs : List ByteArray) (vss : List (List Value)), vss.length = zs.length → (∀ (j : Nat) (x : ByteArray) (vs : List Value), zs[j]? = some x → vss[j]? = some vs → vs = [Value.string x]) → vss.flatten = zs.map Value.string
  | [], [], _, _ => rfl
  | [], _ :: _, h, _ => by simp at h
  | _ :: _, [], h, _ => by simp at h
  | z :: zs, vs :: vss, h, hk => by
    have h0 := hk 0 z vs rfl rfl
    subst h0
    have ih := strs_flat zs vss (by simpa using h) (fun j x us hx hu => hk (j + 1) x us (by simpa using hx) (by simpa using hu))
    simp [ih]
theorem strs_of_own {t : TypeId} {ts : List TypeId} {B0 B : Nat} {w : World} {v : Value} {zs : List ByteArray} (h : Own kStr t ts B0 B w v zs) : w.ownsRow B t 1 v zs.length (zs.map Value.string) := by
  obtain ⟨vss, e1, e2, e3⟩ := h
  rw [strs_flat zs vss e1 (fun j x vs hx hv => rep_str.1 (e3 j x vs hx hv))] at e2
  exact e2
theorem joinC_walk (c : UInt8) {ts : List TypeId} {B0 B : Nat} (w : World) (v : Value) (zs : List ByteArray) (h : Own kStr 9 ts B0 B w v zs) (hl : zs.length ≤ 1000000) (hj : (Lib.join (zs.map (·.data.toList)) [c]).length ≤ 1000000000) :
    Calls Tryz.prog 72 #[v, .string ⟨#[c]⟩] w fun e w' => e = .returned (.string ⟨(Lib.join (zs.map (·.data.toList)) [c]).toArray⟩) ∧ Below w.heap.size w w' := by
  obtain ⟨h1, h2⟩ := strs_of_own h
  rcases h2 with ⟨rfl, h0⟩ | ⟨g, cap, cur, rfl, hb, hg, hn, hm, hs, ht⟩
  · obtain rfl := List.eq_nil_of_length_eq_zero h0
    exact (Tryz.strings_Join_none none 0 _ w).mono fun e w' ⟨he, hw⟩ => ⟨he, by rw [hw]; exact Below.refl _ _⟩
  · exact Tryz.strings_Join g 0 cap zs ⟨#[c]⟩ w (by
      intro j x hx
      have e : (cur.toList.take (zs.length * 1))[j]? = (zs.map Value.string)[j]? := by rw [ht]
      have hjl := (List.getElem?_eq_some_iff.1 hx).1
      rw [List.getElem?_take, if_pos (by omega), List.getElem?_map, hx] at e
      rw [Nat.zero_add, cell_of_row w g j _ _ _ hg, ← Array.getElem?_toList, e]; rfl)
      (Array.getElem?_eq_some_iff.1 hg).1 (by omega) hn (by show (Lib.join (zs.map (·.data.toList)) [c]).length ≤ _; omega)
def fmtS (d sl b m n : Int) (t : T4) : ByteArray := ⟨(fmtB d sl b m n t).toArray⟩
theorem fmtS_list (d sl b m n : Int) (ts : List T4) : (ts.map (fmtS d sl b m n)).map (·.data.toList) = ts.map (fmtB d sl b m n) := by
  rw [List.map_map]; exact List.map_congr_left fun _ _ => rfl
theorem empty_app (x : ByteArray) : (⟨#[]⟩ : ByteArray) ++ x = x := by apply ByteArray.ext; simp [ByteArray.data_append]
end Go.Proofs.YtonpfohhedcjbaaGreatDoor
