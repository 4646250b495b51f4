/- Walks of timetableref03.split and Parts. Condition: texts shorter than 2^30 bytes. The text of times (plain), and what it is read as. No walk. -/
import Derived.Test.YtimcdikeajbabaaGreatDoorRows
import Derived.WalkKit
import Derived.WalkSpells
import Derived.WalkLawsBesides
import Derived.BigGuardPart
import Derived.Lib.Hide
import Derived.Laws.BitsAllLaws
import Derived.Laws.BitsLemmas
import Derived.Lib.LaidTab
import Derived.Test.YtimcdikeajbabaaGreatDoorShelf
import Derived.Lib.ConvBytes
import Derived.Deep.QuietTactic
import Derived.BigQuiet
import Derived.Laws.ResultCell
import Derived.RegionTactic
import Derived.BigRegion
import Derived.Deep.RegionHeld3
import Derived.Deep.DeepCutAuto
import Derived.Lib.SmallJoins
import Derived.Lib.SplitLaws
import Derived.Lib.CountLaws
import Derived.Lib.IndexMore
import Derived.Lib.Split
import Derived.Lib.Join
import Derived.Lib.ItoaNum
import Derived.Laws.AppendOwn
import Derived.Deep.AppendLies
import Derived.Test.YtimcdikeajbabaaGreatDoorQFieldsC
import Derived.Test.YtimcdikeajbabaaGreatDoorQWsF
import Derived.Test.YtimcdikeajbabaaGreatDoorQTgK
namespace Go.Proofs.YtimcdikeajbabaaGreatDoor
open Go.RowKit
set_option maxRecDepth 100000

theorem splitOn1_hit {c : UInt8} : ∀ (a b : List UInt8), c ∉ a → splitOn1 c (a ++ c :: b) = a :: splitOn1 c b
  | [], b, _ => by simp [splitOn1]
  | x :: a, b, h => by
    have hx : ¬ x = c := fun e => h (by simp [e])
    have ha : c ∉ a := fun e => h (by simp [e])
    simp only [List.cons_append, splitOn1, if_neg hx]
    rw [splitOn1_hit a b ha]
theorem splitOn1_end {c : UInt8} : ∀ (a : List UInt8), c ∉ a → splitOn1 c a = [a]
  | [], _ => rfl
  | x :: a, h => by
    have hx : ¬ x = c := fun e => h (by simp [e])
    have ha : c ∉ a := fun e => h (by simp [e])
    simp only [splitOn1, if_neg hx]
    rw [splitOn1_end a ha]
/-- Where the splitting of a text stands: what is cut off, from where it goes on, how far it has looked. -/
structure Cutting (L : List UInt8) (dn : List (List UInt8)) (f j : Nat) : Prop where
  le : f ≤ j
  eq : dn ++ splitOn1 59 (L.drop f) = splitOn1 59 L
  no : ∀ k, f ≤ k → k < j → L[k]? ≠ some 59
theorem piece_free {L : List UInt8} {dn : List (List UInt8)} {f j : Nat} (h : Cutting L dn f j) : (59 : UInt8) ∉ (L.drop f).take (j - f) := by
  intro hm
  obtain ⟨i, hi⟩ := List.getElem?_of_mem hm
  rw [List.getElem?_take] at hi
  split at hi
  · rw [List.getElem?_drop] at hi
    exact h.no (f + i) (by omega) (by omega) hi
  · cases hi
theorem Cutting.hit {L : List UInt8} {dn : List (List UInt8)} {f j : Nat} (h : Cutting L dn f j) (hj : L[j]? = some 59) : Cutting L (dn ++ [(L.drop f).take (j - f)]) (j + 1) (j + 1) := by
  have hl := (List.getElem?_eq_some_iff.1 hj).1
  have e : L.drop f = (L.drop f).take (j - f) ++ 59 :: L.drop (j + 1) := by
    have e1 : (L.drop f).drop (j - f) = 59 :: L.drop (j + 1) := by
      rw [List.drop_drop, show f + (j - f) = j from by have := h.le; omega, List.drop_eq_getElem_cons hl]
      congr 1
      have := List.getElem?_eq_getElem hl
      rw [this] at hj
      exact Option.some.inj hj
    rw [← e1, List.take_append_drop]
  refine ⟨Nat.le_refl _, ?_, fun k h1 h2 => by omega⟩
  have h2 := h.eq
  rw [e, splitOn1_hit _ _ (piece_free h)] at h2
  rw [← h2]
  simp
theorem Cutting.miss {L : List UInt8} {dn : List (List UInt8)} {f j : Nat} (h : Cutting L dn f j) (hj : L[j]? ≠ some 59) : Cutting L dn f (j + 1) :=
  ⟨by have := h.le; omega, h.eq, fun k h1 h2 => by
    by_cases e : k = j
    · subst e; exact hj
    · exact h.no k h1 (by omega)⟩
theorem Cutting.done {L : List UInt8} {dn : List (List UInt8)} {f : Nat} (h : Cutting L dn f L.length) : dn ++ [L.drop f] = splitOn1 59 L := by
  have h1 := piece_free h
  rw [List.take_of_length_le (by rw [List.length_drop]; omega)] at h1
  have h2 := h.eq
  rw [splitOn1_end _ h1] at h2
  exact h2
theorem extract_list (s : ByteArray) (f j : Nat) : (s.extract f j).data.toList = (s.data.toList.drop f).take (j - f) := by
  simp
def SplitLoop (s : ByteArray) (w : World) (v f i : Value) (wr : World) : Prop :=
  ∃ (dn : List (List UInt8)) (fn j : Nat), f = .int .i64 fn ∧ i = .int .i64 j ∧ dn.length ≤ j ∧ StrsAt w.heap.size wr v dn ∧ Below w.heap.size w wr ∧ ((j ≤ s.size ∧ Cutting s.data.toList dn fn j) ∨ (j = s.size + 1 ∧ dn = splitOn1 59 s.data.toList))
def SplitGives (s : ByteArray) (w : World) (e : Ending) (w' : World) : Prop := ∃ v, e = .returned v ∧ StrsAt w.heap.size w' v (splitOn1 59 s.data.toList) ∧ Below w.heap.size w w'
theorem strs_snoc {B : Nat} {W : World} {v : Value} {dn : List (List UInt8)} {x : List UInt8} {z : ByteArray} (hz : z.data.toList = x) (h : W.ownsRow B 9 1 v (dn.length + 1) ((dn.map fun x => Value.string ⟨x.toArray⟩) ++ [.string z])) : StrsAt B W v (dn ++ [x]) := by
  unfold StrsAt
  rw [List.length_append, List.map_append]
  have e : (⟨x.toArray⟩ : ByteArray) = z := by subst hz; rfl
  simp only [List.map_cons, List.map_nil, List.length_cons, List.length_nil, e]
  exact h
set_option maxHeartbeats 4000000 in
theorem r3split_walk (s : ByteArray) (hs : s.size < 1073741824) (w : World) :
    Calls Tryz.prog 200 #[.string s] w fun e w' => SplitGives s w e w' := by
  obtain ⟨i0, hi, hz0, hz1, hz2⟩ := info_parts infoStr
  have hls := ba_len s
  replace hls := hide hls
  go_enter Tryz.func200, Tryz.ntmps200
  go_wp2
  go_loopw [3, 4, 5] (fun v f i wr => SplitLoop s w v f i wr) (fun _ _ i _ => s.size + 1 - (intOf i).toNat)
  case atStart => exact ⟨[], 0, 0, rfl, rfl, Nat.le_refl _, StrsAt.nil _ _, Below.refl _ _, .inl ⟨Nat.zero_le _, ⟨Nat.le_refl _, rfl, fun k h1 h2 => by omega⟩⟩⟩
  case round =>
    obtain ⟨dn, fn, j, rfl, rfl, hdl, hown, hb, hst⟩ := hrel
    have hz := hb.size
    rcases hst with ⟨hj, hc⟩ | ⟨rfl, rfl⟩
    · by_cases hlt : j < s.size
      · have hfl := hc.le
        have e1 : ((j : Int) == (s.size : Int)) = false := by simp; omega
        by_cases h59 : s[j].toNat = 59
        · have hat : s.data.toList[j]? = some 59 := by
            rw [List.getElem?_eq_getElem (by rw [hls.out]; exact hlt)]
            congr 1
            exact UInt8.toNat_inj.1 h59
          have hcn := hide (hc.hit hat)
          have hx := extract_list s fn j
          replace hx := hide hx
          clear hat hc
          go_wp2_with (at_builtin; refine wpList_append_own _ rfl _ _ 44 rfl w.heap.size 9 i0 (.string ⟨#[]⟩) 1 16 Tryz.underlying44 hi hz0 hz1 hz2 rfl (by decide) _ _ _ rfl (World.ownsRow.alloc hown _) ⟨wr.heap.size, 0, none⟩ 1 1 [.string (s.extract fn j)] rfl rfl (new_one _ _ _) one_str ?c3 ?c4 ?c5 ?_)
          case c3 => unfold maxLen; omega
          case c4 => omega
          case c5 => rw [World.size_alloc]; omega
          intro v' w4 hown4 hgrow _
          have hb4 : Below w.heap.size w w4 := Below.grown (ext_alloc hb _) hgrow (by rw [World.size_alloc]; omega) (fun y hy => (World.ownsRow.lt hown y hy).1)
          have hO := strs_snoc hx.out hown4
          clear hown hown4 hb
          go_wp2
          go_roundw
          case rel => exact ⟨_, j + 1, j + 1, by go_num, by go_num, by rw [List.length_append]; simp; omega, hO, hb4, .inl ⟨by omega, hcn.out⟩⟩
          case measure => simp [intOf]; omega
        · have hat : s.data.toList[j]? ≠ some 59 := by
            rw [List.getElem?_eq_getElem (by rw [hls.out]; exact hlt)]
            intro e
            injection e with e
            exact h59 (by have : s[j] = 59 := e; rw [this]; rfl)
          have hcn := hide (hc.miss hat)
          obtain ⟨c, hcc⟩ : ∃ c, s[j].toNat = c := ⟨_, rfl⟩
          rw [hcc] at h59
          have e2 : ((c : Int) == 59) = false := by simp; omega
          clear hat hc h59
          go_wp2
          go_roundw
          case rel => exact ⟨dn, fn, j + 1, rfl, by go_num, by omega, hown, hb, .inl ⟨by omega, hcn.out⟩⟩
          case measure => simp [intOf]; omega
      · obtain rfl : j = s.size := by omega
        have hfl := hc.le
        have e1 : ((s.size : Int) == (s.size : Int)) = true := by simp
        have hd := hide (show dn ++ [(s.extract fn s.size).data.toList] = splitOn1 59 s.data.toList by
          rw [extract_list, List.take_of_length_le (by rw [List.length_drop, hls.out]; omega)]
          have hc' := hc
          rw [← hls.out] at hc'
          exact hc'.done)
        clear hc
        go_wp2_with (at_builtin; refine wpList_append_own _ rfl _ _ 44 rfl w.heap.size 9 i0 (.string ⟨#[]⟩) 1 16 Tryz.underlying44 hi hz0 hz1 hz2 rfl (by decide) _ _ _ rfl (World.ownsRow.alloc hown _) ⟨wr.heap.size, 0, none⟩ 1 1 [.string (s.extract fn s.size)] rfl rfl (new_one _ _ _) one_str ?c3 ?c4 ?c5 ?_)
        case c3 => unfold maxLen; omega
        case c4 => omega
        case c5 => rw [World.size_alloc]; omega
        intro v' w4 hown4 hgrow _
        have hb4 : Below w.heap.size w w4 := Below.grown (ext_alloc hb _) hgrow (by rw [World.size_alloc]; omega) (fun y hy => (World.ownsRow.lt hown y hy).1)
        have hO := strs_snoc rfl hown4
        rw [hd.out] at hO
        have hdl2 : (splitOn1 59 s.data.toList).length ≤ s.size + 1 := by rw [← hd.out, List.length_append]; simp; omega
        clear hown hown4 hb
        go_wp2
        go_roundw
        case rel => exact ⟨_, s.size + 1, s.size + 1, by go_num, by go_num, hdl2, hO, hb4, .inr ⟨rfl, rfl⟩⟩
        case measure => simp [intOf]
    · go_wp2
      go_ret
      exact ⟨_, rfl, hown, hb⟩
/-- The pieces, as they are told of strings.Split. -/
theorem parts_split {s : ByteArray} (h : s.size ≠ 0) : (partsOf s).map (·.data.toList) = splitOn1 59 s.data.toList := by
  unfold partsOf
  rw [if_neg h]
  exact splitB_one 59 s
theorem StrsAt.pieces {B : Nat} {W : World} {v : Value} {zs : List ByteArray} (h : StrsAt B W v (zs.map (·.data.toList))) : W.ownsRow B 9 1 v zs.length (zs.map Value.string) := by
  unfold StrsAt at h
  rw [List.length_map, List.map_map] at h
  exact h
def PartsOwn (B : Nat) (W : World) (v : Value) (zs : List ByteArray) : Prop := W.ownsRow B 9 1 v zs.length (zs.map Value.string)
def PartsG (s : ByteArray) (w : World) (e : Ending) (w' : World) : Prop := ∃ v, e = .returned v ∧ PartsOwn w.heap.size w' v (partsOf s) ∧ Below w.heap.size w w'
theorem r3parts_walk (s : ByteArray) (hs : s.size < 1073741824) (h0 : s.size ≠ 0) (w : World) :
    Calls Tryz.prog 159 #[.string s] w fun e w' => PartsG s w e w' := by
  have hcall := r3split_walk s hs w
  go_enter Tryz.func159, Tryz.ntmps159
  go_wp2_with fail
  refine hcall.mono ?_
  rintro e w1 ⟨v, rfl, hv, hb⟩
  rw [← parts_split h0] at hv
  go_wp2
  go_ret
  exact ⟨_, rfl, hv.pieces, hb⟩
end Go.Proofs.YtimcdikeajbabaaGreatDoor

namespace Go.Proofs.YtimcdikeajbabaaGreatDoor
set_option maxRecDepth 100000

/-- The text of a time, where it fits; the text of times. -/
def fmtB (d sl b m n : Int) (t : T4) : List UInt8 := (fmtT d sl b m n t.1 t.2.1 t.2.2.1 t.2.2.2).1
def timesL (d sl b m n : Int) (ts : List T4) : List UInt8 := Lib.join (ts.map (fmtB d sl b m n)) [59]
theorem fmtB_len (d sl b m n : Int) (t : T4) : (fmtB d sl b m n t).length ≤ 200 := by
  unfold fmtB fmtT
  by_cases h : fitsV d sl b m n t.1 t.2.1 t.2.2.1 t.2.2.2 = 0
  · rw [if_pos h]
    obtain ⟨-, hF⟩ := fits_parts h
    exact timeT_len (by have := hF.n2; omega)
  · rw [if_neg h]; exact Nat.zero_le _
theorem join_snoc59 (x : List UInt8) : ∀ (xs : List (List UInt8)), Lib.join (xs ++ [x]) [59] = if xs = [] then x else Lib.join xs [59] ++ 59 :: x
  | [] => by simp [Lib.join_one]
  | y :: r => by
    rw [if_neg (by simp), ← join_two (y :: r) [x] 59 (by simp) (by simp), Lib.join_one]
theorem lens59 (m : Nat) : ∀ (l : List (List UInt8)), (∀ x ∈ l, x.length ≤ m) → (Lib.join l [59]).length ≤ (m + 1) * l.length
  | [], _ => by simp [Lib.join_nil]
  | [x], h => by
    rw [Lib.join_one]
    have := h x (by simp)
    simp; omega
  | x :: y :: r, h => by
    have ih := lens59 m (y :: r) (fun z hz => h z (by simp [hz]))
    have h1 := h x (by simp)
    have : Lib.join (x :: y :: r) [59] = x ++ 59 :: Lib.join (y :: r) [59] := by simp [Lib.join, List.intercalate]
    rw [this]
    simp only [List.length_append, List.length_cons, Nat.mul_add] at ih ⊢
    omega
theorem timesL_len (d sl b m n : Int) (ts : List T4) : (timesL d sl b m n ts).length ≤ 201 * ts.length := by
  have := lens59 200 (ts.map (fmtB d sl b m n)) (fun x hx => by obtain ⟨t, -, rfl⟩ := List.mem_map.1 hx; exact fmtB_len d sl b m n t)
  rw [List.length_map] at this
  exact this
theorem timesL_snoc (d sl b m n : Int) (ts : List T4) (t : T4) : timesL d sl b m n (ts ++ [t]) = if ts = [] then fmtB d sl b m n t else timesL d sl b m n ts ++ 59 :: fmtB d sl b m n t := by
  unfold timesL
  rw [List.map_append, List.map_singleton, join_snoc59]
  by_cases h : ts = []
  · simp [h]
  · rw [if_neg (by simpa using h), if_neg h]
/-! What it is read as. -/
theorem dec2_no59 : ∀ k : Nat, k < 30 → 59 ∉ dec2 k := by decide +kernel
theorem dayB_no59 : ∀ k : Nat, k < 7 → 59 ∉ (dayB k).data.toList := by decide
theorem wordName_no59 : ∀ k : Nat, k < 5 → 59 ∉ wordName k := by decide
theorem runT_no59 {a b : Nat} (h2 : a < 30) (h4 : b < 30) : 59 ∉ runT (a, b) := by
  have ha := dec2_no59 a h2
  have hb := dec2_no59 b h4
  unfold runT
  split
  · exact ha
  · simp only [List.mem_append, List.mem_cons, not_or]
    exact ⟨ha, by decide, hb⟩
theorem formatL_no59 {s n : Nat} (hn : n ≤ 20) : 59 ∉ formatL s n := by
  unfold formatL
  refine join_notin 59 _ (by decide) (fun x hx => ?_)
  unfold itemsT at hx
  by_cases h : nameIdx s n < 5
  · rw [if_pos h] at hx
    obtain rfl := List.mem_singleton.1 hx
    exact wordName_no59 _ h
  · rw [if_neg h] at hx
    obtain ⟨⟨a, b⟩, hr, rfl⟩ := List.mem_map.1 hx
    have := (runs_facts s.testBit n _ 1 (Nat.le_refl _) (Nat.le_refl _)).1 _ hr
    dsimp only at this
    exact runT_no59 (by omega) (by omega)
theorem timeT_no59 {n a k p q : Nat} (hn : n ≤ 20) (hk : k < 7) (hpq : p + q ≤ 24) (hq : 1 ≤ q) : 59 ∉ timeT n a k p q := by
  have h1 := dayB_no59 k hk
  have h2 := dec2_no59 (p + 1) (by omega)
  have h3 := dec2_no59 (p + q) (by omega)
  have h4 := formatL_no59 (s := a) hn
  unfold timeT slotT
  split <;> split <;> simp only [List.mem_append, List.mem_cons, not_or, List.append_nil] <;> simp [h1, h2, h3, h4]
theorem timeT_ne (n a k p q : Nat) : timeT n a k p q ≠ [] := by unfold timeT; simp
theorem fmt_piece {d s b m n : Int} {t : T4} (h : fitsV d s b m n t.1 t.2.1 t.2.2.1 t.2.2.2 = 0) :
    59 ∉ fmtB d s b m n t ∧ fmtB d s b m n t ≠ [] ∧ pieceT d s b m n ⟨(fmtB d s b m n t).toArray⟩ = (t.1, t.2.1, t.2.2.1, t.2.2.2, 0) := by
  have hf : fmtB d s b m n t = timeT n.toNat t.1.toNat t.2.1.toNat t.2.2.1.toNat t.2.2.2.toNat := by unfold fmtB fmtT; rw [if_pos h]
  rw [hf]
  obtain ⟨hwk, hF⟩ := fits_parts h
  obtain ⟨x1, x2, x3, x4⟩ := t
  dsimp only at *
  obtain ⟨n1, n2, hv, w1, d1, d2, d3, s1, l1, s2, s3⟩ := hF
  obtain ⟨N, rfl⟩ := Int.eq_ofNat_of_zero_le (by omega : 0 ≤ n)
  obtain ⟨a, rfl⟩ := Int.eq_ofNat_of_zero_le (by omega : 0 ≤ x1)
  obtain ⟨k, rfl⟩ := Int.eq_ofNat_of_zero_le d1
  obtain ⟨p, rfl⟩ := Int.eq_ofNat_of_zero_le s1
  obtain ⟨q, rfl⟩ := Int.eq_ofNat_of_zero_le (by omega : 0 ≤ x4)
  simp only [Int.toNat_natCast]
  have ha := validB_iff.1 hv
  have haN : a < 2 ^ N := by
    have h3 := ha.2.2.2
    rw [Int.toNat_natCast] at h3
    exact_mod_cast h3
  exact ⟨timeT_no59 (by omega) (by omega) (by omega) (by omega), timeT_ne _ _ _ _ _, parse_time hwk (by omega) (by omega) (by omega) haN (by omega) d3 (by omega) (by omega) s3⟩
theorem join59_ne : ∀ (xs : List (List UInt8)), xs ≠ [] → (∀ x ∈ xs, x ≠ []) → Lib.join xs [59] ≠ []
  | [], h, _ => absurd rfl h
  | [x], _, h => by rw [Lib.join_one]; exact h x (by simp)
  | x :: y :: r, _, _ => by
    have : Lib.join (x :: y :: r) [59] = x ++ 59 :: Lib.join (y :: r) [59] := by simp [Lib.join, List.intercalate]
    rw [this]; simp
theorem parts_join (xs : List ByteArray) (h59 : ∀ x ∈ xs, 59 ∉ x.data.toList) (h0 : ∀ x ∈ xs, x.data.toList ≠ []) : partsOf ⟨(Lib.join (xs.map (·.data.toList)) [59]).toArray⟩ = xs := by
  by_cases hx : xs = []
  · subst hx; rfl
  · have hne : Lib.join (xs.map (·.data.toList)) [59] ≠ [] := join59_ne _ (by simpa using hx) (fun x hm => by obtain ⟨y, hy, rfl⟩ := List.mem_map.1 hm; exact h0 y hy)
    have hs : (⟨(Lib.join (xs.map (·.data.toList)) [59]).toArray⟩ : ByteArray).size ≠ 0 := by
      intro e
      exact hne (List.eq_nil_of_length_eq_zero (by simpa [ByteArray.size] using e))
    refine map_data_inj ?_
    unfold partsOf
    rw [if_neg hs, splitB_one]
    exact splitOn1_of_join 59 _ (by simpa using hx) (fun x hm => by obtain ⟨y, hy, rfl⟩ := List.mem_map.1 hm; exact h59 y hy)
theorem times_parts {d s b m n : Int} {ts : List T4} (h : ∀ t ∈ ts, fitsV d s b m n t.1 t.2.1 t.2.2.1 t.2.2.2 = 0) :
    partsOf ⟨(timesL d s b m n ts).toArray⟩ = ts.map fun t => ⟨(fmtB d s b m n t).toArray⟩ := by
  have := parts_join (ts.map fun t => ⟨(fmtB d s b m n t).toArray⟩) (fun x hx => by obtain ⟨t, ht, rfl⟩ := List.mem_map.1 hx; exact (fmt_piece (h t ht)).1) (fun x hx => by obtain ⟨t, ht, rfl⟩ := List.mem_map.1 hx; exact (fmt_piece (h t ht)).2.1)
  rw [List.map_map] at this
  exact this
theorem firstE_zero {f : ByteArray → Int} : ∀ {l : List ByteArray}, (∀ z ∈ l, f z = 0) → firstE f l = 0
  | [], _ => rfl
  | z :: r, h => by rw [firstE, if_pos (h z (by simp))]; exact firstE_zero fun y hy => h y (by simp [hy])
/-- Times that fit are read as they were written. -/
theorem times_back {d s b m n : Int} {ts : List T4} (h : ∀ t ∈ ts, fitsV d s b m n t.1 t.2.1 t.2.2.1 t.2.2.2 = 0) (hl : ts.length ≤ 24) :
    (partsOf ⟨(timesL d s b m n ts).toArray⟩).map (pieceV d s b m n) = ts ∧ timesE d s b m n (partsOf ⟨(timesL d s b m n ts).toArray⟩) = 0 := by
  rw [times_parts h]
  constructor
  · rw [List.map_map]
    refine (List.map_congr_left (g := id) fun t ht => ?_).trans (List.map_id ts)
    have := (fmt_piece (h t ht)).2.2
    show pieceV d s b m n ⟨(fmtB d s b m n t).toArray⟩ = t
    unfold pieceV
    rw [this]
  · have h0 : firstE (pieceE d s b m n) (ts.map fun t => ⟨(fmtB d s b m n t).toArray⟩) = 0 := firstE_zero fun z hz => by
      obtain ⟨t, ht, rfl⟩ := List.mem_map.1 hz
      unfold pieceE
      rw [(fmt_piece (h t ht)).2.2]
    unfold timesE
    rw [if_pos h0, List.length_map, if_neg (by omega)]
end Go.Proofs.YtimcdikeajbabaaGreatDoor
