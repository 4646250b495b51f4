/- Walks of timetableref03.split and Parts. Condition: texts shorter than 2^30 bytes. -/
import Derived.Test.YtdnnahdafhddlaaGreatDoorURrV
namespace Go.Proofs.YtdnnahdafhddlaaGreatDoor
open Go.RowKit
set_option maxRecDepth 100000

theorem splitOn1_hit {c : UInt8} : ∀ (a b : List UInt8), c ∉ a → splitOn1 c (a ++ c :: b) = a :: splitOn1 c b
  | [], b, _ => by simp [splitOn1]
  | x :: a, b, h => by
    have hx : ¬ x = c := fun e => h (by simp [e])
    have ha : c ∉ a := fun e => h (by simp [e])
    simp only [List.cons_append, splitOn1, if_neg hx]
    rw [splitOn1_hit a b ha]
theorem splitOn1_end {c : UInt8} : ∀ (a : List UInt8), c ∉ a → splitOn1 c a = [a]
  | [], _ => rfl
  | x :: a, h => by
    have hx : ¬ x = c := fun e => h (by simp [e])
    have ha : c ∉ a := fun e => h (by simp [e])
    simp only [splitOn1, if_neg hx]
    rw [splitOn1_end a ha]
/-- Where the splitting of a text stands: what is cut off, from where it goes on, how far it has looked. -/
structure Cutting (L : List UInt8) (dn : List (List UInt8)) (f j : Nat) : Prop where
  le : f ≤ j
  eq : dn ++ splitOn1 59 (L.drop f) = splitOn1 59 L
  no : ∀ k, f ≤ k → k < j → L[k]? ≠ some 59
theorem piece_free {L : List UInt8} {dn : List (List UInt8)} {f j : Nat} (h : Cutting L dn f j) : (59 : UInt8) ∉ (L.drop f).take (j - f) := by
  intro hm
  obtain ⟨i, hi⟩ := List.getElem?_of_mem hm
  rw [List.getElem?_take] at hi
  split at hi
  · rw [List.getElem?_drop] at hi
    exact h.no (f + i) (by omega) (by omega) hi
  · cases hi
theorem Cutting.hit {L : List UInt8} {dn : List (List UInt8)} {f j : Nat} (h : Cutting L dn f j) (hj : L[j]? = some 59) : Cutting L (dn ++ [(L.drop f).take (j - f)]) (j + 1) (j + 1) := by
  have hl := (List.getElem?_eq_some_iff.1 hj).1
  have e : L.drop f = (L.drop f).take (j - f) ++ 59 :: L.drop (j + 1) := by
    have e1 : (L.drop f).drop (j - f) = 59 :: L.drop (j + 1) := by
      rw [List.drop_drop, show f + (j - f) = j from by have := h.le; omega, List.drop_eq_getElem_cons hl]
      congr 1
      have := List.getElem?_eq_getElem hl
      rw [this] at hj
      exact Option.some.inj hj
    rw [← e1, List.take_append_drop]
  refine ⟨Nat.le_refl _, ?_, fun k h1 h2 => by omega⟩
  have h2 := h.eq
  rw [e, splitOn1_hit _ _ (piece_free h)] at h2
  rw [← h2]
  simp
theorem Cutting.miss {L : List UInt8} {dn : List (List UInt8)} {f j : Nat} (h : Cutting L dn f j) (hj : L[j]? ≠ some 59) : Cutting L dn f (j + 1) :=
  ⟨by have := h.le; omega, h.eq, fun k h1 h2 => by
    by_cases e : k = j
    · subst e; exact hj
    · exact h.no k h1 (by omega)⟩
theorem Cutting.done {L : List UInt8} {dn : List (List UInt8)} {f : Nat} (h : Cutting L dn f L.length) : dn ++ [L.drop f] = splitOn1 59 L := by
  have h1 := piece_free h
  rw [List.take_of_length_le (by rw [List.length_drop]; omega)] at h1
  have h2 := h.eq
  rw [splitOn1_end _ h1] at h2
  exact h2
theorem extract_list (s : ByteArray) (f j : Nat) : (s.extract f j).data.toList = (s.data.toList.drop f).take (j - f) := by
  simp
def SplitLoop (s : ByteArray) (w : World) (v f i : Value) (wr : World) : Prop :=
  ∃ (dn : List (List UInt8)) (fn j : Nat), f = .int .i64 fn ∧ i = .int .i64 j ∧ dn.length ≤ j ∧ StrsAt w.heap.size wr v dn ∧ Below w.heap.size w wr ∧ ((j ≤ s.size ∧ Cutting s.data.toList dn fn j) ∨ (j = s.size + 1 ∧ dn = splitOn1 59 s.data.toList))
def SplitGives (s : ByteArray) (w : World) (e : Ending) (w' : World) : Prop := ∃ v, e = .returned v ∧ StrsAt w.heap.size w' v (splitOn1 59 s.data.toList) ∧ Below w.heap.size w w'
theorem strs_snoc {B : Nat} {W : World} {v : Value} {dn : List (List UInt8)} {x : List UInt8} {z : ByteArray} (hz : z.data.toList = x) (h : W.ownsRow B 9 1 v (dn.length + 1) ((dn.map fun x => Value.string ⟨x.toArray⟩) ++ [.string z])) : StrsAt B W v (dn ++ [x]) := by
  unfold StrsAt
  rw [List.length_append, List.map_append]
  have e : (⟨x.toArray⟩ : ByteArray) = z := by subst hz; rfl
  simp only [List.map_cons, List.map_nil, List.length_cons, List.length_nil, e]
  exact h
set_option maxHeartbeats 4000000 in
theorem r3split_walk (s : ByteArray) (hs : s.size < 1073741824) (w : World) :
    Calls Tryz.prog 158 #[.string s] w fun e w' => SplitGives s w e w' := by
  obtain ⟨i0, hi, hz0, hz1, hz2⟩ := info_parts infoStr
  have hls := ba_len s
  replace hls := hide hls
  go_enter Tryz.func158, Tryz.ntmps158
  go_wp2
  go_loopw [3, 4, 5] (fun v f i wr => SplitLoop s w v f i wr) (fun _ _ i _ => s.size + 1 - (intOf i).toNat)
  case atStart => exact ⟨[], 0, 0, rfl, rfl, Nat.le_refl _, StrsAt.nil _ _, Below.refl _ _, .inl ⟨Nat.zero_le _, ⟨Nat.le_refl _, rfl, fun k h1 h2 => by omega⟩⟩⟩
  case round =>
    obtain ⟨dn, fn, j, rfl, rfl, hdl, hown, hb, hst⟩ := hrel
    have hz := hb.size
    rcases hst with ⟨hj, hc⟩ | ⟨rfl, rfl⟩
    · by_cases hlt : j < s.size
      · have hfl := hc.le
        have e1 : ((j : Int) == (s.size : Int)) = false := by simp; omega
        by_cases h59 : s[j].toNat = 59
        · have hat : s.data.toList[j]? = some 59 := by
            rw [List.getElem?_eq_getElem (by rw [hls.out]; exact hlt)]
            congr 1
            exact UInt8.toNat_inj.1 h59
          have hcn := hide (hc.hit hat)
          have hx := extract_list s fn j
          replace hx := hide hx
          clear hat hc
          go_wp2_with (at_builtin; refine wpList_append_own _ rfl _ _ 35 rfl w.heap.size 9 i0 (.string ⟨#[]⟩) 1 16 Tryz.underlying35 hi hz0 hz1 hz2 rfl (by decide) _ _ _ rfl (World.ownsRow.alloc hown _) ⟨wr.heap.size, 0, none⟩ 1 1 [.string (s.extract fn j)] rfl rfl (new_one _ _ _) one_str ?c3 ?c4 ?c5 ?_)
          case c3 => unfold maxLen; omega
          case c4 => omega
          case c5 => rw [World.size_alloc]; omega
          intro v' w4 hown4 hgrow _
          have hb4 : Below w.heap.size w w4 := Below.grown (ext_alloc hb _) hgrow (by rw [World.size_alloc]; omega) (fun y hy => (World.ownsRow.lt hown y hy).1)
          have hO := strs_snoc hx.out hown4
          clear hown hown4 hb
          go_wp2
          go_roundw
          case rel => exact ⟨_, j + 1, j + 1, by go_num, by go_num, by rw [List.length_append]; simp; omega, hO, hb4, .inl ⟨by omega, hcn.out⟩⟩
          case measure => simp [intOf]; omega
        · have hat : s.data.toList[j]? ≠ some 59 := by
            rw [List.getElem?_eq_getElem (by rw [hls.out]; exact hlt)]
            intro e
            injection e with e
            exact h59 (by have : s[j] = 59 := e; rw [this]; rfl)
          have hcn := hide (hc.miss hat)
          obtain ⟨c, hcc⟩ : ∃ c, s[j].toNat = c := ⟨_, rfl⟩
          rw [hcc] at h59
          have e2 : ((c : Int) == 59) = false := by simp; omega
          clear hat hc h59
          go_wp2
          go_roundw
          case rel => exact ⟨dn, fn, j + 1, rfl, by go_num, by omega, hown, hb, .inl ⟨by omega, hcn.out⟩⟩
          case measure => simp [intOf]; omega
      · obtain rfl : j = s.size := by omega
        have hfl := hc.le
        have e1 : ((s.size : Int) == (s.size : Int)) = true := by simp
        have hd := hide (show dn ++ [(s.extract fn s.size).data.toList] = splitOn1 59 s.data.toList by
          rw [extract_list, List.take_of_length_le (by rw [List.length_drop, hls.out]; omega)]
          have hc' := hc
          rw [← hls.out] at hc'
          exact hc'.done)
        clear hc
        go_wp2_with (at_builtin; refine wpList_append_own _ rfl _ _ 35 rfl w.heap.size 9 i0 (.string ⟨#[]⟩) 1 16 Tryz.underlying35 hi hz0 hz1 hz2 rfl (by decide) _ _ _ rfl (World.ownsRow.alloc hown _) ⟨wr.heap.size, 0, none⟩ 1 1 [.string (s.extract fn s.size)] rfl rfl (new_one _ _ _) one_str ?c3 ?c4 ?c5 ?_)
        case c3 => unfold maxLen; omega
        case c4 => omega
        case c5 => rw [World.size_alloc]; omega
        intro v' w4 hown4 hgrow _
        have hb4 : Below w.heap.size w w4 := Below.grown (ext_alloc hb _) hgrow (by rw [World.size_alloc]; omega) (fun y hy => (World.ownsRow.lt hown y hy).1)
        have hO := strs_snoc rfl hown4
        rw [hd.out] at hO
        have hdl2 : (splitOn1 59 s.data.toList).length ≤ s.size + 1 := by rw [← hd.out, List.length_append]; simp; omega
        clear hown hown4 hb
        go_wp2
        go_roundw
        case rel => exact ⟨_, s.size + 1, s.size + 1, by go_num, by go_num, hdl2, hO, hb4, .inr ⟨rfl, rfl⟩⟩
        case measure => simp [intOf]
    · go_wp2
      go_ret
      exact ⟨_, rfl, hown, hb⟩
/-- The pieces, as they are told of strings.Split. -/
theorem parts_split {s : ByteArray} (h : s.size ≠ 0) : (partsOf s).map (·.data.toList) = splitOn1 59 s.data.toList := by
  unfold partsOf
  rw [if_neg h]
  exact splitB_one 59 s
end Go.Proofs.YtdnnahdafhddlaaGreatDoor
