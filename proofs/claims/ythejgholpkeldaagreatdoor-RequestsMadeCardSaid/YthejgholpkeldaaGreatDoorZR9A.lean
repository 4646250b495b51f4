/- Walks of timetableref07.SameTimes, timetableref02.SameProblems, timetableref09.Same, where both hold the same. Conditions: the cells. Walks of timetableref03.split and Parts. Condition: texts shorter than 2^30 bytes. -/
import Derived.Test.YthejgholpkeldaaGreatDoorRows
import Derived.WalkKit
import Derived.WalkSpells
import Derived.WalkLawsBesides
import Derived.BigGuardPart
import Derived.Lib.Hide
import Derived.Laws.BitsAllLaws
import Derived.Laws.BitsLemmas
import Derived.Lib.LaidTab
import Derived.Test.YthejgholpkeldaaGreatDoorShelf
import Derived.Lib.ConvBytes
import Derived.Deep.QuietTactic
import Derived.BigQuiet
import Derived.Laws.ResultCell
import Derived.RegionTactic
import Derived.BigRegion
import Derived.Deep.RegionHeld3
import Derived.Deep.DeepCutAuto
import Derived.Lib.SmallJoins
import Derived.Lib.SplitLaws
import Derived.Lib.CountLaws
import Derived.Lib.IndexMore
import Derived.Lib.Split
import Derived.Lib.Join
import Derived.Lib.ItoaNum
import Derived.Laws.AppendOwn
import Derived.Deep.AppendLies
import Derived.Test.YthejgholpkeldaaGreatDoorZPlainA
import Derived.Test.YthejgholpkeldaaGreatDoorZSameL
import Derived.Test.YthejgholpkeldaaGreatDoorZWsF
namespace Go.Proofs.YthejgholpkeldaaGreatDoor
open Go.RowKit
set_option maxRecDepth 100000

theorem own_len {w : World} {B k n : Nat} {e : TypeId} {v : Value} {xs : List Value} (h : w.ownsRow B e k v n xs) : n ≤ 9223372036854775807 := by
  rcases h.2 with ⟨_, h0⟩ | ⟨_, cap, _, _, _, _, h1, h2, _⟩
  · omega
  · unfold maxLen at h2; omega
set_option maxHeartbeats 4000000 in
theorem r2SameP_walk (A A' : Option Addr) (n c c' : Nat) (X : Nat → Prob) (w : World) (hn : n ≤ 9223372036854775807) (h1 : CellsAt w.heap.size w A 4 n fun j => encP (X j)) (h2 : CellsAt w.heap.size w A' 4 n fun j => encP (X j)) :
    Calls Tryz.prog 34 #[.slice A n c, .slice A' n c'] w fun e w' => e = .returned (.bool true) ∧ Below w.heap.size w w' := by
  go_enter Tryz.func34, Tryz.ntmps34
  go_wp2
  go_loopw [5] (fun i wr => ∃ j : Nat, j ≤ n ∧ i = .int .i64 j ∧ Below w.heap.size w wr) (fun i _ => n - (intOf i).toNat)
  case atStart => exact ⟨0, Nat.zero_le _, rfl, Below.refl _ _⟩
  case round =>
    obtain ⟨j, hj, rfl, hb⟩ := hrel
    by_cases hlt : j < n
    · obtain ⟨b1, o1, rfl, hb1, k1⟩ := (h1.below hb) (by omega)
      obtain ⟨b2, o2, rfl, hb2, k2⟩ := (h2.below hb) (by omega)
      have a0 := k1 j hlt 0 _ rfl
      have a1 := k1 j hlt 1 _ rfl
      have a2 := k1 j hlt 2 _ rfl
      have a3 := k1 j hlt 3 _ rfl
      have e0 := k2 j hlt 0 _ rfl
      have e1 := k2 j hlt 1 _ rfl
      have e2 := k2 j hlt 2 _ rfl
      have e3 := k2 j hlt 3 _ rfl
      obtain ⟨⟨x1, x2, x3⟩, hX⟩ : ∃ q, X j = q := ⟨_, rfl⟩
      rw [hX] at a1 a2 a3 e1 e2 e3
      rw [Nat.add_zero] at a0 e0
      have hz := hb.size
      have hb1r : b1 < wr.heap.size := by omega
      have hb2r : b2 < wr.heap.size := by omega
      have hj0 : (0 : Int) ≤ (j : Int) := by omega
      have hj1 : (j : Int) < (n : Int) := by omega
      clear k1 k2 h1 h2 hX
      go_wp2_with fail
      go_region
      all_goals
        go_wp2
        go_roundw
        case rel => exact ⟨j + 1, by omega, by go_num, by first | exact ext_drew hb | exact hb⟩
        case measure => simp [intOf]; omega
    · obtain rfl : j = n := by omega
      go_wp2
      go_ret
      exact ⟨rfl, hb⟩
theorem probs_cells {B q c : Nat} {w : World} {A : Option Addr} {ps : List Prob} (h : ProbsOwn B w (.slice A q c) ps) : CellsAt w.heap.size w A 4 ps.length fun j => encP (ps.getD j (0, 0, 0)) := by
  intro hn
  obtain ⟨g, e, hg, hc⟩ := own_at h hn
  refine ⟨g, 0, e, hg, fun j hj i u hu => ?_⟩
  have hx : ps[j]? = some (ps.getD j (0, 0, 0)) := by rw [List.getD_eq_getElem?_getD, List.getElem?_eq_getElem hj]; rfl
  have hi : i < 4 := by
    have := (List.getElem?_eq_some_iff.1 hu).1
    simpa [encP] using this
  rw [Nat.zero_add]
  exact hc _ u ((flat_at encP 4 (fun _ => rfl) ps j i _ hx hi).trans hu)
theorem probs_same (B C : Nat) (v v' : Value) (ps : List Prob) (w : World) (h1 : ProbsOwn B w v ps) (h2 : ProbsOwn C w v' ps) :
    Calls Tryz.prog 34 #[v, v'] w fun e w' => e = .returned (.bool true) ∧ Below w.heap.size w w' := by
  obtain ⟨A, c, rfl⟩ := owns_form h1
  obtain ⟨A', c', rfl⟩ := owns_form h2
  exact r2SameP_walk A A' ps.length c c' _ w (own_len h1) (probs_cells h1) (probs_cells h2)
end Go.Proofs.YthejgholpkeldaaGreatDoor

namespace Go.Proofs.YthejgholpkeldaaGreatDoor
open Go.RowKit
set_option maxRecDepth 100000

theorem splitOn1_hit {c : UInt8} : ∀ (a b : List UInt8), c ∉ a → splitOn1 c (a ++ c :: b) = a :: splitOn1 c b
  | [], b, _ => by simp [splitOn1]
  | x :: a, b, h => by
    have hx : ¬ x = c := fun e => h (by simp [e])
    have ha : c ∉ a := fun e => h (by simp [e])
    simp only [List.cons_append, splitOn1, if_neg hx]
    rw [splitOn1_hit a b ha]
theorem splitOn1_end {c : UInt8} : ∀ (a : List UInt8), c ∉ a → splitOn1 c a = [a]
  | [], _ => rfl
  | x :: a, h => by
    have hx : ¬ x = c := fun e => h (by simp [e])
    have ha : c ∉ a := fun e => h (by simp [e])
    simp only [splitOn1, if_neg hx]
    rw [splitOn1_end a ha]
/-- Where the splitting of a text stands: what is cut off, from where it goes on, how far it has looked. -/
structure Cutting (L : List UInt8) (dn : List (List UInt8)) (f j : Nat) : Prop where
  le : f ≤ j
  eq : dn ++ splitOn1 59 (L.drop f) = splitOn1 59 L
  no : ∀ k, f ≤ k → k < j → L[k]? ≠ some 59
theorem piece_free {L : List UInt8} {dn : List (List UInt8)} {f j : Nat} (h : Cutting L dn f j) : (59 : UInt8) ∉ (L.drop f).take (j - f) := by
  intro hm
  obtain ⟨i, hi⟩ := List.getElem?_of_mem hm
  rw [List.getElem?_take] at hi
  split at hi
  · rw [List.getElem?_drop] at hi
    exact h.no (f + i) (by omega) (by omega) hi
  · cases hi
theorem Cutting.hit {L : List UInt8} {dn : List (List UInt8)} {f j : Nat} (h : Cutting L dn f j) (hj : L[j]? = some 59) : Cutting L (dn ++ [(L.drop f).take (j - f)]) (j + 1) (j + 1) := by
  have hl := (List.getElem?_eq_some_iff.1 hj).1
  have e : L.drop f = (L.drop f).take (j - f) ++ 59 :: L.drop (j + 1) := by
    have e1 : (L.drop f).drop (j - f) = 59 :: L.drop (j + 1) := by
      rw [List.drop_drop, show f + (j - f) = j from by have := h.le; omega, List.drop_eq_getElem_cons hl]
      congr 1
      have := List.getElem?_eq_getElem hl
      rw [this] at hj
      exact Option.some.inj hj
    rw [← e1, List.take_append_drop]
  refine ⟨Nat.le_refl _, ?_, fun k h1 h2 => by omega⟩
  have h2 := h.eq
  rw [e, splitOn1_hit _ _ (piece_free h)] at h2
  rw [← h2]
  simp
theorem Cutting.miss {L : List UInt8} {dn : List (List UInt8)} {f j : Nat} (h : Cutting L dn f j) (hj : L[j]? ≠ some 59) : Cutting L dn f (j + 1) :=
  ⟨by have := h.le; omega, h.eq, fun k h1 h2 => by
    by_cases e : k = j
    · subst e; exact hj
    · exact h.no k h1 (by omega)⟩
theorem Cutting.done {L : List UInt8} {dn : List (List UInt8)} {f : Nat} (h : Cutting L dn f L.length) : dn ++ [L.drop f] = splitOn1 59 L := by
  have h1 := piece_free h
  rw [List.take_of_length_le (by rw [List.length_drop]; omega)] at h1
  have h2 := h.eq
  rw [splitOn1_end _ h1] at h2
  exact h2
theorem extract_list (s : ByteArray) (f j : Nat) : (s.extract f j).data.toList = (s.data.toList.drop f).take (j - f) := by
  simp
def SplitLoop (s : ByteArray) (w : World) (v f i : Value) (wr : World) : Prop :=
  ∃ (dn : List (List UInt8)) (fn j : Nat), f = .int .i64 fn ∧ i = .int .i64 j ∧ dn.length ≤ j ∧ StrsAt w.heap.size wr v dn ∧ Below w.heap.size w wr ∧ ((j ≤ s.size ∧ Cutting s.data.toList dn fn j) ∨ (j = s.size + 1 ∧ dn = splitOn1 59 s.data.toList))
def SplitGives (s : ByteArray) (w : World) (e : Ending) (w' : World) : Prop := ∃ v, e = .returned v ∧ StrsAt w.heap.size w' v (splitOn1 59 s.data.toList) ∧ Below w.heap.size w w'
theorem strs_snoc {B : Nat} {W : World} {v : Value} {dn : List (List UInt8)} {x : List UInt8} {z : ByteArray} (hz : z.data.toList = x) (h : W.ownsRow B 9 1 v (dn.length + 1) ((dn.map fun x => Value.string ⟨x.toArray⟩) ++ [.string z])) : StrsAt B W v (dn ++ [x]) := by
  unfold StrsAt
  rw [List.length_append, List.map_append]
  have e : (⟨x.toArray⟩ : ByteArray) = z := by subst hz; rfl
  simp only [List.map_cons, List.map_nil, List.length_cons, List.length_nil, e]
  exact h
set_option maxHeartbeats 4000000 in
theorem r3split_walk (s : ByteArray) (hs : s.size < 1073741824) (w : World) :
    Calls Tryz.prog 166 #[.string s] w fun e w' => SplitGives s w e w' := by
  obtain ⟨i0, hi, hz0, hz1, hz2⟩ := info_parts infoStr
  have hls := ba_len s
  replace hls := hide hls
  go_enter Tryz.func166, Tryz.ntmps166
  go_wp2
  go_loopw [3, 4, 5] (fun v f i wr => SplitLoop s w v f i wr) (fun _ _ i _ => s.size + 1 - (intOf i).toNat)
  case atStart => exact ⟨[], 0, 0, rfl, rfl, Nat.le_refl _, StrsAt.nil _ _, Below.refl _ _, .inl ⟨Nat.zero_le _, ⟨Nat.le_refl _, rfl, fun k h1 h2 => by omega⟩⟩⟩
  case round =>
    obtain ⟨dn, fn, j, rfl, rfl, hdl, hown, hb, hst⟩ := hrel
    have hz := hb.size
    rcases hst with ⟨hj, hc⟩ | ⟨rfl, rfl⟩
    · by_cases hlt : j < s.size
      · have hfl := hc.le
        have e1 : ((j : Int) == (s.size : Int)) = false := by simp; omega
        by_cases h59 : s[j].toNat = 59
        · have hat : s.data.toList[j]? = some 59 := by
            rw [List.getElem?_eq_getElem (by rw [hls.out]; exact hlt)]
            congr 1
            exact UInt8.toNat_inj.1 h59
          have hcn := hide (hc.hit hat)
          have hx := extract_list s fn j
          replace hx := hide hx
          clear hat hc
          go_wp2_with (at_builtin; refine wpList_append_own _ rfl _ _ 41 rfl w.heap.size 9 i0 (.string ⟨#[]⟩) 1 16 Tryz.underlying41 hi hz0 hz1 hz2 rfl (by decide) _ _ _ rfl (World.ownsRow.alloc hown _) ⟨wr.heap.size, 0, none⟩ 1 1 [.string (s.extract fn j)] rfl rfl (new_one _ _ _) one_str ?c3 ?c4 ?c5 ?_)
          case c3 => unfold maxLen; omega
          case c4 => omega
          case c5 => rw [World.size_alloc]; omega
          intro v' w4 hown4 hgrow _
          have hb4 : Below w.heap.size w w4 := Below.grown (ext_alloc hb _) hgrow (by rw [World.size_alloc]; omega) (fun y hy => (World.ownsRow.lt hown y hy).1)
          have hO := strs_snoc hx.out hown4
          clear hown hown4 hb
          go_wp2
          go_roundw
          case rel => exact ⟨_, j + 1, j + 1, by go_num, by go_num, by rw [List.length_append]; simp; omega, hO, hb4, .inl ⟨by omega, hcn.out⟩⟩
          case measure => simp [intOf]; omega
        · have hat : s.data.toList[j]? ≠ some 59 := by
            rw [List.getElem?_eq_getElem (by rw [hls.out]; exact hlt)]
            intro e
            injection e with e
            exact h59 (by have : s[j] = 59 := e; rw [this]; rfl)
          have hcn := hide (hc.miss hat)
          obtain ⟨c, hcc⟩ : ∃ c, s[j].toNat = c := ⟨_, rfl⟩
          rw [hcc] at h59
          have e2 : ((c : Int) == 59) = false := by simp; omega
          clear hat hc h59
          go_wp2
          go_roundw
          case rel => exact ⟨dn, fn, j + 1, rfl, by go_num, by omega, hown, hb, .inl ⟨by omega, hcn.out⟩⟩
          case measure => simp [intOf]; omega
      · obtain rfl : j = s.size := by omega
        have hfl := hc.le
        have e1 : ((s.size : Int) == (s.size : Int)) = true := by simp
        have hd := hide (show dn ++ [(s.extract fn s.size).data.toList] = splitOn1 59 s.data.toList by
          rw [extract_list, List.take_of_length_le (by rw [List.length_drop, hls.out]; omega)]
          have hc' := hc
          rw [← hls.out] at hc'
          exact hc'.done)
        clear hc
        go_wp2_with (at_builtin; refine wpList_append_own _ rfl _ _ 41 rfl w.heap.size 9 i0 (.string ⟨#[]⟩) 1 16 Tryz.underlying41 hi hz0 hz1 hz2 rfl (by decide) _ _ _ rfl (World.ownsRow.alloc hown _) ⟨wr.heap.size, 0, none⟩ 1 1 [.string (s.extract fn s.size)] rfl rfl (new_one _ _ _) one_str ?c3 ?c4 ?c5 ?_)
        case c3 => unfold maxLen; omega
        case c4 => omega
        case c5 => rw [World.size_alloc]; omega
        intro v' w4 hown4 hgrow _
        have hb4 : Below w.heap.size w w4 := Below.grown (ext_alloc hb _) hgrow (by rw [World.size_alloc]; omega) (fun y hy => (World.ownsRow.lt hown y hy).1)
        have hO := strs_snoc rfl hown4
        rw [hd.out] at hO
        have hdl2 : (splitOn1 59 s.data.toList).length ≤ s.size + 1 := by rw [← hd.out, List.length_append]; simp; omega
        clear hown hown4 hb
        go_wp2
        go_roundw
        case rel => exact ⟨_, s.size + 1, s.size + 1, by go_num, by go_num, hdl2, hO, hb4, .inr ⟨rfl, rfl⟩⟩
        case measure => simp [intOf]
    · go_wp2
      go_ret
      exact ⟨_, rfl, hown, hb⟩
/-- The pieces, as they are told of strings.Split. -/
theorem parts_split {s : ByteArray} (h : s.size ≠ 0) : (partsOf s).map (·.data.toList) = splitOn1 59 s.data.toList := by
  unfold partsOf
  rw [if_neg h]
  exact splitB_one 59 s
end Go.Proofs.YthejgholpkeldaaGreatDoor
