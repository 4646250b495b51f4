/- Walks of codes.parts and timetableref03.tail: a code's last number. Conditions: at most 18 bytes; what the program's variables hold. Walk of codes.written. Conditions: the number is an int, the texts are short; what the program's variables hold. Plain: what a list of codes says. No condition. Walk of codes.between. Conditions: room for at most 64 codes; what the program's variables hold. Walk of codes.repeated. Condition: at most a million strings. Walk of codes.List. Conditions: a text shorter than 2^30 bytes; what the program's variables hold. -/
import Derived.Test.YtdnnahdafhddlaaGreatDoorYCmpB
import Derived.Lib.ItoaLen
import Derived.Lib.AppendIntMem
import Derived.Test.YtdnnahdafhddlaaGreatDoorYDigT
import Derived.Lib.OwnBridge
import Derived.Test.YtdnnahdafhddlaaGreatDoorYIdxS
namespace Go.Proofs.YtdnnahdafhddlaaGreatDoor
open Go.RowKit
set_option maxRecDepth 100000

/-- Where the last number begins, looked for from place n down. -/
def tlN (s : ByteArray) : Nat → Nat
  | 0 => 0
  | n + 1 => if dgAt s n = true then tlN s n else n + 1
def tailAt (s : ByteArray) : Nat := tlN s s.size
theorem tlN_le (s : ByteArray) : ∀ n, tlN s n ≤ n
  | 0 => Nat.le_refl _
  | n + 1 => by unfold tlN; split; exact Nat.le_succ_of_le (tlN_le s n); exact Nat.le_refl _
theorem tlN_digs (s : ByteArray) : ∀ n j, tlN s n ≤ j → j < n → dgAt s j = true
  | 0, j, _, h => by omega
  | n + 1, j, h1, h2 => by
    unfold tlN at h1
    split at h1
    · rename_i hd
      by_cases e : j = n
      · rw [e]; exact hd
      · exact tlN_digs s n j h1 (by omega)
    · omega
theorem tail_le (s : ByteArray) : tailAt s ≤ s.size := tlN_le s s.size
def TailEnd (s : ByteArray) (w : World) (e : Ending) (w' : World) : Prop :=
  ∃ X Y : ByteArray, e = .returned (.tuple #[.string X, .string Y]) ∧ X.data.toList = s.data.toList.take (tailAt s) ∧ Y.data.toList = s.data.toList.drop (tailAt s) ∧ Below w.heap.size w w'
set_option maxHeartbeats 4000000 in
theorem r3tail_walk (s : ByteArray) (w : World) (hs : s.size ≤ 9223372036854775807) :
    Calls Tryz.prog 84 #[.string s] w fun e w' => TailEnd s w e w' := by
  have hfin : Hid (∀ e w', TailEnd s w e w' = (∃ X Y : ByteArray, e = .returned (.tuple #[.string X, .string Y]) ∧ X.data.toList = s.data.toList.take (tailAt s) ∧ Y.data.toList = s.data.toList.drop (tailAt s) ∧ Below w.heap.size w w')) := hide fun _ _ => rfl
  have hle := tail_le s
  obtain ⟨T, hT⟩ : ∃ T, tailAt s = T := ⟨_, rfl⟩
  rw [hT] at hfin hle
  go_enter Tryz.func84, Tryz.ntmps84
  go_wp2
  go_loopw [4] (fun i wr => ∃ k : Nat, k ≤ s.size ∧ i = .int .i64 k ∧ tlN s k = T ∧ Below w.heap.size w wr) (fun i _ => (intOf i).toNat)
  case atStart => exact ⟨s.size, Nat.le_refl _, rfl, hT, Below.refl _ _⟩
  case round =>
    obtain ⟨k, hk, rfl, hTk, hb⟩ := hrel
    have hk0 : (0 : Int) ≤ (k : Int) := by omega
    have hks : (k : Int) ≤ (s.size : Int) := by omega
    cases k with
    | zero =>
      obtain rfl : 0 = T := hTk
      clear hT
      go_upto_region 4 with fail
      go_region
      all_goals
        go_wp2
        go_ret2
        rw [hfin.out]
        exact ⟨_, _, rfl, by simp, by simp, by first | exact hb | exact ext_drew hb⟩
    | succ j =>
      have hj : j < s.size := by omega
      have hA := dgAt_of hj
      have hji : (j : Int) < (s.size : Int) := by omega
      have hw1 : IntKind.i64.wrap ((j : Int) + 1 - 1) = (j : Int) := by rw [IntKind.wrap_i64]; omega
      have hj0 : (0 : Int) ≤ (j : Int) := by omega
      rw [tlN] at hTk
      rw [show ((j + 1 : Nat) : Int) = (j : Int) + 1 from rfl]
      cases hd : dgAt s j with
      | true =>
        rw [hd] at hA
        rw [hd, if_pos rfl] at hTk
        have d1 := hide (fun w => r3digN_at hA w)
        replace hTk := hide hTk
        clear hd hA hk0 hks
        go_wp2_with (go_at_call 72; refine (d1.out _).mono ?_; rintro e w' ⟨rfl, rfl⟩)
        go_roundw
        case rel => exact ⟨j, by omega, by go_num, hTk.out, hb⟩
        case measure => simp [intOf]
      | false =>
        rw [hd] at hA
        rw [hd, if_neg (by simp)] at hTk
        have d1 := hide (fun w => r3digN_at hA w)
        have hj1 : (j : Int) + 1 ≤ (s.size : Int) := by omega
        subst hTk
        clear hd hA hT hk0 hks
        go_wp2_with (first | (go_at_call 72; refine (d1.out _).mono ?_; rintro e w' ⟨rfl, rfl⟩))
        go_region
        all_goals
          go_wp2
          go_ret2
          rw [hfin.out]
          exact ⟨_, _, rfl, by rw [ext_list]; simp, by rw [ext_list, List.take_of_length_le (by simp)], by first | exact hb | exact ext_drew hb⟩
def valL (l : List UInt8) : Nat := (Lib.decFrom 0 l).getD 0
def PartsEnd (s : ByteArray) (w : World) (e : Ending) (w' : World) : Prop :=
  ∃ X : ByteArray, e = .returned (.tuple #[.string X, .int .i64 (if tailAt s < s.size then (valL (s.data.toList.drop (tailAt s)) : Int) else 0), .int .i64 ((s.size : Int) - (tailAt s : Int)), .bool (decide (tailAt s < s.size))]) ∧ X.data.toList = s.data.toList.take (tailAt s) ∧ Below w.heap.size w w'
theorem end_four {fn : Func} {p q r t : Tmp} (hr : fn.results = #[.tmp p, .tmp q, .tmp r, .tmp t]) {Q : Ending → World → Prop} {act : Act} {w : World} (a b c d : Value) (hd : act.defers = [])
    (h1 : act.tmps.getD p undef = a) (h2 : act.tmps.getD q undef = b) (h3 : act.tmps.getD r undef = c) (h4 : act.tmps.getD t undef = d)
    (hQ : Q (.returned (.tuple #[a, b, c, d])) w) : bodyPost Tryz.prog fn Q .ret act w := by
  refine bodyPost_ret (v := .tuple #[a, b, c, d]) ?_ hd hQ
  simp only [results, hr]
  simp [-Array.getD_eq_getD_getElem?]
  rw [h1, h2, h3, h4]
  exact ⟨rfl, rfl, rfl, rfl⟩
theorem tail_digS (s : ByteArray) : digS (s.extract (tailAt s) s.size) = true := by
  unfold digS
  rw [ext_list, List.take_of_length_le (by simp), List.all_eq_true]
  intro b hb
  obtain ⟨j, hj⟩ := List.getElem?_of_mem hb
  rw [List.getElem?_drop] at hj
  have hl := (List.getElem?_eq_some_iff.1 hj).1
  rw [len_size] at hl
  have := tlN_digs s s.size (tailAt s + j) (Nat.le_add_right _ _) hl
  unfold dgAt at this
  rw [List.getD_eq_getElem?_getD, hj] at this
  exact this
set_option maxHeartbeats 8000000 in
theorem parts_walk (s : ByteArray) (w : World) (hS : Std w) (hs : s.size ≤ 18) :
    Calls Tryz.prog 186 #[.string s] w fun e w' => PartsEnd s w e w' := by
  have hfin : Hid (∀ e w', PartsEnd s w e w' = (∃ X : ByteArray, e = .returned (.tuple #[.string X, .int .i64 (if tailAt s < s.size then (valL (s.data.toList.drop (tailAt s)) : Int) else 0), .int .i64 ((s.size : Int) - (tailAt s : Int)), .bool (decide (tailAt s < s.size))]) ∧ X.data.toList = s.data.toList.take (tailAt s) ∧ Below w.heap.size w w')) := hide fun _ _ => rfl
  have hle := tail_le s
  have hdg := tail_digS s
  have hxl := ext_list s (tailAt s) s.size
  rw [List.take_of_length_le (by simp)] at hxl
  have hxs : (s.extract (tailAt s) s.size).size = s.size - tailAt s := by simp
  obtain ⟨T, hT⟩ : ∃ T, tailAt s = T := ⟨_, rfl⟩
  rw [hT] at hfin hle hdg hxl hxs
  obtain ⟨te, pe, hv⟩ := hS.errSyntax
  have hbig := hS.big
  go_enter Tryz.func186, Tryz.ntmps186
  go_wp2
  go_loopw [6] (fun i wr => ∃ k : Nat, k ≤ s.size ∧ i = .int .i64 k ∧ tlN s k = T ∧ wr = w) (fun i _ => (intOf i).toNat)
  case atStart => exact ⟨s.size, Nat.le_refl _, rfl, hT, rfl⟩
  case round =>
    obtain ⟨k, hk, rfl, hTk, rfl⟩ := hrel
    by_cases hkT : k = T
    · subst hkT
      have hT0i : (0 : Int) ≤ (k : Int) := by omega
      have hTsi : (k : Int) ≤ (s.size : Int) := by omega
      have hvv : Hid (valL (s.data.toList.drop k) = valS (s.extract k s.size)) := hide (by unfold valS valL; rw [hxl])
      have hcase : (k = 0 ∨ ∃ j, k = j + 1 ∧ dgAt s j = false) := by
        cases k with
        | zero => exact .inl rfl
        | succ j =>
          refine .inr ⟨j, rfl, ?_⟩
          cases hd : dgAt s j with
          | false => rfl
          | true => rw [tlN, hd, if_pos rfl] at hTk; have := tlN_le s j; omega
      have hat : k < s.size → Hid (Lib.atoi (s.extract k s.size).data.toList = some (valS (s.extract k s.size) : Int)) := fun h => hide (dig_atoi hdg (by rw [hxs]; exact Nat.sub_pos_of_lt h))
      have hno : ¬ k < s.size → Hid (Lib.atoi (s.extract k s.size).data.toList = none) := fun h => hide (by
        rw [hxl, List.drop_of_length_le (by rw [len_size]; omega)]; decide)
      have hx18 : (s.extract k s.size).size ≤ 18 := by rw [hxs]; exact Nat.le_trans (Nat.sub_le _ _) hs
      have hwz : IntKind.i64.wrap ((s.size : Int) - (k : Int)) = (s.size : Int) - (k : Int) := by rw [IntKind.wrap_i64]; omega
      obtain ⟨Z, hZ⟩ : ∃ Z, s.extract k s.size = Z := ⟨_, rfl⟩
      have htk : (s.extract 0 k).data.toList = s.data.toList.take k := by rw [ext_list]; simp
      rw [hZ] at hvv hat hno hx18
      obtain ⟨v, hv2⟩ : ∃ v, valS Z = v := ⟨_, rfl⟩
      rw [hv2] at hvv hat
      rw [hvv.out] at hfin
      replace hat := hide hat
      replace hno := hide hno
      replace htk := hide htk
      replace hZ := hide hZ
      rcases hcase with h0 | ⟨j, hj, hd⟩
      · have hk0 : ¬ (0 : Int) < (k : Int) := by omega
        replace h0 := hide h0
        clear hT hTk hdg hxl hxs hv2 hvv
        by_cases hks : k < s.size
        · have ha := hat.out hks
          have hksi : (k : Int) < (s.size : Int) := by omega
          rw [if_pos hks, decide_eq_true hks] at hfin
          clear hat hno
          go_wp2_with (first | (rw [hZ.out]; go_at_call 204; refine (Tryz.strconv_Atoi Z v hx18 ha.out _).mono ?_; rintro e w' ⟨rfl, t, rfl⟩))
          all_goals first | (exfalso; omega) | (go_region; all_goals (go_wp2; refine end_four rfl _ _ _ _ rfl rfl rfl rfl rfl ?_; rw [hfin.out]; exact ⟨_, rfl, htk.out, by first | exact Joins.below_bytesWorld _ _ _ _ (Nat.le_refl _) | exact ext_drew (Joins.below_bytesWorld _ _ _ _ (Nat.le_refl _))⟩))
        · have ha := hno.out hks
          have hksi : ¬ (k : Int) < (s.size : Int) := by omega
          rw [if_neg hks, decide_eq_false hks] at hfin
          clear hat hno
          go_wp2_with (first | (rw [hZ.out]; go_at_call 204; refine (Tryz.strconv_Atoi_err Z hx18 ha.out _ _ hv (Or.inr ⟨te, pe, rfl⟩)).mono ?_; rintro e w' ⟨N, rfl, hN, hcc, hbb⟩))
          all_goals first | (exfalso; omega) | (go_region; all_goals (go_wp2; refine end_four rfl _ _ _ _ rfl rfl rfl rfl rfl ?_; rw [hfin.out]; exact ⟨_, rfl, htk.out, by first | exact hbb | exact ext_drew hbb⟩))
      · have hjs : j < s.size := by omega
        have hA := dgAt_of hjs
        rw [hd] at hA
        have hji : (j : Int) < (s.size : Int) := by omega
        have hj0 : (0 : Int) ≤ (j : Int) := by omega
        have hkp : (0 : Int) < (k : Int) := by omega
        have hw1 : IntKind.i64.wrap ((k : Int) - 1) = (j : Int) := by rw [IntKind.wrap_i64]; omega
        have d1 := hide (fun w => digN_at hA w)
        replace hj := hide hj
        clear hd hA hT hTk hdg hxl hxs hv2 hvv
        by_cases hks : k < s.size
        · have ha := hat.out hks
          have hksi : (k : Int) < (s.size : Int) := by omega
          rw [if_pos hks, decide_eq_true hks] at hfin
          clear hat hno
          go_wp2_with (first | (go_at_call 67; refine (d1.out _).mono ?_; rintro e w' ⟨rfl, rfl⟩) | (rw [hZ.out]; go_at_call 204; refine (Tryz.strconv_Atoi Z v hx18 ha.out _).mono ?_; rintro e w' ⟨rfl, t, rfl⟩))
          all_goals first | (exfalso; omega) | (go_region; all_goals (go_wp2; refine end_four rfl _ _ _ _ rfl rfl rfl rfl rfl ?_; rw [hfin.out]; exact ⟨_, rfl, htk.out, by first | exact Joins.below_bytesWorld _ _ _ _ (Nat.le_refl _) | exact ext_drew (Joins.below_bytesWorld _ _ _ _ (Nat.le_refl _))⟩))
        · have ha := hno.out hks
          have hksi : ¬ (k : Int) < (s.size : Int) := by omega
          rw [if_neg hks, decide_eq_false hks] at hfin
          clear hat hno
          go_wp2_with (first | (go_at_call 67; refine (d1.out _).mono ?_; rintro e w' ⟨rfl, rfl⟩) | (rw [hZ.out]; go_at_call 204; refine (Tryz.strconv_Atoi_err Z hx18 ha.out _ _ hv (Or.inr ⟨te, pe, rfl⟩)).mono ?_; rintro e w' ⟨N, rfl, hN, hcc, hbb⟩))
          all_goals first | (exfalso; omega) | (go_region; all_goals (go_wp2; refine end_four rfl _ _ _ _ rfl rfl rfl rfl rfl ?_; rw [hfin.out]; exact ⟨_, rfl, htk.out, by first | exact hbb | exact ext_drew hbb⟩))
    · obtain ⟨j, rfl⟩ : ∃ j, k = j + 1 := by
        cases k with
        | zero => exact absurd hTk hkT
        | succ j => exact ⟨j, rfl⟩
      have hj : j < s.size := by omega
      have hA := dgAt_of hj
      have hji : (j : Int) < (s.size : Int) := by omega
      have hw1 : IntKind.i64.wrap ((j : Int) + 1 - 1) = (j : Int) := by rw [IntKind.wrap_i64]; omega
      have hj0 : (0 : Int) ≤ (j : Int) := by omega
      rw [tlN] at hTk
      have hd : dgAt s j = true := by
        cases hd : dgAt s j with
        | true => rfl
        | false => rw [hd, if_neg (by simp)] at hTk; exact absurd hTk hkT
      rw [show ((j + 1 : Nat) : Int) = (j : Int) + 1 from rfl]
      rw [hd] at hA
      rw [hd, if_pos rfl] at hTk
      have d1 := hide (fun w => digN_at hA w)
      replace hTk := hide hTk
      clear hd hA hk hkT hdg hxl hxs hv
      go_wp2_with (go_at_call 67; refine (d1.out _).mono ?_; rintro e w' ⟨rfl, rfl⟩)
      go_roundw
      case rel => exact ⟨j, by omega, by go_num, hTk.out, by trivial⟩
      case measure => simp [intOf]
end Go.Proofs.YtdnnahdafhddlaaGreatDoor

namespace Go.Proofs.YtdnnahdafhddlaaGreatDoor
open Go.RowKit
set_option maxRecDepth 100000

/-- A number in a width. -/
def wrL (n width : Nat) : List UInt8 := List.replicate (width - (Lib.itoa n).length) 48 ++ Lib.itoa n
theorem rep_one (c : UInt8) : ∀ k, Lib.repeatL [c] k = List.replicate k c
  | 0 => rfl
  | k + 1 => by rw [Lib.repeatL, rep_one c k, List.replicate_succ]; rfl
set_option maxHeartbeats 4000000 in
theorem written_walk (P : ByteArray) (n width : Nat) (w : World) (hS : Std w) (hn : n ≤ 9223372036854775807) (hP : P.size ≤ 1000) (hw : width ≤ 1000) :
    Calls Tryz.prog 187 #[.string P, .int .i64 n, .int .i64 width] w fun e w' => ∃ X : ByteArray, e = .returned (.string X) ∧ X.data.toList = P.data.toList ++ wrL n width ∧ Below w.heap.size w w' := by
  have hit := Tryz.strconv_Itoa n (by omega) (by omega) w hS.pow10
  have hlen := Lib.itoa_length_le n (by omega) (by omega)
  obtain ⟨D, hD⟩ : ∃ D : ByteArray, (⟨(Lib.itoa n).toArray⟩ : ByteArray) = D := ⟨_, rfl⟩
  have hDl : D.data.toList = Lib.itoa n := by rw [← hD]
  have hDs : D.size = (Lib.itoa n).length := by rw [← len_size, hDl]
  rw [hD] at hit
  obtain ⟨z, hz⟩ : ∃ z : Nat, width - (Lib.itoa n).length = z := ⟨_, rfl⟩
  have hzi : max (0 : Int) ((width : Int) - (D.size : Int)) = (z : Int) := by omega
  have hwi : IntKind.i64.wrap ((width : Int) - (D.size : Int)) = (width : Int) - (D.size : Int) := by rw [IntKind.wrap_i64]; omega
  have hrep := fun (V : World) => Tryz.strings_Repeat ⟨#[48]⟩ z V (by omega) (by show 1 * z ≤ _; omega)
  obtain ⟨R, hR⟩ : ∃ R : ByteArray, (⟨(Lib.repeatL (⟨#[48]⟩ : ByteArray).data.toList z).toArray⟩ : ByteArray) = R := ⟨_, rfl⟩
  have hRl : R.data.toList = List.replicate z 48 := by rw [← hR]; exact rep_one 48 z
  have hRs : R.size = z := by rw [← len_size, hRl]; simp
  rw [hR] at hrep
  have h1 : (9223372036854775807 < P.size + R.size) = False := by simp; omega
  have h2 : (9223372036854775807 < (P ++ R).size + D.size) = False := by simp; omega
  have h3 : (9223372036854775807 < P.size + R.size + D.size) = False := by simp; omega
  have hfin : Hid (∀ X : ByteArray, X.data.toList = (P ++ R ++ D).data.toList → X.data.toList = P.data.toList ++ wrL n width) := hide fun X hX => by
    rw [hX]; unfold wrL; rw [hz]
    simp [hRl, hDl]
  replace hrep := hide hrep
  clear hD hDl hDs hz hR hRl hRs hlen
  go_enter Tryz.func187, Tryz.ntmps187
  go_wp2_with fail
  refine hit.mono ?_
  clear hit
  rintro e w1 ⟨rfl, k, os, rfl⟩
  have hb1 := Lib.below_grow w.heap.size w (Nat.le_refl _) k os
  obtain ⟨w1, hw1⟩ : ∃ w1, Sort.grow (w.drewN k) os = w1 := ⟨_, rfl⟩
  rw [hw1] at hb1 ⊢
  replace hw1 := hide hw1
  go_wp2_with fail
  refine (hrep.out _).mono ?_
  clear hrep
  rintro e w2 ⟨rfl, hb2⟩
  go_wp2
  go_ret
  exact ⟨_, rfl, hfin.out _ rfl, ext_trans hb1 hb2⟩
end Go.Proofs.YtdnnahdafhddlaaGreatDoor

namespace Go.Proofs.YtdnnahdafhddlaaGreatDoor
open Go.RowKit
set_option maxRecDepth 100000

def mkB (l : List UInt8) : ByteArray := ⟨l.toArray⟩
theorem mkB_list (l : List UInt8) : (mkB l).data.toList = l := by simp [mkB]
theorem mkB_size (l : List UInt8) : (mkB l).size = l.length := by rw [← len_size, mkB_list]
theorem mkB_of {X : ByteArray} {l : List UInt8} (h : X.data.toList = l) : X = mkB l := by subst h; rfl
/-- The prefix of a code, its last number, and that number's width. -/
def preL (a : ByteArray) : List UInt8 := a.data.toList.take (tailAt a)
def numT (a : ByteArray) : Nat := valL (a.data.toList.drop (tailAt a))
def widT (a : ByteArray) : Nat := a.size - tailAt a
/-- Are two codes the ends of a range. -/
def endsB (a b : ByteArray) : Bool := decide (tailAt a < a.size ∧ tailAt b < b.size ∧ preL a = preL b ∧ numT a ≤ numT b ∧ preL a ++ wrL (numT b) (widT a) = b.data.toList)
def ranF (a : ByteArray) (k : Nat) : ByteArray := mkB (preL a ++ wrL (numT a + k) (widT a))
/-- The codes of a range, if there is room for them. -/
def rangeV (a b : ByteArray) (room : Nat) : Nat × List ByteArray :=
  if codeB a = true ∧ codeB b = true then
    if endsB a b = true then
      if room ≤ numT b - numT a then (2, []) else (0, (List.range (numT b - numT a + 1)).map (ranF a))
    else (3, [])
  else (10, [])
theorem code_size {a : ByteArray} (h : codeB a = true) : 1 ≤ a.size ∧ a.size ≤ 16 := by
  unfold codeB at h
  simp only [Bool.and_eq_true, decide_eq_true_eq] at h
  exact h.1
/-- What a part of a list says, if there is room for so many codes. -/
def partV (p : ByteArray) (room : Nat) : Nat × List ByteArray :=
  if p.size = 0 ∨ Lib.contains (Lib.cut p.data.toList [46, 46]).2.1 [46, 46] = true then (4, [])
  else if (Lib.cut p.data.toList [46, 46]).2.2 = true then rangeV (mkB (Lib.cut p.data.toList [46, 46]).1) (mkB (Lib.cut p.data.toList [46, 46]).2.1) room
  else if codeB p = true then (0, [p]) else (10, [])
/-- Reading the parts of a list behind what was read. -/
def listF (out : List ByteArray) : List ByteArray → Nat × List ByteArray
  | [] => if out.Nodup then (0, out) else (11, [])
  | p :: ps =>
    if (partV p (64 - out.length)).1 ≠ 0 then ((partV p (64 - out.length)).1, [])
    else if 64 < (out ++ (partV p (64 - out.length)).2).length then (2, []) else listF (out ++ (partV p (64 - out.length)).2) ps
/-- What a list of codes says: the error's number, the codes. -/
def listV (s : ByteArray) : Nat × List ByteArray := if s.size = 0 then (0, []) else listF [] (partsOf s)
theorem rangeV_len (a b : ByteArray) (room : Nat) : (rangeV a b room).2.length ≤ room := by
  unfold rangeV
  by_cases h1 : codeB a = true ∧ codeB b = true
  · rw [if_pos h1]
    by_cases h2 : endsB a b = true
    · rw [if_pos h2]
      by_cases h3 : room ≤ numT b - numT a
      · rw [if_pos h3]; exact Nat.zero_le _
      · rw [if_neg h3]; simp only [List.length_map, List.length_range]; omega
    · rw [if_neg h2]; exact Nat.zero_le _
  · rw [if_neg h1]; exact Nat.zero_le _
end Go.Proofs.YtdnnahdafhddlaaGreatDoor

namespace Go.Proofs.YtdnnahdafhddlaaGreatDoor
open Go.RowKit
set_option maxRecDepth 100000

def PartsIs (P : ByteArray) (d n : Nat) (ok : Bool) (w : World) (e : Ending) (w' : World) : Prop :=
  e = .returned (.tuple #[.string P, .int .i64 (n : Int), .int .i64 (d : Int), .bool ok]) ∧ Below w.heap.size w w'
theorem parts_is (a : ByteArray) (w : World) (hS : Std w) (hs : a.size ≤ 18) :
    Calls Tryz.prog 186 #[.string a] w fun e w' => PartsIs (mkB (preL a)) (widT a) (if tailAt a < a.size then numT a else 0) (decide (tailAt a < a.size)) w e w' := by
  refine (parts_walk a w hS hs).mono ?_
  rintro e w' ⟨X, rfl, hX, hb⟩
  refine ⟨?_, hb⟩
  rw [mkB_of hX]
  have h1 : ((a.size : Int) - (tailAt a : Int)) = ((widT a : Nat) : Int) := by have := tail_le a; unfold widT; omega
  rw [h1]
  by_cases h : tailAt a < a.size
  · rw [if_pos h, if_pos h]; rfl
  · rw [if_neg h, if_neg h]; rfl
theorem numT_le (a : ByteArray) (h : a.size ≤ 16) : numT a ≤ 100000000000000000 := by
  have hx := ext_list a (tailAt a) a.size
  rw [List.take_of_length_le (by simp)] at hx
  have h1 := (dig_val (tail_digS a)).2
  have h2 : valS (a.extract (tailAt a) a.size) = numT a := by unfold numT valL valS; rw [hx]
  have h3 : (a.extract (tailAt a) a.size).size ≤ 17 := by simp only [ByteArray.size_extract]; omega
  have := pow18 h3
  omega
theorem toList_no {X Y : ByteArray} (h : ¬ X.data.toList = Y.data.toList) : (X.toList == Y.toList) = false := by rw [toList_dataL, toList_dataL]; exact beq_false_of_ne h
theorem toList_ne {X Y : ByteArray} (h : ¬ X.data.toList = Y.data.toList) : ¬ X.toList = Y.toList := by rw [toList_dataL, toList_dataL]; exact h
theorem toList_yes {X Y : ByteArray} (h : X.data.toList = Y.data.toList) : X.toList = Y.toList := by rw [toList_dataL, toList_dataL]; exact h
theorem written_is (p : List UInt8) (n d : Nat) (w : World) (hS : Std w) (hn : n ≤ 9223372036854775807) (hP : p.length ≤ 1000) (hd : d ≤ 1000) :
    Calls Tryz.prog 187 #[.string (mkB p), .int .i64 n, .int .i64 d] w fun e w' => e = .returned (.string (mkB (p ++ wrL n d))) ∧ Below w.heap.size w w' := by
  refine (written_walk (mkB p) n d w hS hn (by rw [mkB_size]; exact hP) hd).mono ?_
  rintro e w' ⟨X, rfl, hX, hb⟩
  rw [mkB_list] at hX
  exact ⟨by rw [mkB_of hX], hb⟩
def BetwIs (r : Nat × List ByteArray) (w : World) (e : Ending) (w' : World) : Prop :=
  ∃ v, e = .returned (.tuple #[v, .int .i64 (r.1 : Int)]) ∧ Own kStr 9 [] 0 w.heap.size w' v r.2 ∧ Below w.heap.size w w'
theorem betw_none {n : Nat} {w w' : World} (hb : Below w.heap.size w w') : BetwIs (n, []) w (.returned (.tuple #[.slice none 0 0, .int .i64 (n : Int)])) w' := ⟨_, rfl, Own.nil, hb⟩
set_option maxHeartbeats 4000000 in
theorem between_walk (a b : ByteArray) (room : Nat) (w : World) (hS : Std w) (hr : room ≤ 64) :
    Calls Tryz.prog 145 #[.string a, .string b, .int .i64 room] w fun e w' => BetwIs (rangeV a b room) w e w' := by
  have hbig := hS.big
  have c1 := hide (cvalid_walk a)
  have c2 := hide (cvalid_walk b)
  by_cases hv : codeB a = true ∧ codeB b = true
  · obtain ⟨va, vb⟩ := hv
    have sa := code_size va
    have sb := code_size vb
    have na := numT_le a sa.2
    have nb := numT_le b sb.2
    have hV : rangeV a b room = if endsB a b = true then
      if room ≤ numT b - numT a then (2, []) else (0, (List.range (numT b - numT a + 1)).map (ranF a))
      else (3, []) := if_pos ⟨va, vb⟩
    have p1 := hide (fun (W : World) (h : Below w.heap.size w W) => parts_is a W (hS.after h) (by omega))
    have p2 := hide (fun (W : World) (h : Below w.heap.size w W) => parts_is b W (hS.after h) (by omega))
    rw [va] at c1
    rw [vb] at c2
    have hno : ∀ {W : World}, Below w.heap.size w W → endsB a b = false → BetwIs (rangeV a b room) w (.returned (.tuple #[.slice none 0 0, .int .i64 (3 : Int)])) W := by
      intro W hW he
      rw [hV, if_neg (by rw [he]; simp)]
      exact betw_none hW
    by_cases hA : tailAt a < a.size
    · rw [if_pos hA, decide_eq_true hA] at p1
      by_cases hB : tailAt b < b.size
      · rw [if_pos hB, decide_eq_true hB] at p2
        by_cases hP : preL a = preL b
        · rw [← hP] at p2
          by_cases hN : numT a ≤ numT b
          · have hNi : (numT a : Int) ≤ (numT b : Int) := by omega
            have wr := hide (fun (W : World) (h : Below w.heap.size w W) => written_is (preL a) (numT b) (widT a) W (hS.after h) (by omega) (by unfold preL; rw [List.length_take, len_size]; omega) (by unfold widT; omega))
            by_cases hW : preL a ++ wrL (numT b) (widT a) = b.data.toList
            · have heq := toList_yes (X := mkB (preL a ++ wrL (numT b) (widT a))) (Y := b) (by rw [mkB_list]; exact hW)
              have hE : endsB a b = true := decide_eq_true ⟨hA, hB, hP, hN, hW⟩
              rw [if_pos hE] at hV
              have hw0 : IntKind.i64.wrap ((numT b : Int) - (numT a : Int)) = (numT b : Int) - (numT a : Int) := by rw [IntKind.wrap_i64]; omega
              by_cases hR : room ≤ numT b - numT a
              · have hRi : (room : Int) ≤ (numT b : Int) - (numT a : Int) := by omega
                rw [if_pos hR] at hV
                rw [hV]
                clear hA hB hP hV va vb sa sb na nb hE hno hW hR
                go_enter Tryz.func145, Tryz.ntmps145
                go_wp2_with (first | (go_at_call 32; (with_reducible refine (c1.out _).mono ?_); rintro e w' ⟨rfl, rfl⟩) | (go_at_call 32; (with_reducible refine (c2.out _).mono ?_); rintro e w' ⟨rfl, rfl⟩) | (go_at_call 186; (with_reducible refine (p1.out _ ?_).mono ?_); exact Below.refl _ _; rintro e w1 ⟨rfl, hb1⟩) | (go_at_call 186; (with_reducible refine (p2.out _ ?_).mono ?_); assumption; rintro e w2 ⟨rfl, hb2⟩) | (go_at_call 187; (with_reducible refine (wr.out _ ?_).mono ?_); exact ext_trans hb1 hb2; rintro e w3 ⟨rfl, hb3⟩))
                all_goals
                  go_ret2
                  exact betw_none (ext_trans (ext_trans hb1 hb2) hb3)
              · have hRi : ¬ (room : Int) ≤ (numT b : Int) - (numT a : Int) := by omega
                rw [if_neg hR] at hV
                rw [hV]
                have hpl : (preL a).length ≤ 1000 := by unfold preL; rw [List.length_take, len_size]; omega
                have hdl : widT a ≤ 1000 := by unfold widT; omega
                have hnf : ∀ k, ranF a k = mkB (preL a ++ wrL (numT a + k) (widT a)) := fun _ => rfl
                clear hA hB hP hV va vb sa sb hE hno hW
                obtain ⟨n, hn⟩ : ∃ n, numT a = n := ⟨_, rfl⟩
                obtain ⟨m, hm⟩ : ∃ m, numT b = m := ⟨_, rfl⟩
                obtain ⟨d, hd⟩ : ∃ d, widT a = d := ⟨_, rfl⟩
                obtain ⟨p, hp⟩ : ∃ p, preL a = p := ⟨_, rfl⟩
                obtain ⟨f, hf⟩ : ∃ f, ranF a = f := ⟨_, rfl⟩
                simp only [hn, hm, hd, hp, hf] at *
                replace hnf := hide hnf
                replace hR := hide hR
                clear hn hm hd hp hf
                go_enter Tryz.func145, Tryz.ntmps145
                go_wp2_with (first | (go_at_call 32; (with_reducible refine (c1.out _).mono ?_); rintro e w' ⟨rfl, rfl⟩) | (go_at_call 32; (with_reducible refine (c2.out _).mono ?_); rintro e w' ⟨rfl, rfl⟩) | (go_at_call 186; (with_reducible refine (p1.out _ ?_).mono ?_); exact Below.refl _ _; rintro e w1 ⟨rfl, hb1⟩) | (go_at_call 186; (with_reducible refine (p2.out _ ?_).mono ?_); assumption; rintro e w2 ⟨rfl, hb2⟩) | (go_at_call 187; (with_reducible refine (wr.out _ ?_).mono ?_); exact ext_trans hb1 hb2; rintro e w3 ⟨rfl, hb3⟩))
                all_goals
                  have hb := ext_trans (ext_trans hb1 hb2) hb3
                  replace hR := hR.out
                  clear hb1 hb2 hb3 hw0 heq wr p1 p2 c1 c2 hRi hNi
                  go_loopw [16, 17] (fun v i wr => ∃ k, k ≤ m - n + 1 ∧ i = .int .i64 ((n + k : Nat) : Int) ∧ Own kStr 9 [] 0 w.heap.size wr v ((List.range k).map f) ∧ Below w.heap.size w wr) (fun _ i _ => m + 1 - (intOf i).toNat)
                  case atStart => exact ⟨0, Nat.zero_le _, rfl, Own.nil, hb⟩
                  case round =>
                    obtain ⟨k, hk, rfl, hown, hb⟩ := hrel
                    by_cases hlt : k < m - n + 1
                    · have hki : ((n + k : Nat) : Int) ≤ (m : Int) := by omega
                      have hz := hb.size
                      have wr2 := written_is p (n + k) d wr (hS.after hb) (by omega) hpl hdl
                      rw [← hnf.out] at wr2
                      go_wp2_with fail
                      refine wr2.mono ?_
                      clear wr2
                      rintro e w3 ⟨rfl, hb3⟩
                      have hown3 := hown.later hb3
                      have hz3 := hb3.size
                      go_wp2_with (at_builtin; refine wpList_own rfl _ _ rfl apd_strs (by decide) rfl (hown3.alloc _) ?d1 (by decide) ⟨w3.heap.size, 0, none⟩ 1 rfl (f k) [.string (f k)] rfl (World.news_of_block (cs := #[.string (f k)]) (t := 9) (fr := (0, 0)) (heap_alloc_new _ _)) (by decide) (Nat.zero_le _) ?d2 ?_)
                      case d1 => simp; omega
                      case d2 => rw [World.size_alloc]; omega
                      intro v4 w4 hown4 hgrow
                      have hb4 := (hown3.alloc _).below_grown (ext_alloc (ext_trans hb hb3) _) (Nat.le_refl _) hgrow
                      rw [show (List.range k).map f ++ [f k] = (List.range (k + 1)).map f from by rw [List.range_succ, List.map_append]; rfl] at hown4
                      clear hown hown3 hgrow hb hb3
                      go_wp2
                      go_roundw
                      case rel => exact ⟨k + 1, by omega, by go_num, hown4, hb4⟩
                      case measure => simp [intOf]; omega
                    · obtain rfl : k = m - n + 1 := by omega
                      have hki : (m : Int) < ((n + (m - n + 1) : Nat) : Int) := by omega
                      go_wp2
                      go_ret2
                      exact ⟨_, rfl, hown, hb⟩
            · replace hno := hide (fun (W : World) (hW' : Below w.heap.size w W) => hno hW' (decide_eq_false fun h => hW h.2.2.2.2))
              have hne := toList_no (X := mkB (preL a ++ wrL (numT b) (widT a))) (Y := b) (by rw [mkB_list]; exact hW)
              clear hA hB hP hN hV va vb sa sb na nb
              go_enter Tryz.func145, Tryz.ntmps145
              go_wp2_with (first | (go_at_call 32; (with_reducible refine (c1.out _).mono ?_); rintro e w' ⟨rfl, rfl⟩) | (go_at_call 32; (with_reducible refine (c2.out _).mono ?_); rintro e w' ⟨rfl, rfl⟩) | (go_at_call 186; (with_reducible refine (p1.out _ ?_).mono ?_); exact Below.refl _ _; rintro e w1 ⟨rfl, hb1⟩) | (go_at_call 186; (with_reducible refine (p2.out _ ?_).mono ?_); assumption; rintro e w2 ⟨rfl, hb2⟩) | (go_at_call 187; (with_reducible refine (wr.out _ ?_).mono ?_); exact ext_trans hb1 hb2; rintro e w3 ⟨rfl, hb3⟩))
              all_goals
                go_ret2
                exact hno.out _ (ext_trans (ext_trans hb1 hb2) hb3)
          · have hNi : (numT b : Int) < (numT a : Int) := by omega
            replace hno := hide (fun (W : World) (hW : Below w.heap.size w W) => hno hW (decide_eq_false fun h => hN h.2.2.2.1))
            clear hA hB hP hN hV va vb sa sb na nb
            go_enter Tryz.func145, Tryz.ntmps145
            go_wp2_with (first | (go_at_call 32; (with_reducible refine (c1.out _).mono ?_); rintro e w' ⟨rfl, rfl⟩) | (go_at_call 32; (with_reducible refine (c2.out _).mono ?_); rintro e w' ⟨rfl, rfl⟩) | (go_at_call 186; (with_reducible refine (p1.out _ ?_).mono ?_); exact Below.refl _ _; rintro e w1 ⟨rfl, hb1⟩) | (go_at_call 186; (with_reducible refine (p2.out _ ?_).mono ?_); assumption; rintro e w2 ⟨rfl, hb2⟩) | (go_at_call 187; (with_reducible refine (wr.out _ ?_).mono ?_); exact ext_trans hb1 hb2; rintro e w3 ⟨rfl, hb3⟩))
            all_goals
              go_ret2
              exact hno.out _ (ext_trans hb1 hb2)
        · replace hno := hide (fun (W : World) (hW : Below w.heap.size w W) => hno hW (decide_eq_false fun h => hP h.2.2.1))
          have hPn := toList_ne (X := mkB (preL a)) (Y := mkB (preL b)) (by rw [mkB_list, mkB_list]; exact hP)
          clear hA hB hP hV va vb sa sb na nb
          go_enter Tryz.func145, Tryz.ntmps145
          go_wp2_with (first | (go_at_call 32; (with_reducible refine (c1.out _).mono ?_); rintro e w' ⟨rfl, rfl⟩) | (go_at_call 32; (with_reducible refine (c2.out _).mono ?_); rintro e w' ⟨rfl, rfl⟩) | (go_at_call 186; (with_reducible refine (p1.out _ ?_).mono ?_); exact Below.refl _ _; rintro e w1 ⟨rfl, hb1⟩) | (go_at_call 186; (with_reducible refine (p2.out _ ?_).mono ?_); assumption; rintro e w2 ⟨rfl, hb2⟩) | (go_at_call 187; (with_reducible refine (wr.out _ ?_).mono ?_); exact ext_trans hb1 hb2; rintro e w3 ⟨rfl, hb3⟩))
          all_goals
            go_ret2
            exact hno.out _ (ext_trans hb1 hb2)
      · rw [if_neg hB, decide_eq_false hB] at p2
        replace hno := hide (fun (W : World) (hW : Below w.heap.size w W) => hno hW (decide_eq_false fun h => hB h.2.1))
        clear hA hB hV va vb sa sb na nb
        go_enter Tryz.func145, Tryz.ntmps145
        go_wp2_with (first | (go_at_call 32; (with_reducible refine (c1.out _).mono ?_); rintro e w' ⟨rfl, rfl⟩) | (go_at_call 32; (with_reducible refine (c2.out _).mono ?_); rintro e w' ⟨rfl, rfl⟩) | (go_at_call 186; (with_reducible refine (p1.out _ ?_).mono ?_); exact Below.refl _ _; rintro e w1 ⟨rfl, hb1⟩) | (go_at_call 186; (with_reducible refine (p2.out _ ?_).mono ?_); assumption; rintro e w2 ⟨rfl, hb2⟩) | (go_at_call 187; (with_reducible refine (wr.out _ ?_).mono ?_); exact ext_trans hb1 hb2; rintro e w3 ⟨rfl, hb3⟩))
        all_goals
          go_ret2
          exact hno.out _ (ext_trans hb1 hb2)
    · rw [if_neg hA, decide_eq_false hA] at p1
      replace hno := hide (fun (W : World) (hW : Below w.heap.size w W) => hno hW (decide_eq_false fun h => hA h.1))
      clear hA hV va vb sa sb na nb
      go_enter Tryz.func145, Tryz.ntmps145
      go_wp2_with (first | (go_at_call 32; (with_reducible refine (c1.out _).mono ?_); rintro e w' ⟨rfl, rfl⟩) | (go_at_call 32; (with_reducible refine (c2.out _).mono ?_); rintro e w' ⟨rfl, rfl⟩) | (go_at_call 186; (with_reducible refine (p1.out _ ?_).mono ?_); exact Below.refl _ _; rintro e w1 ⟨rfl, hb1⟩) | (go_at_call 186; (with_reducible refine (p2.out _ ?_).mono ?_); assumption; rintro e w2 ⟨rfl, hb2⟩) | (go_at_call 187; (with_reducible refine (wr.out _ ?_).mono ?_); exact ext_trans hb1 hb2; rintro e w3 ⟨rfl, hb3⟩))
      all_goals
        go_ret2
        exact hno.out _ (ext_trans hb1 hb2)
  · have hV : rangeV a b room = (10, []) := if_neg hv
    rw [hV]
    cases va : codeB a with
    | false =>
      rw [va] at c1
      clear hv va
      go_enter Tryz.func145, Tryz.ntmps145
      go_wp2_with (go_at_call 32; refine (c1.out _).mono ?_; rintro e w' ⟨rfl, rfl⟩)
      go_ret2
      exact betw_none (Below.refl _ _)
    | true =>
      cases vb : codeB b with
      | false =>
        rw [va] at c1
        rw [vb] at c2
        clear hv va vb
        go_enter Tryz.func145, Tryz.ntmps145
        go_wp2_with (first | (go_at_call 32; (with_reducible refine (c1.out _).mono ?_); rintro e w' ⟨rfl, rfl⟩) | (go_at_call 32; (with_reducible refine (c2.out _).mono ?_); rintro e w' ⟨rfl, rfl⟩))
        go_ret2
        exact betw_none (Below.refl _ _)
      | true => exact absurd ⟨va, vb⟩ hv
end Go.Proofs.YtdnnahdafhddlaaGreatDoor

namespace Go.Proofs.YtdnnahdafhddlaaGreatDoor
open Go.RowKit
set_option maxRecDepth 100000

theorem compact_lt (l : List (List UInt8)) : ((Lib.compact (l.mergeSort fun x y => decide (x ≤ y))).length < l.length) ↔ ¬ l.Nodup := by
  have hs := List.pairwise_mergeSort (le := fun x y : List UInt8 => decide (x ≤ y)) (fun a b c h1 h2 => by simp only [decide_eq_true_eq] at *; exact List.le_trans h1 h2) (fun a b => by simp only [Bool.or_eq_true, decide_eq_true_eq]; exact List.le_total a b) l
  have hp := (List.mergeSort_perm l fun x y => decide (x ≤ y)).nodup_iff
  have hlen := List.length_mergeSort (le := fun x y => decide (x ≤ y)) l
  generalize (l.mergeSort fun x y => decide (x ≤ y)) = L at hs hp hlen ⊢
  rw [← hp, ← hlen]
  have hidx : ∀ j (h : j < L.length), L.toArray[j]! = L[j] := fun j h => by rw [getElem!_pos L.toArray j (by simpa using h)]; simp
  constructor
  · intro h hn
    rw [Lib.compact_all L fun j hj => ?_] at h
    · exact absurd h (Nat.lt_irrefl _)
    · cases j with
      | zero => simp [Lib.keeps]
      | succ k =>
        refine Lib.keeps_pos ?_
        rw [hidx (k + 1) hj, show k + 1 - 1 = k from rfl, hidx k (by omega)]
        rw [List.nodup_iff_pairwise_ne, List.pairwise_iff_getElem] at hn
        exact (hn k (k + 1) (by omega) hj (by omega)).symm
  · intro hn
    rw [List.nodup_iff_pairwise_ne, List.pairwise_iff_getElem] at hn
    have hex : ∃ k, ∃ h : k + 1 < L.length, L[k] = L[k + 1] := by
      refine Classical.byContradiction fun hno => hn fun i j hi hj hij e => hno ⟨i, by omega, ?_⟩
      rw [List.pairwise_iff_getElem] at hs
      have h1 := of_decide_eq_true (hs i (i + 1) hi (by omega) (by omega))
      by_cases e2 : i + 1 = j
      · subst e2; exact e
      · have h2 := of_decide_eq_true (hs (i + 1) j (by omega) hj (by omega))
        rw [← e] at h2
        exact List.le_antisymm h1 h2
    obtain ⟨k, hk, e⟩ := hex
    unfold Lib.compact Lib.compactUpTo
    rw [List.length_map]
    have := (List.length_filter_lt_length_iff_exists (p := Lib.keeps L.toArray) (l := List.range L.length)).2 ⟨k + 1, List.mem_range.2 hk, by rw [Lib.keeps_neg (by omega) (by rw [hidx (k + 1) hk, show k + 1 - 1 = k from rfl, hidx k (by omega), e])]; simp⟩
    rwa [List.length_range] at this
theorem nodup_data (zs : List ByteArray) : (zs.map (·.data.toList)).Nodup ↔ zs.Nodup := by
  constructor
  · exact fun h => List.Pairwise.of_map _ (fun a b hab e => hab (by rw [e])) h
  · intro h
    refine List.pairwise_map.2 (h.imp fun {a b} hab e => hab ?_)
    rw [mkB_of e, ← mkB_of rfl]
set_option maxHeartbeats 1000000 in
theorem repeated_walk (A : Option Addr) (zs : List ByteArray) (c : Nat) (w : World) (h0 : 0 < zs.length) (hl : zs.length ≤ 1000000) (h : At kStr AnyB w A zs) :
    Calls Tryz.prog 146 #[.slice A zs.length c] w fun e w' => e = .returned (.bool (!decide zs.Nodup)) ∧ Below w.heap.size w w' := by
  obtain ⟨b, off, rfl, -, hlt, hc⟩ := h h0
  have hcell : ∀ j, j < zs.length → w.cell? ⟨b, off + j, none⟩ = some (.string (zs.getD j ByteArray.empty)) := by
    intro j hj
    obtain ⟨b', off', e, -, -, hz⟩ := h.str (List.getElem?_eq_getElem hj)
    injection e with e
    injection e with e1 e2
    subst e1 e2
    rw [hz, List.getD_eq_getElem?_getD, List.getElem?_eq_getElem hj]; rfl
  have hcl := Tryz.slices_Clone_string b off zs.length c zs w (Nat.le_refl _) (by omega) hcell
  rw [List.take_length, ← Lib.map_encStr] at hcl
  have hlt2 := compact_lt (zs.map (·.data.toList))
  rw [nodup_data, List.length_map] at hlt2
  have hls : (zs.map (·.data.toList)).length = zs.length := List.length_map _
  obtain ⟨n, hn⟩ : ∃ n, zs.length = n := ⟨_, rfl⟩
  obtain ⟨ss, hss⟩ : ∃ ss, zs.map (·.data.toList) = ss := ⟨_, rfl⟩
  obtain ⟨r, hr⟩ : ∃ r, decide zs.Nodup = r := ⟨_, rfl⟩
  have hval : Hid (decide ((Lib.compact (ss.mergeSort fun x y => decide (x ≤ y))).length < n) = !r) := hide (by
    rw [← hr, ← hss, ← hn, ← decide_not]
    refine decide_eq_decide.2 ?_
    exact hlt2)
  rw [hn] at hcl h0 hl hls ⊢
  rw [hss] at hcl hls
  rw [hr]
  obtain ⟨L, hL⟩ : ∃ L, (ss.mergeSort fun x y => decide (x ≤ y)) = L := ⟨_, rfl⟩
  have hLl : L.length = n := by rw [← hL, List.length_mergeSort, hls]
  rw [hL] at hval
  clear hlt2 hss hr hn hcell hc h
  go_enter Tryz.func146, Tryz.ntmps146
  go_wp2_with fail
  refine hcl.mono ?_
  clear hcl
  rintro e w1 ⟨v', rfl, hown, hnn, hb1⟩
  obtain ⟨g, cap, rfl, hg, hgl, hnc, hcm, -, hH⟩ := Lib.holds_of_ownsRow hown hnn
  have hso := Tryz.slices_Sort_string g 0 cap ss w1 hH hgl (by omega)
  rw [hls, hL] at hso
  clear hown hnn
  go_wp2_with fail
  refine hso.mono ?_
  clear hso
  rintro e w2 ⟨rfl, q, os, rfl⟩
  have hb2 : Below w.heap.size w (Sort.grow (Sort.putRow encStr (Sort.ahead w1 q) g 0 L.toArray) os) :=
    Below.grown hb1 (grownBy_sorted L.toArray) hb1.size (fun y hy => by injection hy with hy; omega)
  have hH2 : Sort.Holds encStr (Sort.grow (Sort.putRow encStr (Sort.ahead w1 q) g 0 L.toArray) os) g 0 L.toArray :=
    Sort.holds_grow _ _ _ _ _ _ (by rw [Sort.size_putRow]; exact hgl) (Sort.holds_putRow encStr (Sort.ahead w1 q) g 0 ss.toArray L.toArray (Sort.holds_ahead _ _ _ _ _ _ hH) (by simp only [List.size_toArray]; omega))
  obtain ⟨w2, hw2⟩ : ∃ w2, Sort.grow (Sort.putRow encStr (Sort.ahead w1 q) g 0 L.toArray) os = w2 := ⟨_, rfl⟩
  rw [hw2] at hb2 hH2 ⊢
  have hco := Tryz.slices_Compact_string g 0 cap L w2 hH2 (by omega) (by omega)
  rw [hLl] at hco
  clear hw2 hH
  go_wp2_with fail
  refine hco.mono ?_
  clear hco
  rintro e w3 ⟨rfl, q3, rfl⟩
  have hb3 := Lib.below_putRow (enc := encStr) (q := q3) (d := (Lib.compact L ++ List.replicate (n - (Lib.compact L).length) []).toArray) hb2 hg
  go_wp2
  go_ret
  exact ⟨by rw [← hval.out]; rfl, hb3⟩
end Go.Proofs.YtdnnahdafhddlaaGreatDoor

namespace Go.Proofs.YtdnnahdafhddlaaGreatDoor
open Go.RowKit
set_option maxRecDepth 100000

def cutA (p : ByteArray) : ByteArray := mkB (Lib.cut p.data.toList [46, 46]).1
def cutB (p : ByteArray) : ByteArray := mkB (Lib.cut p.data.toList [46, 46]).2.1
def dotT (p : ByteArray) : Bool := (Lib.cut p.data.toList [46, 46]).2.2
def twiB (p : ByteArray) : Bool := Lib.contains (Lib.cut p.data.toList [46, 46]).2.1 [46, 46]
theorem cutB_size (p : ByteArray) : (cutB p).size ≤ p.size := by
  unfold cutB
  rw [mkB_size, ← len_size p]
  unfold Lib.cut
  split
  · rw [List.length_drop]; omega
  · exact Nat.zero_le _
theorem cut2_walk (p : ByteArray) (hs : p.size < 1073741824) (w : World) (hS : Std w) : Calls Tryz.prog 51 #[.string p, .string ⟨#[46, 46]⟩] w fun e w' => e = .returned (.tuple #[.string (cutA p), .string (cutB p), .bool (dotT p)]) ∧ Below w.heap.size w w' := by
  obtain ⟨m, hm⟩ := hS.maxLen
  refine (Tryz.strings_Cut p ⟨#[46, 46]⟩ m w (by omega) hm).mono ?_
  rintro e w' ⟨rfl, n, rfl⟩
  exact ⟨rfl, ext_drewN (Below.refl _ _) n⟩
theorem con2_walk (p : ByteArray) (hs : p.size < 1073741824) (w : World) (hS : Std w) : Calls Tryz.prog 144 #[.string (cutB p), .string ⟨#[46, 46]⟩] w fun e w' => e = .returned (.bool (twiB p)) ∧ w' = w := by
  obtain ⟨m, hm⟩ := hS.maxLen
  have := Tryz.strings_Contains (cutB p) ⟨#[46, 46]⟩ m w (by have := cutB_size p; omega) hm
  rw [show (cutB p).data.toList = (Lib.cut p.data.toList [46, 46]).2.1 from mkB_list _] at this
  exact this
/-- How the reading of a part goes on. -/
theorem listF_err {out ps : List ByteArray} {p : ByteArray} (h : (partV p (64 - out.length)).1 ≠ 0) : listF out (p :: ps) = ((partV p (64 - out.length)).1, []) := by rw [listF, if_pos h]
theorem listF_ok {out ps : List ByteArray} {p : ByteArray} {more : List ByteArray} (h : partV p (64 - out.length) = (0, more)) : listF out (p :: ps) = if 64 < (out ++ more).length then (2, []) else listF (out ++ more) ps := by rw [listF, h, if_neg (by simp)]
theorem part_two {p : ByteArray} {room : Nat} (h0 : p.size ≠ 0) (h1 : twiB p = false) (h2 : dotT p = true) : partV p room = rangeV (cutA p) (cutB p) room := by
  unfold partV
  rw [if_neg (by rintro (h | h); exact h0 h; rw [show Lib.contains _ _ = twiB p from rfl, h1] at h; cases h)]
  exact if_pos h2
theorem part_one {p : ByteArray} {room : Nat} (h0 : p.size ≠ 0) (h1 : twiB p = false) (h2 : dotT p = false) : partV p room = if codeB p = true then (0, [p]) else (10, []) := by
  unfold partV
  rw [if_neg (by rintro (h | h); exact h0 h; rw [show Lib.contains _ _ = twiB p from rfl, h1] at h; cases h), if_neg (by rw [show (Lib.cut p.data.toList [46, 46]).2.2 = dotT p from rfl, h2]; simp)]
theorem part_form {p : ByteArray} {room : Nat} (h : p.size = 0 ∨ twiB p = true) : partV p room = (4, []) := by
  unfold partV
  exact if_pos h
theorem rangeV_some {a b : ByteArray} {room : Nat} (h : (rangeV a b room).1 = 0) : 0 < (rangeV a b room).2.length := by
  unfold rangeV at h ⊢
  by_cases h1 : codeB a = true ∧ codeB b = true
  · rw [if_pos h1] at h ⊢
    by_cases h2 : endsB a b = true
    · rw [if_pos h2] at h ⊢
      by_cases h3 : room ≤ numT b - numT a
      · rw [if_pos h3] at h; cases h
      · rw [if_neg h3]; simp
    · rw [if_neg h2] at h; cases h
  · rw [if_neg h1] at h; cases h
theorem flat_ones (l : List ByteArray) : (l.map fun x => [Value.string x]).flatten = l.map Value.string := by
  induction l with
  | nil => rfl
  | cons x l ih => rw [List.map_cons, List.flatten_cons, ih]; rfl
theorem at_many {S : Nat → Prop} {w : World} {A : Option Addr} {l : List ByteArray} (h : At kStr S w A l) (hn : 0 < l.length) :
    ∃ ad : Addr, A = some ad ∧ ∀ j u, (l.map fun x => [Value.string x]).flatten[j]? = some u → w.cell? (ad.add j) = some u := by
  obtain ⟨b, off, e, -, hlt, hc⟩ := h hn
  refine ⟨⟨b, off, none⟩, e, fun j u hu => ?_⟩
  rw [flat_ones, List.getElem?_map] at hu
  obtain ⟨x, hx, rfl⟩ := Option.map_eq_some_iff.1 hu
  obtain ⟨vs, rfl, hcell⟩ := hc j x hx
  rw [Addr.add_lit]
  simpa [kStr] using hcell 0 _ rfl
theorem rep_ones {S : Nat → Prop} {w : World} {l : List ByteArray} : ∀ (j : Nat) (x : ByteArray) (vs : List Value), l[j]? = some x → (l.map fun x => [Value.string x])[j]? = some vs → kStr.rep S w x vs := by
  intro j x vs h1 h2
  rw [List.getElem?_map, h1] at h2
  exact (Option.some.inj h2).symm
def ListSt (B : Nat) (w : World) (N : Nat) (ps : List ByteArray) (V : Nat × List ByteArray) (v i : Value) (wr : World) : Prop :=
  ∃ (k : Nat) (out : List ByteArray), k ≤ N ∧ i = .int .i64 k ∧ (0 < k → 0 < out.length) ∧ out.length ≤ 64 ∧ Own kStr 9 [] 0 B wr v out ∧ listF out (ps.drop k) = V ∧ Below B w wr
set_option maxHeartbeats 4000000 in
theorem list_walk (s : ByteArray) (w : World) (hS : Std w) (hs : s.size < 1073741824) :
    Calls Tryz.prog 98 #[.string s] w fun e w' => BetwIs (listV s) w e w' := by
  obtain ⟨V, hV⟩ : ∃ V, listV s = V := ⟨_, rfl⟩
  rw [hV]
  have hbig := hS.big
  by_cases h0 : s.size = 0
  · have e0 := isEmpty_true _ h0
    have e1 : s.toList = [] := List.isEmpty_iff.1 e0
    have hV' : V = (0, []) := by rw [← hV]; exact if_pos h0
    rw [hV']
    go_enter Tryz.func98, Tryz.ntmps98
    go_wp2
    go_ret2
    exact betw_none (Below.refl _ _)
  · have e0 := isEmpty_false _ h0
    have e1 : s.toList ≠ [] := fun e => by rw [e] at e0; cases e0
    obtain ⟨ps, hps⟩ : ∃ ps, partsOf s = ps := ⟨_, rfl⟩
    have hV' : listF [] ps = V := by rw [← hV, ← hps]; exact (if_neg h0).symm
    have hz : Lib.splitB ⟨#[59]⟩ 0 (Lib.countB s ⟨#[59]⟩) s = ps := by rw [← hps]; unfold partsOf; rw [if_neg h0]
    have hN : ps.length ≤ 1073741824 := by rw [← hps]; exact Nat.le_trans (partsOf_len s) (by omega)
    have hN1 : 0 < ps.length := by rw [← hz, splitB_len]; omega
    have hmem : ∀ p ∈ ps, p.size < 1073741824 := by rw [← hps]; intro p hp; have := partsOf_mem s p hp; omega
    have hsp := split_walk' 59 s ps hz (by omega) w hS
    obtain ⟨N, hNN⟩ : ∃ N, ps.length = N := ⟨_, rfl⟩
    rw [hNN] at hsp hN hN1
    replace hmem := hide hmem
    replace hNN := hide hNN
    clear hV hps hz
    go_enter Tryz.func98, Tryz.ntmps98
    go_wp2_with fail
    refine hsp.mono ?_
    clear hsp
    rintro e w2 ⟨rfl, hb2, hcl⟩
    have hS2 := hS.after hb2
    have hz2 := hb2.size
    have hlt2 : w.heap.size < w2.heap.size := by
      obtain ⟨z, hzz⟩ : ∃ z, ps[0]? = some z := ⟨_, List.getElem?_eq_getElem (by rw [hNN.out]; exact hN1)⟩
      exact World.block_lt_of_cell? _ _ (hcl 0 z hzz)
    replace hcl := hide hcl
    go_wp2_with fail
    go_loopw [4, 17] (fun v i wr => ListSt w2.heap.size w2 N ps V v i wr) (fun _ i _ => N - (intOf i).toNat)
    case atStart => exact ⟨0, [], Nat.zero_le _, rfl, fun h => absurd h (Nat.lt_irrefl _), Nat.zero_le _, Own.nil, hV', Below.refl _ _⟩
    case round =>
      obtain ⟨k, out, hk, rfl, hpos, hout, hown, hF, hb⟩ := hrel
      obtain ⟨A, c, rfl⟩ := hown.form
      have hS4 := hS2.after hb
      have hz4 := hb.size
      by_cases hlt : k < N
      · obtain ⟨p, hp⟩ : ∃ p, ps[k]? = some p := ⟨_, List.getElem?_eq_getElem (by rw [hNN.out]; exact hlt)⟩
        have hpz := hmem.out p (List.mem_of_getElem? hp)
        have hcell : wr.cell? ⟨w.heap.size, k, none⟩ = some (.string p) := ((bcell hb).1 _ _ hlt2).trans (hcl.out k p hp)
        have hdrop : ps.drop k = p :: ps.drop (k + 1) := by
          have hkl := (List.getElem?_eq_some_iff.1 hp).1
          rw [List.drop_eq_getElem_cons hkl]
          congr 1
          rw [List.getElem?_eq_getElem hkl] at hp
          exact Option.some.inj hp
        rw [hdrop] at hF
        have hcut := hide (cut2_walk p hpz)
        have hcon := hide (con2_walk p hpz)
        have hk0 : (0 : Int) ≤ (k : Int) := by omega
        have hk1 : (k : Int) < (N : Int) := by omega
        have hbw := hb2.trans (hb.mono hz2)
        by_cases hp0 : p.size = 0
        · have p0 := isEmpty_true _ hp0
          have p1 : p.toList = [] := List.isEmpty_iff.1 p0
          have hpv := part_form (p := p) (room := 64 - out.length) (.inl hp0)
          rw [listF_err (by rw [hpv]; simp), hpv] at hF
          subst hF
          clear hp hdrop hpv hp0 hcl hmem hNN hown hpos
          go_wp2_with (first | (go_at_call 51; (with_reducible refine (hcut.out _ ?_).mono ?_); exact hS4; rintro e w5 ⟨rfl, hb5⟩) | (go_at_call 144; (with_reducible refine (hcon.out _ ?_).mono ?_); exact hS4.after hb5; rintro e w6 ⟨rfl, rfl⟩) | (go_at_call 32; (with_reducible refine (cv.out _).mono ?_); rintro e w7 ⟨rfl, rfl⟩) | (go_at_call 145; (with_reducible refine (btw.out _ ?_).mono ?_); exact (hS4.after hb5).alloc _; rintro e w9 ⟨v9, rfl, hown9, hb9⟩))
          all_goals
            go_ret2
            exact betw_none (ext_trans hbw hb5)
        · have p0 := isEmpty_false _ hp0
          have p1 : p.toList ≠ [] := fun e => by rw [e] at p0; cases p0
          cases ht : twiB p with
          | true =>
            rw [ht] at hcon
            have hpv := part_form (p := p) (room := 64 - out.length) (.inr ht)
            rw [listF_err (by rw [hpv]; simp), hpv] at hF
            subst hF
            clear hp hdrop hpv hp0 hcl hmem hNN hown hpos ht
            go_wp2_with (first | (go_at_call 51; (with_reducible refine (hcut.out _ ?_).mono ?_); exact hS4; rintro e w5 ⟨rfl, hb5⟩) | (go_at_call 144; (with_reducible refine (hcon.out _ ?_).mono ?_); exact hS4.after hb5; rintro e w6 ⟨rfl, rfl⟩) | (go_at_call 32; (with_reducible refine (cv.out _).mono ?_); rintro e w7 ⟨rfl, rfl⟩) | (go_at_call 145; (with_reducible refine (btw.out _ ?_).mono ?_); exact (hS4.after hb5).alloc _; rintro e w9 ⟨v9, rfl, hown9, hb9⟩))
            all_goals
              go_ret2
              exact betw_none (ext_trans hbw hb5)
          | false =>
            rw [ht] at hcon
            cases h2 : dotT p with
            | false =>
              rw [h2] at hcut
              have hpv := part_one (room := 64 - out.length) hp0 ht h2
              have cv := hide (cvalid_walk p)
              cases hcb : codeB p with
              | false =>
                rw [hcb] at cv
                rw [if_neg (by rw [hcb]; simp)] at hpv
                rw [listF_err (by rw [hpv]; simp), hpv] at hF
                subst hF
                clear hp hdrop hpv hp0 hcl hmem hNN hown hpos ht h2 hcb
                go_wp2_with (first | (go_at_call 51; (with_reducible refine (hcut.out _ ?_).mono ?_); exact hS4; rintro e w5 ⟨rfl, hb5⟩) | (go_at_call 144; (with_reducible refine (hcon.out _ ?_).mono ?_); exact hS4.after hb5; rintro e w6 ⟨rfl, rfl⟩) | (go_at_call 32; (with_reducible refine (cv.out _).mono ?_); rintro e w7 ⟨rfl, rfl⟩) | (go_at_call 145; (with_reducible refine (btw.out _ ?_).mono ?_); exact (hS4.after hb5).alloc _; rintro e w9 ⟨v9, rfl, hown9, hb9⟩))
                all_goals
                  go_ret2
                  exact betw_none (ext_alloc (ext_trans hbw hb5) _)
              | true =>
                rw [hcb] at cv
                rw [if_pos hcb] at hpv
                rw [listF_ok hpv] at hF
                obtain ⟨out2, ho2⟩ : ∃ out2, out ++ [p] = out2 := ⟨_, rfl⟩
                have hl2 : out2.length = out.length + 1 := by rw [← ho2, List.length_append]; rfl
                rw [ho2] at hF
                clear hp hdrop hpv hp0 hpos ht h2 hcb
                go_wp2_with (first | (first | (go_at_call 51; (with_reducible refine (hcut.out _ ?_).mono ?_); exact hS4; rintro e w5 ⟨rfl, hb5⟩) | (go_at_call 144; (with_reducible refine (hcon.out _ ?_).mono ?_); exact hS4.after hb5; rintro e w6 ⟨rfl, rfl⟩) | (go_at_call 32; (with_reducible refine (cv.out _).mono ?_); rintro e w7 ⟨rfl, rfl⟩) | (go_at_call 145; (with_reducible refine (btw.out _ ?_).mono ?_); exact (hS4.after hb5).alloc _; rintro e w9 ⟨v9, rfl, hown9, hb9⟩)) | (at_builtin; refine wpList_own rfl _ _ rfl apd_strs (by decide) rfl ((hown.later hb5).alloc _) ?d1 (by decide) ⟨w6.heap.size, 0, none⟩ 1 rfl p [.string p] rfl (World.news_of_block (cs := #[.string p]) (t := 9) (fr := (0, 0)) (heap_alloc_new _ _)) (by decide) (Nat.zero_le _) ?d2 ?_))
                case d1 => omega
                case d2 => rw [World.size_alloc]; have := hb5.size; omega
                intro v8 w8 hown8 hgrow
                have hb8 := ((hown.later hb5).alloc _).below_grown (ext_alloc (hb.trans (hb5.mono hz4)) _) (Nat.le_refl _) hgrow
                obtain ⟨A2, c2, rfl⟩ := hown8.form
                clear hgrow hown ho2
                by_cases hfull : 64 < out2.length
                · have hfi : (64 : Int) < (out2.length : Int) := by omega
                  rw [if_pos hfull] at hF
                  subst hF
                  go_wp2
                  go_ret2
                  exact betw_none (hb2.trans (hb8.mono hz2))
                · have hfi : ¬ (64 : Int) < (out2.length : Int) := by omega
                  rw [if_neg hfull] at hF
                  go_wp2
                  go_roundw
                  case rel => exact ⟨k + 1, out2, by omega, by go_num, fun _ => by omega, by omega, hown8, hF, hb8⟩
                  case measure => simp [intOf]; omega
            | true =>
              rw [h2] at hcut
              have hpv := part_two (room := 64 - out.length) hp0 ht h2
              have hlen := rangeV_len (cutA p) (cutB p) (64 - out.length)
              have hsome := rangeV_some (a := cutA p) (b := cutB p) (room := 64 - out.length)
              have btw := between_walk (cutA p) (cutB p) (64 - out.length)
              obtain ⟨⟨en, more⟩, hr⟩ : ∃ r, rangeV (cutA p) (cutB p) (64 - out.length) = r := ⟨_, rfl⟩
              rw [hr] at hpv hlen hsome btw
              obtain ⟨a, ha⟩ : ∃ a, cutA p = a := ⟨_, rfl⟩
              obtain ⟨b, hbb⟩ : ∃ b, cutB p = b := ⟨_, rfl⟩
              rw [ha, hbb] at hcut btw
              rw [hbb] at hcon
              have hroom : (64 : Int) - (out.length : Int) = ((64 - out.length : Nat) : Int) := by omega
              obtain ⟨room, hrm⟩ : ∃ room, 64 - out.length = room := ⟨_, rfl⟩
              rw [hrm] at hlen btw hpv hroom
              have hr64 : room ≤ 64 := by omega
              have hwr : IntKind.i64.wrap ((64 : Int) - (out.length : Int)) = (room : Int) := by rw [IntKind.wrap_i64]; omega
              replace btw := hide (fun (W : World) (h : Std W) => btw W h hr64)
              clear hp hdrop hp0 hpos ht h2 ha hbb hr hroom
              by_cases hen : en = 0
              · subst hen
                have hm0 := hsome rfl
                rw [listF_ok (by rw [hrm]; exact hpv)] at hF
                obtain ⟨out2, ho2⟩ : ∃ out2, out ++ more = out2 := ⟨_, rfl⟩
                have hl2 : out2.length = out.length + more.length := by rw [← ho2, List.length_append]
                rw [ho2] at hF
                have hlen' : more.length ≤ room := hlen
                clear hsome hlen hpv
                replace ho2 := hide ho2
                go_wp2_with (first | (go_at_call 145; (with_reducible refine (btw.out _ ?_).mono ?_); exact (hS4.after hb5).alloc _; rintro e w9 ⟨v9, rfl, hown9, hb9⟩; obtain ⟨A9, c9, rfl⟩ := hown9.form; obtain ⟨ad, rfl, hnews⟩ := at_many hown9.any' hm0) | (first | (go_at_call 51; (with_reducible refine (hcut.out _ ?_).mono ?_); exact hS4; rintro e w5 ⟨rfl, hb5⟩) | (go_at_call 144; (with_reducible refine (hcon.out _ ?_).mono ?_); exact hS4.after hb5; rintro e w6 ⟨rfl, rfl⟩) | (go_at_call 32; (with_reducible refine (cv.out _).mono ?_); rintro e w7 ⟨rfl, rfl⟩) | (go_at_call 145; (with_reducible refine (btw.out _ ?_).mono ?_); exact (hS4.after hb5).alloc _; rintro e w9 ⟨v9, rfl, hown9, hb9⟩)) | (at_builtin; refine wpList_own_many rfl _ _ rfl apd_strs (by decide) rfl (((hown.later hb5).alloc _).later hb9) more (more.map fun x => [Value.string x]) (List.length_map _) ?d1 (by decide) ad more.length c9 rfl rfl rep_ones hnews (by decide) (Nat.zero_le _) ?d2 ?_))
                case d1 => omega
                case d2 => have := hb5.size; have := hb9.size; rw [World.size_alloc] at this; omega
                intro v8 w8 hown8 hgrow
                have hb8 := (((hown.later hb5).alloc _).later hb9).below_grown ((ext_alloc (hb.trans (hb5.mono hz4)) _).trans (hb9.mono (by rw [World.size_alloc]; have := hb5.size; omega))) (Nat.le_refl _) hgrow
                rw [ho2.out] at hown8
                obtain ⟨A2, c2, rfl⟩ := hown8.form
                clear hgrow hown ho2 hown9 hb9 hnews
                have hfi : ¬ (64 : Int) < (out2.length : Int) := by omega
                rw [if_neg (by omega)] at hF
                go_wp2
                go_roundw
                case rel => exact ⟨k + 1, out2, by omega, by go_num, fun _ => by omega, by omega, hown8, hF, hb8⟩
                case measure => simp [intOf]; omega
              · have heni : ¬ (en : Int) = 0 := by omega
                rw [listF_err (by rw [hrm, hpv]; exact hen), hrm, hpv] at hF
                subst hF
                clear hsome hlen hpv hcl hmem hNN hown
                go_wp2_with (first | (go_at_call 51; (with_reducible refine (hcut.out _ ?_).mono ?_); exact hS4; rintro e w5 ⟨rfl, hb5⟩) | (go_at_call 144; (with_reducible refine (hcon.out _ ?_).mono ?_); exact hS4.after hb5; rintro e w6 ⟨rfl, rfl⟩) | (go_at_call 32; (with_reducible refine (cv.out _).mono ?_); rintro e w7 ⟨rfl, rfl⟩) | (go_at_call 145; (with_reducible refine (btw.out _ ?_).mono ?_); exact (hS4.after hb5).alloc _; rintro e w9 ⟨v9, rfl, hown9, hb9⟩))
                all_goals
                  go_ret2
                  exact betw_none (ext_trans (ext_alloc (ext_trans hbw hb5) _) hb9)
      · obtain rfl : k = N := by omega
        rw [List.drop_of_length_le (by rw [hNN.out]; exact Nat.le_refl _)] at hF
        have hon := hpos hN1
        obtain ⟨A', c', e, hc, hat⟩ := hown.any
        injection e with e1 e2 e3
        subst e1 e3
        have hrep := repeated_walk A out c wr hon (by omega) hat.any
        rw [listF] at hF
        have hbw := hb2.trans (hb.mono hz2)
        cases hd : decide out.Nodup with
        | true =>
          rw [if_pos (of_decide_eq_true hd)] at hF
          rw [hd] at hrep
          subst hF
          clear hd hcl hmem hNN hat hpos
          go_wp2_with fail
          refine hrep.mono ?_
          clear hrep
          rintro e w5 ⟨rfl, hb5⟩
          go_wp2
          go_ret2
          exact ⟨_, rfl, (hown.lower hz2).later hb5, ext_trans hbw hb5⟩
        | false =>
          rw [if_neg (of_decide_eq_false hd)] at hF
          rw [hd] at hrep
          subst hF
          clear hd hcl hmem hNN hat hpos
          go_wp2_with fail
          refine hrep.mono ?_
          clear hrep
          rintro e w5 ⟨rfl, hb5⟩
          go_wp2
          go_ret2
          exact betw_none (ext_trans hbw hb5)
end Go.Proofs.YtdnnahdafhddlaaGreatDoor
