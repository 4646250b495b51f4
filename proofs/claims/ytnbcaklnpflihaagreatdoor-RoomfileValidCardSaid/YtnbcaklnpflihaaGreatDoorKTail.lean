/- Walks of the comparisons of codes, down to their elements. No condition. Walks of codes.elements, Compare and timetableref03.Compare. Conditions: the texts' lengths are ints. Walks of codes.parts and timetableref03.tail: a code's last number. Conditions: at most 18 bytes; what the program's variables hold. -/
import Derived.Test.YtnbcaklnpflihaaGreatDoorKTgC
import Derived.Test.YtnbcaklnpflihaaGreatDoorKDiceC
import Derived.Test.YtnbcaklnpflihaaGreatDoorKTgH
import Derived.Test.YtnbcaklnpflihaaGreatDoorShelfT
import Derived.BigQuiet
import Derived.Test.YtnbcaklnpflihaaGreatDoorKNumS
namespace Go.Proofs.YtnbcaklnpflihaaGreatDoor
open Go.RowKit
set_option maxRecDepth 100000

/-! Plain. -/
def ordL (x y : List UInt8) : Int := if Op.bytesLess x y then -1 else if x == y then 0 else 1
def runD (d : Bool) : List UInt8 → Nat
  | [] => 0
  | c :: r => if digN c.toNat = d then runD d r + 1 else 0
/-- The length of the first element. -/
def elemN : List UInt8 → Nat
  | [] => 0
  | c :: r => runD (digN c.toNat) r + 1
theorem runD_eq {d : Bool} : ∀ (l : List UInt8) (n : Nat), n ≤ l.length → (∀ j, j < n → digN (l.getD j 0).toNat = d) → (n = l.length ∨ digN (l.getD n 0).toNat ≠ d) → runD d l = n
  | [], n, h, _, _ => by simp at h; subst h; rfl
  | c :: r, 0, _, _, h => by
    rcases h with h | h
    · cases h
    · rw [runD, if_neg (show ¬ digN c.toNat = d from h)]
  | c :: r, n + 1, h0, h1, h2 => by
    rw [runD, if_pos (show digN c.toNat = d from h1 0 (by omega)), runD_eq r n (by simpa using h0) (fun j hj => by simpa using h1 (j + 1) (by omega)) (by rcases h2 with h | h; exact .inl (by simpa using h); exact .inr (by simpa using h))]
theorem elemN_eq {l : List UInt8} {n : Nat} (h0 : 1 ≤ n) (h : n ≤ l.length) (h1 : ∀ j, j < n → digN (l.getD j 0).toNat = digN (l.getD 0 0).toNat) (h2 : n = l.length ∨ digN (l.getD n 0).toNat ≠ digN (l.getD 0 0).toNat) : elemN l = n := by
  match l, n, h0, h with
  | c :: r, n + 1, _, h =>
    rw [elemN, runD_eq r n (by simpa using h) (fun j hj => by simpa using h1 (j + 1) (by omega)) (by rcases h2 with h | h; exact .inl (by simpa using h); exact .inr (by simpa using h))]
theorem elemN_le (l : List UInt8) (h : 0 < l.length) : 1 ≤ elemN l ∧ elemN l ≤ l.length := by
  have hr : ∀ (d : Bool) (l : List UInt8), runD d l ≤ l.length := by
    intro d l
    induction l with
    | nil => exact Nat.le_refl _
    | cons c r ih => unfold runD; split <;> simp only [List.length_cons] <;> omega
  match l, h with
  | c :: r, _ => exact ⟨Nat.succ_le_succ (Nat.zero_le _), Nat.succ_le_succ (hr _ r)⟩
theorem ext_list (s : ByteArray) (f j : Nat) : (s.extract f j).data.toList = (s.data.toList.drop f).take (j - f) := by
  simp
theorem len_size (s : ByteArray) : s.data.toList.length = s.size := by simp
set_option maxHeartbeats 1000000 in
theorem isnan_walk (x : ByteArray) (w : World) : Calls Tryz.prog 202 #[.string x] w fun e w' => e = .returned (.bool false) ∧ w = w' := by
  have hq : (x.toList == x.toList) = true := by simp
  go_enter Tryz.func202, Tryz.ntmps202
  go_wp2
  go_ret
  exact ⟨rfl, rfl⟩
/-! Elements. -/
def dgAt (s : ByteArray) (k : Nat) : Bool := digN (s.data.toList.getD k 0).toNat
theorem dgAt_of {s : ByteArray} {k : Nat} (h : k < s.size) : digN s[k].toNat = dgAt s k := by unfold dgAt; rw [byte_at s k h]
theorem elem_done {s : ByteArray} {n : Nat} (h0 : 1 ≤ n) (h : n ≤ s.size) (h1 : ∀ j, j < n → dgAt s j = dgAt s 0) (h2 : n = s.size ∨ dgAt s n ≠ dgAt s 0) : elemN s.data.toList = n :=
  elemN_eq h0 (by rw [len_size]; exact h) h1 (by rw [len_size]; exact h2)
def R3Elem (s : ByteArray) (w : World) (e : Ending) (w' : World) : Prop :=
  ∃ X Y : ByteArray, e = .returned (.tuple #[.string X, .string Y]) ∧ X.data.toList = s.data.toList.take (elemN s.data.toList) ∧ Y.data.toList = s.data.toList.drop (elemN s.data.toList) ∧ Below w.heap.size w w'
/-! A number without zeros in front. -/
def bareL : List UInt8 → List UInt8
  | [] => []
  | c :: r => if c = 48 then bareL r else c :: r
theorem bareL_step {s : ByteArray} (h : 0 < s.size) : bareL s.data.toList = if s[0] = 48 then bareL (s.data.toList.drop 1) else s.data.toList := by
  have h1 : s.data.toList = s[0] :: s.data.toList.drop 1 := by
    have := List.drop_eq_getElem_cons (l := s.data.toList) (i := 0) (by simpa using h)
    rw [List.drop_zero] at this
    exact this
  rw [h1, bareL]
  simp
def szV : Value → Nat
  | .string s => s.size
  | _ => 0
end Go.Proofs.YtnbcaklnpflihaaGreatDoor

namespace Go.Proofs.YtnbcaklnpflihaaGreatDoor
open Go.RowKit
set_option maxRecDepth 100000

def dg0 (l : List UInt8) : Bool := digN (l.getD 0 0).toNat
def numC (u v : List UInt8) : Int := if u.length < v.length then -1 else if v.length < u.length then 1 else ordL u v
def elemC (p q : List UInt8) : Int := if dg0 p = true then (if dg0 q = true then numC (bareL p) (bareL q) else -1) else if dg0 q = true then 1 else ordL p q
def endC (a b x y : List UInt8) : Int := if x = [] then (if y = [] then ordL a b else -1) else if y = [] then 1 else ordL a b
def cmpF (a b : List UInt8) : Nat → List UInt8 → List UInt8 → Int
  | 0, x, y => endC a b x y
  | n + 1, x, y => if x = [] ∨ y = [] then endC a b x y else
    if elemC (x.take (elemN x)) (y.take (elemN y)) ≠ 0 then elemC (x.take (elemN x)) (y.take (elemN y)) else cmpF a b n (x.drop (elemN x)) (y.drop (elemN y))
def compareV (a b : List UInt8) : Int := cmpF a b a.length a b
theorem trim_bare : ∀ l : List UInt8, Lib.trimLeftB l 48 = bareL l
  | [] => rfl
  | c :: r => by
    have ih := trim_bare r
    unfold Lib.trimLeftB at ih ⊢
    rw [List.dropWhile_cons, bareL]
    by_cases h : c = 48
    · rw [if_pos h, if_pos (by simpa using h)]; exact ih
    · rw [if_neg h, if_neg (by simpa using h)]
theorem cmpF_end {a b : List UInt8} {n : Nat} {x y : List UInt8} (h : x = [] ∨ y = []) : cmpF a b n x y = endC a b x y := by
  cases n with
  | zero => rfl
  | succ n => rw [cmpF, if_pos h]
theorem cmpF_next {a b : List UInt8} {n : Nat} {x y : List UInt8} (hx : x ≠ []) (hy : y ≠ []) (hn : x.length ≤ n) : ∃ n', n = n' + 1 ∧ cmpF a b n x y = if elemC (x.take (elemN x)) (y.take (elemN y)) ≠ 0 then elemC (x.take (elemN x)) (y.take (elemN y)) else cmpF a b n' (x.drop (elemN x)) (y.drop (elemN y)) := by
  have h0 : 0 < x.length := List.length_pos_iff.2 hx
  obtain ⟨n', rfl⟩ : ∃ n', n = n' + 1 := ⟨n - 1, by omega⟩
  exact ⟨n', rfl, by rw [cmpF, if_neg (fun h => h.elim hx hy)]⟩
theorem dg0_of {s : ByteArray} (h : 0 < s.size) : digN s[0].toNat = dg0 s.data.toList := by rw [dgAt_of h]; rfl
theorem toList_dataL (s : ByteArray) : s.toList = s.data.toList := ByteArray.toList_eq s
theorem numC_or (u v : List UInt8) : (if Lib.compareInt u.length v.length ≠ 0 then Lib.compareInt u.length v.length else ordL u v) = numC u v := by
  unfold Lib.compareInt numC
  by_cases h1 : u.length < v.length
  · rw [if_pos (by omega : (u.length : Int) < v.length), if_pos h1]; rfl
  · by_cases h2 : v.length < u.length
    · rw [if_neg (by omega : ¬ (u.length : Int) < v.length), if_pos (by omega : (u.length : Int) > v.length), if_neg h1, if_pos h2]; rfl
    · rw [if_neg (by omega : ¬ (u.length : Int) < v.length), if_neg (by omega : ¬ (u.length : Int) > v.length), if_neg h1, if_neg h2]; rfl
end Go.Proofs.YtnbcaklnpflihaaGreatDoor

namespace Go.Proofs.YtnbcaklnpflihaaGreatDoor
open Go.RowKit
set_option maxRecDepth 100000

/-- Where the last number begins, looked for from place n down. -/
def tlN (s : ByteArray) : Nat → Nat
  | 0 => 0
  | n + 1 => if dgAt s n = true then tlN s n else n + 1
def tailAt (s : ByteArray) : Nat := tlN s s.size
theorem tlN_le (s : ByteArray) : ∀ n, tlN s n ≤ n
  | 0 => Nat.le_refl _
  | n + 1 => by unfold tlN; split; exact Nat.le_succ_of_le (tlN_le s n); exact Nat.le_refl _
theorem tlN_digs (s : ByteArray) : ∀ n j, tlN s n ≤ j → j < n → dgAt s j = true
  | 0, j, _, h => by omega
  | n + 1, j, h1, h2 => by
    unfold tlN at h1
    split at h1
    · rename_i hd
      by_cases e : j = n
      · rw [e]; exact hd
      · exact tlN_digs s n j h1 (by omega)
    · omega
theorem tail_le (s : ByteArray) : tailAt s ≤ s.size := tlN_le s s.size
def TailEnd (s : ByteArray) (w : World) (e : Ending) (w' : World) : Prop :=
  ∃ X Y : ByteArray, e = .returned (.tuple #[.string X, .string Y]) ∧ X.data.toList = s.data.toList.take (tailAt s) ∧ Y.data.toList = s.data.toList.drop (tailAt s) ∧ Below w.heap.size w w'
set_option maxHeartbeats 4000000 in
theorem r3tail_walk (s : ByteArray) (w : World) (hs : s.size ≤ 9223372036854775807) :
    Calls Tryz.prog 59 #[.string s] w fun e w' => TailEnd s w e w' := by
  have hfin : Hid (∀ e w', TailEnd s w e w' = (∃ X Y : ByteArray, e = .returned (.tuple #[.string X, .string Y]) ∧ X.data.toList = s.data.toList.take (tailAt s) ∧ Y.data.toList = s.data.toList.drop (tailAt s) ∧ Below w.heap.size w w')) := hide fun _ _ => rfl
  have hle := tail_le s
  obtain ⟨T, hT⟩ : ∃ T, tailAt s = T := ⟨_, rfl⟩
  rw [hT] at hfin hle
  go_enter Tryz.func59, Tryz.ntmps59
  go_wp2
  go_loopw [4] (fun i wr => ∃ k : Nat, k ≤ s.size ∧ i = .int .i64 k ∧ tlN s k = T ∧ Below w.heap.size w wr) (fun i _ => (intOf i).toNat)
  case atStart => exact ⟨s.size, Nat.le_refl _, rfl, hT, Below.refl _ _⟩
  case round =>
    obtain ⟨k, hk, rfl, hTk, hb⟩ := hrel
    have hk0 : (0 : Int) ≤ (k : Int) := by omega
    have hks : (k : Int) ≤ (s.size : Int) := by omega
    cases k with
    | zero =>
      obtain rfl : 0 = T := hTk
      clear hT
      go_upto_region 4 with fail
      go_region
      all_goals
        go_wp2
        go_ret2
        rw [hfin.out]
        exact ⟨_, _, rfl, by simp, by simp, by first | exact hb | exact ext_drew hb⟩
    | succ j =>
      have hj : j < s.size := by omega
      have hA := dgAt_of hj
      have hji : (j : Int) < (s.size : Int) := by omega
      have hw1 : IntKind.i64.wrap ((j : Int) + 1 - 1) = (j : Int) := by rw [IntKind.wrap_i64]; omega
      have hj0 : (0 : Int) ≤ (j : Int) := by omega
      rw [tlN] at hTk
      rw [show ((j + 1 : Nat) : Int) = (j : Int) + 1 from rfl]
      cases hd : dgAt s j with
      | true =>
        rw [hd] at hA
        rw [hd, if_pos rfl] at hTk
        have d1 := hide (fun w => r3digN_at hA w)
        replace hTk := hide hTk
        clear hd hA hk0 hks
        go_wp2_with (go_at_call 68; refine (d1.out _).mono ?_; rintro e w' ⟨rfl, rfl⟩)
        go_roundw
        case rel => exact ⟨j, by omega, by go_num, hTk.out, hb⟩
        case measure => simp [intOf]
      | false =>
        rw [hd] at hA
        rw [hd, if_neg (by simp)] at hTk
        have d1 := hide (fun w => r3digN_at hA w)
        have hj1 : (j : Int) + 1 ≤ (s.size : Int) := by omega
        subst hTk
        clear hd hA hT hk0 hks
        go_wp2_with (first | (go_at_call 68; refine (d1.out _).mono ?_; rintro e w' ⟨rfl, rfl⟩))
        go_region
        all_goals
          go_wp2
          go_ret2
          rw [hfin.out]
          exact ⟨_, _, rfl, by rw [ext_list]; simp, by rw [ext_list, List.take_of_length_le (by simp)], by first | exact hb | exact ext_drew hb⟩
def valL (l : List UInt8) : Nat := (Lib.decFrom 0 l).getD 0
def PartsEnd (s : ByteArray) (w : World) (e : Ending) (w' : World) : Prop :=
  ∃ X : ByteArray, e = .returned (.tuple #[.string X, .int .i64 (if tailAt s < s.size then (valL (s.data.toList.drop (tailAt s)) : Int) else 0), .int .i64 ((s.size : Int) - (tailAt s : Int)), .bool (decide (tailAt s < s.size))]) ∧ X.data.toList = s.data.toList.take (tailAt s) ∧ Below w.heap.size w w'
theorem end_four {fn : Func} {p q r t : Tmp} (hr : fn.results = #[.tmp p, .tmp q, .tmp r, .tmp t]) {Q : Ending → World → Prop} {act : Act} {w : World} (a b c d : Value) (hd : act.defers = [])
    (h1 : act.tmps.getD p undef = a) (h2 : act.tmps.getD q undef = b) (h3 : act.tmps.getD r undef = c) (h4 : act.tmps.getD t undef = d)
    (hQ : Q (.returned (.tuple #[a, b, c, d])) w) : bodyPost Tryz.prog fn Q .ret act w := by
  refine bodyPost_ret (v := .tuple #[a, b, c, d]) ?_ hd hQ
  simp only [results, hr]
  simp [-Array.getD_eq_getD_getElem?]
  rw [h1, h2, h3, h4]
  exact ⟨rfl, rfl, rfl, rfl⟩
theorem tail_digS (s : ByteArray) : digS (s.extract (tailAt s) s.size) = true := by
  unfold digS
  rw [ext_list, List.take_of_length_le (by simp), List.all_eq_true]
  intro b hb
  obtain ⟨j, hj⟩ := List.getElem?_of_mem hb
  rw [List.getElem?_drop] at hj
  have hl := (List.getElem?_eq_some_iff.1 hj).1
  rw [len_size] at hl
  have := tlN_digs s s.size (tailAt s + j) (Nat.le_add_right _ _) hl
  unfold dgAt at this
  rw [List.getD_eq_getElem?_getD, hj] at this
  exact this
set_option maxHeartbeats 8000000 in
theorem parts_walk (s : ByteArray) (w : World) (hS : Std w) (hs : s.size ≤ 18) :
    Calls Tryz.prog 126 #[.string s] w fun e w' => PartsEnd s w e w' := by
  have hfin : Hid (∀ e w', PartsEnd s w e w' = (∃ X : ByteArray, e = .returned (.tuple #[.string X, .int .i64 (if tailAt s < s.size then (valL (s.data.toList.drop (tailAt s)) : Int) else 0), .int .i64 ((s.size : Int) - (tailAt s : Int)), .bool (decide (tailAt s < s.size))]) ∧ X.data.toList = s.data.toList.take (tailAt s) ∧ Below w.heap.size w w')) := hide fun _ _ => rfl
  have hle := tail_le s
  have hdg := tail_digS s
  have hxl := ext_list s (tailAt s) s.size
  rw [List.take_of_length_le (by simp)] at hxl
  have hxs : (s.extract (tailAt s) s.size).size = s.size - tailAt s := by simp
  obtain ⟨T, hT⟩ : ∃ T, tailAt s = T := ⟨_, rfl⟩
  rw [hT] at hfin hle hdg hxl hxs
  obtain ⟨te, pe, hv⟩ := hS.errSyntax
  have hbig := hS.big
  go_enter Tryz.func126, Tryz.ntmps126
  go_wp2
  go_loopw [6] (fun i wr => ∃ k : Nat, k ≤ s.size ∧ i = .int .i64 k ∧ tlN s k = T ∧ wr = w) (fun i _ => (intOf i).toNat)
  case atStart => exact ⟨s.size, Nat.le_refl _, rfl, hT, rfl⟩
  case round =>
    obtain ⟨k, hk, rfl, hTk, rfl⟩ := hrel
    by_cases hkT : k = T
    · subst hkT
      have hT0i : (0 : Int) ≤ (k : Int) := by omega
      have hTsi : (k : Int) ≤ (s.size : Int) := by omega
      have hvv : Hid (valL (s.data.toList.drop k) = valS (s.extract k s.size)) := hide (by unfold valS valL; rw [hxl])
      have hcase : (k = 0 ∨ ∃ j, k = j + 1 ∧ dgAt s j = false) := by
        cases k with
        | zero => exact .inl rfl
        | succ j =>
          refine .inr ⟨j, rfl, ?_⟩
          cases hd : dgAt s j with
          | false => rfl
          | true => rw [tlN, hd, if_pos rfl] at hTk; have := tlN_le s j; omega
      have hat : k < s.size → Hid (Lib.atoi (s.extract k s.size).data.toList = some (valS (s.extract k s.size) : Int)) := fun h => hide (dig_atoi hdg (by rw [hxs]; exact Nat.sub_pos_of_lt h))
      have hno : ¬ k < s.size → Hid (Lib.atoi (s.extract k s.size).data.toList = none) := fun h => hide (by
        rw [hxl, List.drop_of_length_le (by rw [len_size]; omega)]; decide)
      have hx18 : (s.extract k s.size).size ≤ 18 := by rw [hxs]; exact Nat.le_trans (Nat.sub_le _ _) hs
      have hwz : IntKind.i64.wrap ((s.size : Int) - (k : Int)) = (s.size : Int) - (k : Int) := by rw [IntKind.wrap_i64]; omega
      obtain ⟨Z, hZ⟩ : ∃ Z, s.extract k s.size = Z := ⟨_, rfl⟩
      have htk : (s.extract 0 k).data.toList = s.data.toList.take k := by rw [ext_list]; simp
      rw [hZ] at hvv hat hno hx18
      obtain ⟨v, hv2⟩ : ∃ v, valS Z = v := ⟨_, rfl⟩
      rw [hv2] at hvv hat
      rw [hvv.out] at hfin
      replace hat := hide hat
      replace hno := hide hno
      replace htk := hide htk
      replace hZ := hide hZ
      rcases hcase with h0 | ⟨j, hj, hd⟩
      · have hk0 : ¬ (0 : Int) < (k : Int) := by omega
        replace h0 := hide h0
        clear hT hTk hdg hxl hxs hv2 hvv
        by_cases hks : k < s.size
        · have ha := hat.out hks
          have hksi : (k : Int) < (s.size : Int) := by omega
          rw [if_pos hks, decide_eq_true hks] at hfin
          clear hat hno
          go_wp2_with (first | (rw [hZ.out]; go_at_call 103; refine (Tryz.strconv_Atoi Z v hx18 ha.out _).mono ?_; rintro e w' ⟨rfl, t, rfl⟩))
          all_goals first | (exfalso; omega) | (go_region; all_goals (go_wp2; refine end_four rfl _ _ _ _ rfl rfl rfl rfl rfl ?_; rw [hfin.out]; exact ⟨_, rfl, htk.out, by first | exact Joins.below_bytesWorld _ _ _ _ (Nat.le_refl _) | exact ext_drew (Joins.below_bytesWorld _ _ _ _ (Nat.le_refl _))⟩))
        · have ha := hno.out hks
          have hksi : ¬ (k : Int) < (s.size : Int) := by omega
          rw [if_neg hks, decide_eq_false hks] at hfin
          clear hat hno
          go_wp2_with (first | (rw [hZ.out]; go_at_call 103; refine (Tryz.strconv_Atoi_err Z hx18 ha.out _ _ hv (Or.inr ⟨te, pe, rfl⟩)).mono ?_; rintro e w' ⟨N, rfl, hN, hcc, hbb⟩))
          all_goals first | (exfalso; omega) | (go_region; all_goals (go_wp2; refine end_four rfl _ _ _ _ rfl rfl rfl rfl rfl ?_; rw [hfin.out]; exact ⟨_, rfl, htk.out, by first | exact hbb | exact ext_drew hbb⟩))
      · have hjs : j < s.size := by omega
        have hA := dgAt_of hjs
        rw [hd] at hA
        have hji : (j : Int) < (s.size : Int) := by omega
        have hj0 : (0 : Int) ≤ (j : Int) := by omega
        have hkp : (0 : Int) < (k : Int) := by omega
        have hw1 : IntKind.i64.wrap ((k : Int) - 1) = (j : Int) := by rw [IntKind.wrap_i64]; omega
        have d1 := hide (fun w => digN_at hA w)
        replace hj := hide hj
        clear hd hA hT hTk hdg hxl hxs hv2 hvv
        by_cases hks : k < s.size
        · have ha := hat.out hks
          have hksi : (k : Int) < (s.size : Int) := by omega
          rw [if_pos hks, decide_eq_true hks] at hfin
          clear hat hno
          go_wp2_with (first | (go_at_call 63; refine (d1.out _).mono ?_; rintro e w' ⟨rfl, rfl⟩) | (rw [hZ.out]; go_at_call 103; refine (Tryz.strconv_Atoi Z v hx18 ha.out _).mono ?_; rintro e w' ⟨rfl, t, rfl⟩))
          all_goals first | (exfalso; omega) | (go_region; all_goals (go_wp2; refine end_four rfl _ _ _ _ rfl rfl rfl rfl rfl ?_; rw [hfin.out]; exact ⟨_, rfl, htk.out, by first | exact Joins.below_bytesWorld _ _ _ _ (Nat.le_refl _) | exact ext_drew (Joins.below_bytesWorld _ _ _ _ (Nat.le_refl _))⟩))
        · have ha := hno.out hks
          have hksi : ¬ (k : Int) < (s.size : Int) := by omega
          rw [if_neg hks, decide_eq_false hks] at hfin
          clear hat hno
          go_wp2_with (first | (go_at_call 63; refine (d1.out _).mono ?_; rintro e w' ⟨rfl, rfl⟩) | (rw [hZ.out]; go_at_call 103; refine (Tryz.strconv_Atoi_err Z hx18 ha.out _ _ hv (Or.inr ⟨te, pe, rfl⟩)).mono ?_; rintro e w' ⟨N, rfl, hN, hcc, hbb⟩))
          all_goals first | (exfalso; omega) | (go_region; all_goals (go_wp2; refine end_four rfl _ _ _ _ rfl rfl rfl rfl rfl ?_; rw [hfin.out]; exact ⟨_, rfl, htk.out, by first | exact hbb | exact ext_drew hbb⟩))
    · obtain ⟨j, rfl⟩ : ∃ j, k = j + 1 := by
        cases k with
        | zero => exact absurd hTk hkT
        | succ j => exact ⟨j, rfl⟩
      have hj : j < s.size := by omega
      have hA := dgAt_of hj
      have hji : (j : Int) < (s.size : Int) := by omega
      have hw1 : IntKind.i64.wrap ((j : Int) + 1 - 1) = (j : Int) := by rw [IntKind.wrap_i64]; omega
      have hj0 : (0 : Int) ≤ (j : Int) := by omega
      rw [tlN] at hTk
      have hd : dgAt s j = true := by
        cases hd : dgAt s j with
        | true => rfl
        | false => rw [hd, if_neg (by simp)] at hTk; exact absurd hTk hkT
      rw [show ((j + 1 : Nat) : Int) = (j : Int) + 1 from rfl]
      rw [hd] at hA
      rw [hd, if_pos rfl] at hTk
      have d1 := hide (fun w => digN_at hA w)
      replace hTk := hide hTk
      clear hd hA hk hkT hdg hxl hxs hv
      go_wp2_with (go_at_call 63; refine (d1.out _).mono ?_; rintro e w' ⟨rfl, rfl⟩)
      go_roundw
      case rel => exact ⟨j, by omega, by go_num, hTk.out, by trivial⟩
      case measure => simp [intOf]
end Go.Proofs.YtnbcaklnpflihaaGreatDoor
