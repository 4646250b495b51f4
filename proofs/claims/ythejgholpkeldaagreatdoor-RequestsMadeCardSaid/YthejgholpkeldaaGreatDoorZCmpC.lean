/- Walks of the comparisons of codes, down to their elements. No condition. Walks of codes.elements, Compare and timetableref03.Compare. Conditions: the texts' lengths are ints. Walk of codes.Compare. Conditions: the texts' lengths are ints. -/
import Derived.Test.YthejgholpkeldaaGreatDoorRows
import Derived.WalkKit
import Derived.WalkSpells
import Derived.WalkLawsBesides
import Derived.BigGuardPart
import Derived.Lib.Hide
import Derived.Laws.BitsAllLaws
import Derived.Laws.BitsLemmas
import Derived.Lib.LaidTab
import Derived.Test.YthejgholpkeldaaGreatDoorShelf
import Derived.Lib.ConvBytes
import Derived.Deep.QuietTactic
import Derived.BigQuiet
import Derived.Laws.ResultCell
import Derived.RegionTactic
import Derived.BigRegion
import Derived.Deep.RegionHeld3
import Derived.Deep.DeepCutAuto
import Derived.Lib.SmallJoins
import Derived.Lib.SplitLaws
import Derived.Lib.CountLaws
import Derived.Lib.IndexMore
import Derived.Lib.Split
import Derived.Lib.Join
import Derived.Lib.ItoaNum
import Derived.Laws.AppendOwn
import Derived.Test.YthejgholpkeldaaGreatDoorShelfT
import Derived.Test.YthejgholpkeldaaGreatDoorZSameL
namespace Go.Proofs.YthejgholpkeldaaGreatDoor
open Go.RowKit
set_option maxRecDepth 100000

/-! Plain. -/
def ordL (x y : List UInt8) : Int := if Op.bytesLess x y then -1 else if x == y then 0 else 1
def runD (d : Bool) : List UInt8 → Nat
  | [] => 0
  | c :: r => if digN c.toNat = d then runD d r + 1 else 0
/-- The length of the first element. -/
def elemN : List UInt8 → Nat
  | [] => 0
  | c :: r => runD (digN c.toNat) r + 1
theorem runD_eq {d : Bool} : ∀ (l : List UInt8) (n : Nat), n ≤ l.length → (∀ j, j < n → digN (l.getD j 0).toNat = d) → (n = l.length ∨ digN (l.getD n 0).toNat ≠ d) → runD d l = n
  | [], n, h, _, _ => by simp at h; subst h; rfl
  | c :: r, 0, _, _, h => by
    rcases h with h | h
    · cases h
    · rw [runD, if_neg (show ¬ digN c.toNat = d from h)]
  | c :: r, n + 1, h0, h1, h2 => by
    rw [runD, if_pos (show digN c.toNat = d from h1 0 (by omega)), runD_eq r n (by simpa using h0) (fun j hj => by simpa using h1 (j + 1) (by omega)) (by rcases h2 with h | h; exact .inl (by simpa using h); exact .inr (by simpa using h))]
theorem elemN_eq {l : List UInt8} {n : Nat} (h0 : 1 ≤ n) (h : n ≤ l.length) (h1 : ∀ j, j < n → digN (l.getD j 0).toNat = digN (l.getD 0 0).toNat) (h2 : n = l.length ∨ digN (l.getD n 0).toNat ≠ digN (l.getD 0 0).toNat) : elemN l = n := by
  match l, n, h0, h with
  | c :: r, n + 1, _, h =>
    rw [elemN, runD_eq r n (by simpa using h) (fun j hj => by simpa using h1 (j + 1) (by omega)) (by rcases h2 with h | h; exact .inl (by simpa using h); exact .inr (by simpa using h))]
theorem elemN_le (l : List UInt8) (h : 0 < l.length) : 1 ≤ elemN l ∧ elemN l ≤ l.length := by
  have hr : ∀ (d : Bool) (l : List UInt8), runD d l ≤ l.length := by
    intro d l
    induction l with
    | nil => exact Nat.le_refl _
    | cons c r ih => unfold runD; split <;> simp only [List.length_cons] <;> omega
  match l, h with
  | c :: r, _ => exact ⟨Nat.succ_le_succ (Nat.zero_le _), Nat.succ_le_succ (hr _ r)⟩
theorem ext_list (s : ByteArray) (f j : Nat) : (s.extract f j).data.toList = (s.data.toList.drop f).take (j - f) := by
  simp
theorem len_size (s : ByteArray) : s.data.toList.length = s.size := by simp
set_option maxHeartbeats 1000000 in
theorem isnan_walk (x : ByteArray) (w : World) : Calls Tryz.prog 108 #[.string x] w fun e w' => e = .returned (.bool false) ∧ w = w' := by
  have hq : (x.toList == x.toList) = true := by simp
  go_enter Tryz.func108, Tryz.ntmps108
  go_wp2
  go_ret
  exact ⟨rfl, rfl⟩
set_option maxHeartbeats 1000000 in
theorem cmpS_walk (x y : ByteArray) (w : World) : Calls Tryz.prog 76 #[.string x, .string y] w fun e w' => e = .returned (.int .i64 (ordL x.toList y.toList)) ∧ w = w' := by
  unfold ordL
  cases h1 : Op.bytesLess x.toList y.toList
  all_goals
    cases h2 : (x.toList == y.toList)
    all_goals
      go_enter Tryz.func76, Tryz.ntmps76
      go_wp2_with fail
      refine (isnan_walk x _).mono ?_
      rintro e w2 ⟨rfl, rfl⟩
      go_wp2_with fail
      refine (isnan_walk y _).mono ?_
      rintro e w2 ⟨rfl, rfl⟩
      go_wp2
      go_ret
      exact ⟨rfl, rfl⟩
set_option maxHeartbeats 1000000 in
theorem r3order_walk (x y : ByteArray) (w : World) : Calls Tryz.prog 49 #[.string x, .string y] w fun e w' => e = .returned (.int .i64 (ordL x.toList y.toList)) ∧ w = w' := by
  unfold ordL
  cases h1 : Op.bytesLess x.toList y.toList
  all_goals
    cases h2 : (x.toList == y.toList)
    all_goals
      go_enter Tryz.func49, Tryz.ntmps49
      go_wp2
      go_ret
      exact ⟨rfl, rfl⟩
/-- cmp.Or of two. -/
theorem or_walk (b : Nat) (x y : Int) (w : World) (h0 : w.cell? ⟨b, 0, none⟩ = some (.int .i64 x)) (h1 : w.cell? ⟨b, 1, none⟩ = some (.int .i64 y)) :
    Calls Tryz.prog 74 #[.slice (some ⟨b, 0, none⟩) 2 2] w fun e w' => e = .returned (.int .i64 (if x ≠ 0 then x else y)) ∧ w = w' := by
  have hl : b < w.heap.size := World.block_lt_of_cell? _ _ h0
  by_cases hx : x = 0
  · subst hx
    rw [if_neg (by simp)]
    by_cases hy : y = 0
    · subst hy
      go_enter Tryz.func74, Tryz.ntmps74
      go_wp2
      go_loop [8] (fun i => ∃ j : Nat, j ≤ 2 ∧ i = .int .i64 j) (fun i => 2 - (intOf i).toNat)
      case atStart => exact ⟨0, Nat.zero_le _, rfl⟩
      case round =>
        obtain ⟨j, hj, rfl⟩ := hrel
        match j, hj with
        | 0, _ =>
          go_wp2
          go_round
          case rel => exact ⟨1, by omega, by go_num⟩
          case measure => decide
        | 1, _ =>
          go_wp2
          go_round
          case rel => exact ⟨2, by omega, by go_num⟩
          case measure => decide
        | 2, _ =>
          go_wp2
          go_ret
          exact ⟨rfl, rfl⟩
    · have hy2 : (y != 0) = true := by simpa using hy
      go_enter Tryz.func74, Tryz.ntmps74
      go_wp2
      go_loop [8] (fun i => ∃ j : Nat, j ≤ 1 ∧ i = .int .i64 j) (fun i => 2 - (intOf i).toNat)
      case atStart => exact ⟨0, Nat.zero_le _, rfl⟩
      case round =>
        obtain ⟨j, hj, rfl⟩ := hrel
        match j, hj with
        | 0, _ =>
          go_wp2
          go_round
          case rel => exact ⟨1, by omega, by go_num⟩
          case measure => decide
        | 1, _ =>
          go_wp2
          all_goals first | (exfalso; omega) | (go_ret; exact ⟨rfl, rfl⟩)
  · rw [if_pos hx]
    have hx2 : (x != 0) = true := by simpa using hx
    go_enter Tryz.func74, Tryz.ntmps74
    go_wp2
    go_loop [8] (fun i => i = .int .i64 0) (fun i => 2 - (intOf i).toNat)
    case atStart => rfl
    case round =>
      subst hrel
      go_wp2
      all_goals first | (exfalso; omega) | (go_ret; exact ⟨rfl, rfl⟩)
/-! Elements. -/
def dgAt (s : ByteArray) (k : Nat) : Bool := digN (s.data.toList.getD k 0).toNat
theorem dgAt_of {s : ByteArray} {k : Nat} (h : k < s.size) : digN s[k].toNat = dgAt s k := by unfold dgAt; rw [byte_at s k h]
set_option maxHeartbeats 2000000 in
theorem end1_walk (p : Nat) (s : ByteArray) (k : Nat) (w : World) (hc : w.cell? ⟨p, 0, none⟩ = some (.string s)) (hk : k < s.size) :
    Calls Tryz.prog 104 #[.int .i64 k, .pointer (some ⟨p, 0, none⟩)] w fun e w' => e = .returned (.bool (dgAt s k != dgAt s 0)) ∧ Below w.heap.size w w' := by
  have hl : p < w.heap.size := World.block_lt_of_cell? _ _ hc
  have h0 : 0 < s.size := by omega
  have hk1 : (k : Int) < (s.size : Int) := by omega
  have hk0 : (0 : Int) ≤ (k : Int) := by omega
  have h01 : (0 : Int) < (s.size : Int) := by omega
  have hA := dgAt_of hk
  have hB := dgAt_of h0
  obtain ⟨a, ha⟩ : ∃ a, s[k].toNat = a := ⟨_, rfl⟩
  obtain ⟨b, hb⟩ : ∃ b, s[0].toNat = b := ⟨_, rfl⟩
  rw [ha] at hA
  rw [hb] at hB
  obtain ⟨x, hx⟩ : ∃ x, dgAt s k = x := ⟨_, rfl⟩
  obtain ⟨y, hy⟩ : ∃ y, dgAt s 0 = y := ⟨_, rfl⟩
  rw [hx] at hA ⊢
  rw [hy] at hB ⊢
  have s1 := hide (fun (U : World) (hU : Below w.heap.size w U) => (digN_at hA U).mono fun e w' ⟨he, hb⟩ => (⟨he, hb ▸ hU, cell_later (hb ▸ hU) hc⟩ : e = Ending.returned (.bool x) ∧ Below w.heap.size w w' ∧ w'.cell? ⟨p, 0, none⟩ = some (Value.string s)))
  have s2 := hide (fun (U : World) (hU : Below w.heap.size w U) => (digN_at hB U).mono fun e w' ⟨he, hb⟩ => (⟨he, hb ▸ hU, cell_later (hb ▸ hU) hc⟩ : e = Ending.returned (.bool y) ∧ Below w.heap.size w w' ∧ w'.cell? ⟨p, 0, none⟩ = some (Value.string s)))
  have hrefl := Below.refl w.heap.size w
  have hcd : w.drew.cell? ⟨p, 0, none⟩ = some (.string s) := hc
  clear hx hy hA hB
  cases x <;> cases y
  all_goals
    go_enter Tryz.func104, Tryz.ntmps104
    go_upto_region 1 with fail
    go_region_held3 (fun W' => W'.cell? ⟨p, 0, none⟩ = some (.string s)) (first | with_reducible assumption) (first | (go_at_call 105; (with_reducible refine (s1.out _ ?_).mono ?_); (repeat (first | (with_reducible assumption) | (with_reducible refine ext_alloc ?_ _) | (with_reducible refine ext_drew ?_))); rintro e w6 ⟨rfl, hb6, hx6⟩) | (go_at_call 105; (with_reducible refine (s2.out _ ?_).mono ?_); (repeat (first | (with_reducible assumption) | (with_reducible refine ext_alloc ?_ _) | (with_reducible refine ext_drew ?_))); rintro e w7 ⟨rfl, hb7, hx7⟩))
    all_goals
      go_wp2
      go_ret
      exact ⟨rfl, hb7⟩
theorem elem_done {s : ByteArray} {n : Nat} (h0 : 1 ≤ n) (h : n ≤ s.size) (h1 : ∀ j, j < n → dgAt s j = dgAt s 0) (h2 : n = s.size ∨ dgAt s n ≠ dgAt s 0) : elemN s.data.toList = n :=
  elemN_eq h0 (by rw [len_size]; exact h) h1 (by rw [len_size]; exact h2)
set_option maxHeartbeats 2000000 in
theorem element_walk (s : ByteArray) (w : World) (h0 : 0 < s.size) (hs : s.size ≤ 9223372036854775807) :
    Calls Tryz.prog 72 #[.string s] w fun e w' => e = .returned (.int .i64 (elemN s.data.toList : Nat)) ∧ Below w.heap.size w w' := by
  have eg : ∀ args w, (callFunc 104 args).run Tryz.prog w = .ok (.enter 104 args) w := enters_of Tryz.func104 (by kernel_rfl) rfl
  have hb0 : Below w.heap.size w (w.alloc (.cells #[.string s] 9)) := (by repeat (first | exact Below.refl _ _ | refine ext_alloc ?_ _ | refine ext_drewN ?_ _ | refine ext_drew ?_ | refine ext_trans ?_ (by assumption)))
  have c0 : (w.alloc (.cells #[.string s] 9)).cell? ⟨w.heap.size, 0, none⟩ = some (.string s) := by simp
  obtain ⟨W, hW⟩ : ∃ W, w.alloc (.cells #[.string s] 9) = W := ⟨_, rfl⟩
  obtain ⟨p, hp⟩ : ∃ p, w.heap.size = p := ⟨_, rfl⟩
  rw [hW] at hb0 c0
  rw [hp] at c0
  replace hW := hide hW
  replace hp := hide hp
  go_enter Tryz.func72, Tryz.ntmps72
  go_wp2_with fail
  rw [hW.out, hp.out]
  go_loopw [4] (fun i wr => ∃ n : Nat, 1 ≤ n ∧ n ≤ s.size ∧ i = .int .i64 n ∧ (∀ j, j < n → dgAt s j = dgAt s 0) ∧ Below W.heap.size W wr) (fun i _ => s.size - (intOf i).toNat)
  case atStart => exact ⟨1, Nat.le_refl _, h0, rfl, fun j hj => by rw [show j = 0 from by omega], Below.refl _ _⟩
  case round =>
    obtain ⟨n, hn1, hn2, rfl, hall, hb⟩ := hrel
    have c1 := cell_later hb c0
    have hpl := World.block_lt_of_cell? _ _ c1
    by_cases hlt : n < s.size
    · have hcall := end1_walk p s n wr c1 hlt
      have hn1i : (n : Int) < (s.size : Int) := by omega
      have hwr : IntKind.i64.wrap ((n : Int) + 1) = (n : Int) + 1 := by rw [IntKind.wrap_i64]; omega
      have hdone := fun h => hide (elem_done hn1 hn2 hall (Or.inr h))
      have hnext : dgAt s n = dgAt s 0 → Hid (∀ j, j < n + 1 → dgAt s j = dgAt s 0) := fun h => hide fun j hj => by
        by_cases e : j = n
        · rw [e]; exact h
        · exact hall j (by omega)
      obtain ⟨x, hx⟩ : ∃ x, (dgAt s n != dgAt s 0) = x := ⟨_, rfl⟩
      rw [hx] at hcall
      replace hall := hide hall
      cases x with
      | true =>
        have hd := hdone (by simpa using hx)
        clear hdone hnext hx
        go_wp2_with (go_at_fn 104; refine hcall.mono ?_; rintro e w2 ⟨rfl, hb2⟩)
        go_ret
        exact ⟨by rw [hd.out]; rfl, ext_trans hb0 (ext_trans hb hb2)⟩
      | false =>
        have hd := hnext (by simpa using hx)
        clear hdone hnext hx
        go_wp2_with (go_at_fn 104; refine hcall.mono ?_; rintro e w2 ⟨rfl, hb2⟩)
        go_roundw
        case rel => exact ⟨n + 1, by omega, by omega, by go_num, hd.out, ext_trans hb hb2⟩
        case measure => simp [intOf]; omega
    · obtain rfl : n = s.size := by omega
      have hd := hide (elem_done hn1 hn2 hall (Or.inl rfl))
      clear hall
      go_wp2
      go_ret
      exact ⟨by rw [hd.out]; rfl, ext_trans hb0 hb⟩
def R3Elem (s : ByteArray) (w : World) (e : Ending) (w' : World) : Prop :=
  ∃ X Y : ByteArray, e = .returned (.tuple #[.string X, .string Y]) ∧ X.data.toList = s.data.toList.take (elemN s.data.toList) ∧ Y.data.toList = s.data.toList.drop (elemN s.data.toList) ∧ Below w.heap.size w w'
set_option maxHeartbeats 4000000 in
theorem r3element_walk (s : ByteArray) (w : World) (h0 : 0 < s.size) (hs : s.size ≤ 9223372036854775807) :
    Calls Tryz.prog 46 #[.string s] w fun e w' => R3Elem s w e w' := by
  go_enter Tryz.func46, Tryz.ntmps46
  go_wp2_with fail
  go_loopw [4] (fun i wr => ∃ n : Nat, 1 ≤ n ∧ n ≤ s.size ∧ i = .int .i64 n ∧ (∀ j, j < n → dgAt s j = dgAt s 0) ∧ Below w.heap.size w wr) (fun i _ => s.size - (intOf i).toNat)
  case atStart => exact ⟨1, Nat.le_refl _, h0, rfl, fun j hj => by rw [show j = 0 from by omega], Below.refl _ _⟩
  case round =>
    obtain ⟨n, hn1, hn2, rfl, hall, hb⟩ := hrel
    by_cases hlt : n < s.size
    · have hA := dgAt_of hlt
      have hB := dgAt_of h0
      have hn1i : (n : Int) < (s.size : Int) := by omega
      have hn0i : (0 : Int) ≤ (n : Int) := by omega
      have h01 : (0 : Int) < (s.size : Int) := by omega
      have hdone := fun h => hide (elem_done hn1 hn2 hall (Or.inr h))
      have hnext : dgAt s n = dgAt s 0 → Hid (∀ j, j < n + 1 → dgAt s j = dgAt s 0) := fun h => hide fun j hj => by
        by_cases e : j = n
        · rw [e]; exact h
        · exact hall j (by omega)
      obtain ⟨a, ha⟩ : ∃ a, s[n].toNat = a := ⟨_, rfl⟩
      obtain ⟨b, hb'⟩ : ∃ b, s[0].toNat = b := ⟨_, rfl⟩
      rw [ha] at hA
      rw [hb'] at hB
      obtain ⟨x, hx⟩ : ∃ x, dgAt s n = x := ⟨_, rfl⟩
      obtain ⟨y, hy⟩ : ∃ y, dgAt s 0 = y := ⟨_, rfl⟩
      rw [hx] at hA hdone hnext
      rw [hy] at hB hdone hnext
      have s1 := hide (fun (U : World) (hU : Below wr.heap.size wr U) => (r3digN_at hA U).mono fun e w' ⟨he, hb⟩ => (⟨he, hb ▸ hU⟩ : e = Ending.returned (.bool x) ∧ Below wr.heap.size wr w'))
      have s2 := hide (fun (U : World) (hU : Below wr.heap.size wr U) => (r3digN_at hB U).mono fun e w' ⟨he, hb⟩ => (⟨he, hb ▸ hU⟩ : e = Ending.returned (.bool y) ∧ Below wr.heap.size wr w'))
      have hrefl := Below.refl wr.heap.size wr
      have hy0 := hide hy
      replace hall := hide hall
      clear hx hy hA hB
      by_cases hxy : x = y
      · have hd := hnext hxy
        subst hxy
        clear hdone hnext hall
        cases x
        all_goals
          go_upto_region 2 with fail
          go_region_held3 (fun W' => True) (first | trivial) (first | (go_at_call 47; (with_reducible refine (s1.out _ ?_).mono ?_); (repeat (first | (with_reducible assumption) | (with_reducible refine ext_alloc ?_ _) | (with_reducible refine ext_drew ?_))); rintro e w6 ⟨rfl, hb6⟩) | (go_at_call 47; (with_reducible refine (s2.out _ ?_).mono ?_); (repeat (first | (with_reducible assumption) | (with_reducible refine ext_alloc ?_ _) | (with_reducible refine ext_drew ?_))); rintro e w7 ⟨rfl, hb7⟩))
          all_goals
            go_wp2
            go_roundw
            case rel => exact ⟨n + 1, by omega, by omega, by go_num, fun j hj => (hd.out j hj).trans hy0.out.symm, ext_trans hb hb7⟩
            case measure => simp [intOf]; omega
      · have hd := hdone hxy
        clear hdone hnext hall
        cases x <;> cases y
        all_goals
          first
            | exact absurd rfl hxy
            | go_upto_region 2 with fail
              go_region_held3 (fun W' => True) (first | trivial) (first | (go_at_call 47; (with_reducible refine (s1.out _ ?_).mono ?_); (repeat (first | (with_reducible assumption) | (with_reducible refine ext_alloc ?_ _) | (with_reducible refine ext_drew ?_))); rintro e w6 ⟨rfl, hb6⟩) | (go_at_call 47; (with_reducible refine (s2.out _ ?_).mono ?_); (repeat (first | (with_reducible assumption) | (with_reducible refine ext_alloc ?_ _) | (with_reducible refine ext_drew ?_))); rintro e w7 ⟨rfl, hb7⟩))
              all_goals
                go_upto_region 4 with fail
                go_region
                all_goals
                  go_wp2
                  go_ret2
                  exact ⟨_, _, rfl, by rw [hd.out, ext_list]; simp, by rw [hd.out, ext_list, List.take_of_length_le (by simp)], by first | exact ext_trans hb hb7 | exact ext_drew (ext_trans hb hb7)⟩
    · obtain rfl : n = s.size := by omega
      have hd := hide (elem_done hn1 hn2 hall (Or.inl rfl))
      clear hall
      go_upto_region 2 with fail
      go_region
      all_goals
        go_upto_region 4 with fail
        go_region
        all_goals
          go_wp2
          go_ret2
          exact ⟨_, _, rfl, by rw [hd.out]; simp [List.take_of_length_le], by rw [hd.out]; simp [List.drop_of_length_le], by first | exact hb | exact ext_drew hb | exact ext_drew (ext_drew hb)⟩
/-! A number without zeros in front. -/
def bareL : List UInt8 → List UInt8
  | [] => []
  | c :: r => if c = 48 then bareL r else c :: r
theorem bareL_step {s : ByteArray} (h : 0 < s.size) : bareL s.data.toList = if s[0] = 48 then bareL (s.data.toList.drop 1) else s.data.toList := by
  have h1 : s.data.toList = s[0] :: s.data.toList.drop 1 := by
    have := List.drop_eq_getElem_cons (l := s.data.toList) (i := 0) (by simpa using h)
    rw [List.drop_zero] at this
    exact this
  rw [h1, bareL]
  simp
def szV : Value → Nat
  | .string s => s.size
  | _ => 0
set_option maxHeartbeats 2000000 in
theorem bare_walk (s : ByteArray) (w : World) :
    Calls Tryz.prog 48 #[.string s] w fun e w' => ∃ X : ByteArray, e = .returned (.string X) ∧ X.data.toList = bareL s.data.toList ∧ w = w' := by
  obtain ⟨L, hL⟩ : ∃ L, bareL s.data.toList = L := ⟨_, rfl⟩
  rw [hL]
  go_enter Tryz.func48, Tryz.ntmps48
  go_wp2
  go_loop [0] (fun v => ∃ X : ByteArray, v = .string X ∧ bareL X.data.toList = L ∧ X.size ≤ s.size) (fun v => szV v)
  case atStart => exact ⟨s, rfl, hL, Nat.le_refl _⟩
  case round =>
    obtain ⟨X, rfl, hX, hle⟩ := hrel
    by_cases h0 : 0 < X.size
    · have h01 : (0 : Int) < (X.size : Int) := by omega
      have hst := bareL_step h0
      by_cases h48 : X[0] = 48
      · have hb : ((X[0].toNat : Int) == 48) = true := by rw [h48]; rfl
        have hx := ext_list X 1 X.size
        rw [List.take_of_length_le (by simp)] at hx
        have hn : Hid (bareL (X.extract 1 X.size).data.toList = L) := hide (by rw [hx, ← hX, hst, if_pos h48])
        have hz : Hid ((X.extract 1 X.size).size = X.size - 1) := hide (by simp)
        have h1 : (1 : Int) ≤ (X.size : Int) := by omega
        clear hst h48 hx hX
        go_wp2_with fail
        go_round
        case rel => exact ⟨_, rfl, hn.out, by have := hz.out; omega⟩
        case measure => have := hz.out; simp only [szV]; omega
      · have hb : ((X[0].toNat : Int) == 48) = false := by
          rw [beq_eq_false_iff_ne]; intro h; exact h48 (UInt8.toNat_inj.1 (by have : X[0].toNat = 48 := by omega
                                                                              rw [this]; rfl))
        have hn : Hid (X.data.toList = L) := hide (by rw [← hX, hst, if_neg h48])
        clear hst h48 hX
        go_wp2
        go_ret
        exact ⟨X, rfl, hn.out, rfl⟩
    · have hz : X.size = 0 := by omega
      have hn : Hid (X.data.toList = L) := hide (by
        have : X.data.toList = [] := List.eq_nil_of_length_eq_zero (by simpa using hz)
        rw [← hX, this]; rfl)
      clear hX
      go_wp2
      go_ret
      exact ⟨X, rfl, hn.out, rfl⟩
end Go.Proofs.YthejgholpkeldaaGreatDoor

namespace Go.Proofs.YthejgholpkeldaaGreatDoor
open Go.RowKit
set_option maxRecDepth 100000

def dg0 (l : List UInt8) : Bool := digN (l.getD 0 0).toNat
def numC (u v : List UInt8) : Int := if u.length < v.length then -1 else if v.length < u.length then 1 else ordL u v
def elemC (p q : List UInt8) : Int := if dg0 p = true then (if dg0 q = true then numC (bareL p) (bareL q) else -1) else if dg0 q = true then 1 else ordL p q
def endC (a b x y : List UInt8) : Int := if x = [] then (if y = [] then ordL a b else -1) else if y = [] then 1 else ordL a b
def cmpF (a b : List UInt8) : Nat → List UInt8 → List UInt8 → Int
  | 0, x, y => endC a b x y
  | n + 1, x, y => if x = [] ∨ y = [] then endC a b x y else
    if elemC (x.take (elemN x)) (y.take (elemN y)) ≠ 0 then elemC (x.take (elemN x)) (y.take (elemN y)) else cmpF a b n (x.drop (elemN x)) (y.drop (elemN y))
def compareV (a b : List UInt8) : Int := cmpF a b a.length a b
theorem trim_bare : ∀ l : List UInt8, Lib.trimLeftB l 48 = bareL l
  | [] => rfl
  | c :: r => by
    have ih := trim_bare r
    unfold Lib.trimLeftB at ih ⊢
    rw [List.dropWhile_cons, bareL]
    by_cases h : c = 48
    · rw [if_pos h, if_pos (by simpa using h)]; exact ih
    · rw [if_neg h, if_neg (by simpa using h)]
theorem cmpF_end {a b : List UInt8} {n : Nat} {x y : List UInt8} (h : x = [] ∨ y = []) : cmpF a b n x y = endC a b x y := by
  cases n with
  | zero => rfl
  | succ n => rw [cmpF, if_pos h]
theorem cmpF_next {a b : List UInt8} {n : Nat} {x y : List UInt8} (hx : x ≠ []) (hy : y ≠ []) (hn : x.length ≤ n) : ∃ n', n = n' + 1 ∧ cmpF a b n x y = if elemC (x.take (elemN x)) (y.take (elemN y)) ≠ 0 then elemC (x.take (elemN x)) (y.take (elemN y)) else cmpF a b n' (x.drop (elemN x)) (y.drop (elemN y)) := by
  have h0 : 0 < x.length := List.length_pos_iff.2 hx
  obtain ⟨n', rfl⟩ : ∃ n', n = n' + 1 := ⟨n - 1, by omega⟩
  exact ⟨n', rfl, by rw [cmpF, if_neg (fun h => h.elim hx hy)]⟩
theorem dg0_of {s : ByteArray} (h : 0 < s.size) : digN s[0].toNat = dg0 s.data.toList := by rw [dgAt_of h]; rfl
theorem toList_dataL (s : ByteArray) : s.toList = s.data.toList := ByteArray.toList_eq s
theorem numC_or (u v : List UInt8) : (if Lib.compareInt u.length v.length ≠ 0 then Lib.compareInt u.length v.length else ordL u v) = numC u v := by
  unfold Lib.compareInt numC
  by_cases h1 : u.length < v.length
  · rw [if_pos (by omega : (u.length : Int) < v.length), if_pos h1]; rfl
  · by_cases h2 : v.length < u.length
    · rw [if_neg (by omega : ¬ (u.length : Int) < v.length), if_pos (by omega : (u.length : Int) > v.length), if_neg h1, if_pos h2]; rfl
    · rw [if_neg (by omega : ¬ (u.length : Int) < v.length), if_neg (by omega : ¬ (u.length : Int) > v.length), if_neg h1, if_neg h2]; rfl
end Go.Proofs.YthejgholpkeldaaGreatDoor

namespace Go.Proofs.YthejgholpkeldaaGreatDoor
open Go.RowKit
set_option maxRecDepth 100000

theorem nil_size {X : ByteArray} (h : X.size = 0) : X.data.toList = [] := List.eq_nil_of_length_eq_zero (by simpa using h)
theorem ne_size {X : ByteArray} (h : 0 < X.size) : X.data.toList ≠ [] := fun e => by have := congrArg List.length e; rw [len_size] at this; simp only [List.length_nil] at this; omega
theorem empty_no {X : ByteArray} (h : 0 < X.size) : X.toList.isEmpty = false := by
  rw [ByteArray.toList_eq]
  cases hq : X.data.toList with
  | nil => exact absurd hq (ne_size h)
  | cons c r => rfl
theorem empty_yes {X : ByteArray} (h : X.size = 0) : X.toList.isEmpty = true := by
  rw [ByteArray.toList_eq, nil_size h]; rfl
theorem endC_or (a b : List UInt8) (X Y : ByteArray) (h : ¬ (0 < X.size ∧ 0 < Y.size)) :
    (if Lib.compareInt (min (X.size : Int) 1) (min (Y.size : Int) 1) ≠ 0 then Lib.compareInt (min (X.size : Int) 1) (min (Y.size : Int) 1) else ordL a b) = endC a b X.data.toList Y.data.toList := by
  unfold endC Lib.compareInt
  by_cases hx : X.size = 0
  · rw [if_pos (nil_size hx)]
    by_cases hy : Y.size = 0
    · rw [if_pos (nil_size hy), hx, hy]; simp
    · rw [if_neg (ne_size (by omega)), if_pos (by omega : min (X.size : Int) 1 < min (Y.size : Int) 1)]; simp
  · have hy : Y.size = 0 := by omega
    rw [if_neg (ne_size (by omega : 0 < X.size)), if_pos (nil_size hy), if_neg (by omega : ¬ min (X.size : Int) 1 < min (Y.size : Int) 1), if_pos (by omega : min (X.size : Int) 1 > min (Y.size : Int) 1)]; simp
def CmpSt (a b : ByteArray) (V : Int) (w : World) (x y : Value) (wr : World) : Prop :=
  ∃ (X Y : ByteArray) (n : Nat), x = .string X ∧ y = .string Y ∧ X.size ≤ n ∧ X.size ≤ 9223372036854775807 ∧ Y.size ≤ 9223372036854775807 ∧ cmpF a.data.toList b.data.toList n X.data.toList Y.data.toList = V ∧ Below w.heap.size w wr
end Go.Proofs.YthejgholpkeldaaGreatDoor
