/- Walks of the comparisons of codes, down to their elements. No condition. Walks of codes.elements, Compare and timetableref03.Compare. Conditions: the texts' lengths are ints. Walk of codes.Compare. Conditions: the texts' lengths are ints. -/
import Derived.Test.YtjdhjnciokhbkaaGreatDoorKFieldsC
import Derived.Test.YtjdhjnciokhbkaaGreatDoorKDice
import Derived.Test.YtjdhjnciokhbkaaGreatDoorKSameL
import Derived.Test.YtjdhjnciokhbkaaGreatDoorShelfT
import Derived.BigQuiet
namespace Go.Proofs.YtjdhjnciokhbkaaGreatDoor
open Go.RowKit
set_option maxRecDepth 100000

/-! Plain. -/
def ordL (x y : List UInt8) : Int := if Op.bytesLess x y then -1 else if x == y then 0 else 1
def runD (d : Bool) : List UInt8 → Nat
  | [] => 0
  | c :: r => if digN c.toNat = d then runD d r + 1 else 0
/-- The length of the first element. -/
def elemN : List UInt8 → Nat
  | [] => 0
  | c :: r => runD (digN c.toNat) r + 1
theorem runD_eq {d : Bool} : ∀ (l : List UInt8) (n : Nat), n ≤ l.length → (∀ j, j < n → digN (l.getD j 0).toNat = d) → (n = l.length ∨ digN (l.getD n 0).toNat ≠ d) → runD d l = n
  | [], n, h, _, _ => by simp at h; subst h; rfl
  | c :: r, 0, _, _, h => by
    rcases h with h | h
    · cases h
    · rw [runD, if_neg (show ¬ digN c.toNat = d from h)]
  | c :: r, n + 1, h0, h1, h2 => by
    rw [runD, if_pos (show digN c.toNat = d from h1 0 (by omega)), runD_eq r n (by simpa using h0) (fun j hj => by simpa using h1 (j + 1) (by omega)) (by rcases h2 with h | h; exact .inl (by simpa using h); exact .inr (by simpa using h))]
theorem elemN_eq {l : List UInt8} {n : Nat} (h0 : 1 ≤ n) (h : n ≤ l.length) (h1 : ∀ j, j < n → digN (l.getD j 0).toNat = digN (l.getD 0 0).toNat) (h2 : n = l.length ∨ digN (l.getD n 0).toNat ≠ digN (l.getD 0 0).toNat) : elemN l = n := by
  match l, n, h0, h with
  | c :: r, n + 1, _, h =>
    rw [elemN, runD_eq r n (by simpa using h) (fun j hj => by simpa using h1 (j + 1) (by omega)) (by rcases h2 with h | h; exact .inl (by simpa using h); exact .inr (by simpa using h))]
theorem elemN_le (l : List UInt8) (h : 0 < l.length) : 1 ≤ elemN l ∧ elemN l ≤ l.length := by
  have hr : ∀ (d : Bool) (l : List UInt8), runD d l ≤ l.length := by
    intro d l
    induction l with
    | nil => exact Nat.le_refl _
    | cons c r ih => unfold runD; split <;> simp only [List.length_cons] <;> omega
  match l, h with
  | c :: r, _ => exact ⟨Nat.succ_le_succ (Nat.zero_le _), Nat.succ_le_succ (hr _ r)⟩
theorem ext_list (s : ByteArray) (f j : Nat) : (s.extract f j).data.toList = (s.data.toList.drop f).take (j - f) := by
  simp
theorem len_size (s : ByteArray) : s.data.toList.length = s.size := by simp
set_option maxHeartbeats 1000000 in
theorem isnan_walk (x : ByteArray) (w : World) : Calls Tryz.prog 94 #[.string x] w fun e w' => e = .returned (.bool false) ∧ w = w' := by
  have hq : (x.toList == x.toList) = true := by simp
  go_enter Tryz.func94, Tryz.ntmps94
  go_wp2
  go_ret
  exact ⟨rfl, rfl⟩
set_option maxHeartbeats 1000000 in
theorem cmpS_walk (x y : ByteArray) (w : World) : Calls Tryz.prog 64 #[.string x, .string y] w fun e w' => e = .returned (.int .i64 (ordL x.toList y.toList)) ∧ w = w' := by
  unfold ordL
  cases h1 : Op.bytesLess x.toList y.toList
  all_goals
    cases h2 : (x.toList == y.toList)
    all_goals
      go_enter Tryz.func64, Tryz.ntmps64
      go_wp2_with fail
      refine (isnan_walk x _).mono ?_
      rintro e w2 ⟨rfl, rfl⟩
      go_wp2_with fail
      refine (isnan_walk y _).mono ?_
      rintro e w2 ⟨rfl, rfl⟩
      go_wp2
      go_ret
      exact ⟨rfl, rfl⟩
set_option maxHeartbeats 1000000 in
theorem r3order_walk (x y : ByteArray) (w : World) : Calls Tryz.prog 67 #[.string x, .string y] w fun e w' => e = .returned (.int .i64 (ordL x.toList y.toList)) ∧ w = w' := by
  unfold ordL
  cases h1 : Op.bytesLess x.toList y.toList
  all_goals
    cases h2 : (x.toList == y.toList)
    all_goals
      go_enter Tryz.func67, Tryz.ntmps67
      go_wp2
      go_ret
      exact ⟨rfl, rfl⟩
/-- cmp.Or of two. -/
theorem or_walk (b : Nat) (x y : Int) (w : World) (h0 : w.cell? ⟨b, 0, none⟩ = some (.int .i64 x)) (h1 : w.cell? ⟨b, 1, none⟩ = some (.int .i64 y)) :
    Calls Tryz.prog 62 #[.slice (some ⟨b, 0, none⟩) 2 2] w fun e w' => e = .returned (.int .i64 (if x ≠ 0 then x else y)) ∧ w = w' := by
  have hl : b < w.heap.size := World.block_lt_of_cell? _ _ h0
  by_cases hx : x = 0
  · subst hx
    rw [if_neg (by simp)]
    by_cases hy : y = 0
    · subst hy
      go_enter Tryz.func62, Tryz.ntmps62
      go_wp2
      go_loop [8] (fun i => ∃ j : Nat, j ≤ 2 ∧ i = .int .i64 j) (fun i => 2 - (intOf i).toNat)
      case atStart => exact ⟨0, Nat.zero_le _, rfl⟩
      case round =>
        obtain ⟨j, hj, rfl⟩ := hrel
        match j, hj with
        | 0, _ =>
          go_wp2
          go_round
          case rel => exact ⟨1, by omega, by go_num⟩
          case measure => decide
        | 1, _ =>
          go_wp2
          go_round
          case rel => exact ⟨2, by omega, by go_num⟩
          case measure => decide
        | 2, _ =>
          go_wp2
          go_ret
          exact ⟨rfl, rfl⟩
    · have hy2 : (y != 0) = true := by simpa using hy
      go_enter Tryz.func62, Tryz.ntmps62
      go_wp2
      go_loop [8] (fun i => ∃ j : Nat, j ≤ 1 ∧ i = .int .i64 j) (fun i => 2 - (intOf i).toNat)
      case atStart => exact ⟨0, Nat.zero_le _, rfl⟩
      case round =>
        obtain ⟨j, hj, rfl⟩ := hrel
        match j, hj with
        | 0, _ =>
          go_wp2
          go_round
          case rel => exact ⟨1, by omega, by go_num⟩
          case measure => decide
        | 1, _ =>
          go_wp2
          all_goals first | (exfalso; omega) | (go_ret; exact ⟨rfl, rfl⟩)
  · rw [if_pos hx]
    have hx2 : (x != 0) = true := by simpa using hx
    go_enter Tryz.func62, Tryz.ntmps62
    go_wp2
    go_loop [8] (fun i => i = .int .i64 0) (fun i => 2 - (intOf i).toNat)
    case atStart => rfl
    case round =>
      subst hrel
      go_wp2
      all_goals first | (exfalso; omega) | (go_ret; exact ⟨rfl, rfl⟩)
/-! Elements. -/
def dgAt (s : ByteArray) (k : Nat) : Bool := digN (s.data.toList.getD k 0).toNat
theorem dgAt_of {s : ByteArray} {k : Nat} (h : k < s.size) : digN s[k].toNat = dgAt s k := by unfold dgAt; rw [byte_at s k h]
set_option maxHeartbeats 2000000 in
theorem end1_walk (p : Nat) (s : ByteArray) (k : Nat) (w : World) (hc : w.cell? ⟨p, 0, none⟩ = some (.string s)) (hk : k < s.size) :
    Calls Tryz.prog 91 #[.int .i64 k, .pointer (some ⟨p, 0, none⟩)] w fun e w' => e = .returned (.bool (dgAt s k != dgAt s 0)) ∧ Below w.heap.size w w' := by
  have hl : p < w.heap.size := World.block_lt_of_cell? _ _ hc
  have h0 : 0 < s.size := by omega
  have hk1 : (k : Int) < (s.size : Int) := by omega
  have hk0 : (0 : Int) ≤ (k : Int) := by omega
  have h01 : (0 : Int) < (s.size : Int) := by omega
  have hA := dgAt_of hk
  have hB := dgAt_of h0
  obtain ⟨a, ha⟩ : ∃ a, s[k].toNat = a := ⟨_, rfl⟩
  obtain ⟨b, hb⟩ : ∃ b, s[0].toNat = b := ⟨_, rfl⟩
  rw [ha] at hA
  rw [hb] at hB
  obtain ⟨x, hx⟩ : ∃ x, dgAt s k = x := ⟨_, rfl⟩
  obtain ⟨y, hy⟩ : ∃ y, dgAt s 0 = y := ⟨_, rfl⟩
  rw [hx] at hA ⊢
  rw [hy] at hB ⊢
  have s1 := hide (fun (U : World) (hU : Below w.heap.size w U) => (digN_at hA U).mono fun e w' ⟨he, hb⟩ => (⟨he, hb ▸ hU, cell_later (hb ▸ hU) hc⟩ : e = Ending.returned (.bool x) ∧ Below w.heap.size w w' ∧ w'.cell? ⟨p, 0, none⟩ = some (Value.string s)))
  have s2 := hide (fun (U : World) (hU : Below w.heap.size w U) => (digN_at hB U).mono fun e w' ⟨he, hb⟩ => (⟨he, hb ▸ hU, cell_later (hb ▸ hU) hc⟩ : e = Ending.returned (.bool y) ∧ Below w.heap.size w w' ∧ w'.cell? ⟨p, 0, none⟩ = some (Value.string s)))
  have hrefl := Below.refl w.heap.size w
  have hcd : w.drew.cell? ⟨p, 0, none⟩ = some (.string s) := hc
  clear hx hy hA hB
  cases x <;> cases y
  all_goals
    go_enter Tryz.func91, Tryz.ntmps91
    go_upto_region 1 with fail
    go_region_held3 (fun W' => W'.cell? ⟨p, 0, none⟩ = some (.string s)) (first | with_reducible assumption) (first | (go_at_call 56; (with_reducible refine (s1.out _ ?_).mono ?_); (repeat (first | (with_reducible assumption) | (with_reducible refine ext_alloc ?_ _) | (with_reducible refine ext_drew ?_))); rintro e w6 ⟨rfl, hb6, hx6⟩) | (go_at_call 56; (with_reducible refine (s2.out _ ?_).mono ?_); (repeat (first | (with_reducible assumption) | (with_reducible refine ext_alloc ?_ _) | (with_reducible refine ext_drew ?_))); rintro e w7 ⟨rfl, hb7, hx7⟩))
    all_goals
      go_wp2
      go_ret
      exact ⟨rfl, hb7⟩
theorem elem_done {s : ByteArray} {n : Nat} (h0 : 1 ≤ n) (h : n ≤ s.size) (h1 : ∀ j, j < n → dgAt s j = dgAt s 0) (h2 : n = s.size ∨ dgAt s n ≠ dgAt s 0) : elemN s.data.toList = n :=
  elemN_eq h0 (by rw [len_size]; exact h) h1 (by rw [len_size]; exact h2)
set_option maxHeartbeats 2000000 in
theorem element_walk (s : ByteArray) (w : World) (h0 : 0 < s.size) (hs : s.size ≤ 9223372036854775807) :
    Calls Tryz.prog 60 #[.string s] w fun e w' => e = .returned (.int .i64 (elemN s.data.toList : Nat)) ∧ Below w.heap.size w w' := by
  have eg : ∀ args w, (callFunc 91 args).run Tryz.prog w = .ok (.enter 91 args) w := enters_of Tryz.func91 (by kernel_rfl) rfl
  have hb0 : Below w.heap.size w (w.alloc (.cells #[.string s] 9)) := (by repeat (first | exact Below.refl _ _ | refine ext_alloc ?_ _ | refine ext_drewN ?_ _ | refine ext_drew ?_ | refine ext_trans ?_ (by assumption)))
  have c0 : (w.alloc (.cells #[.string s] 9)).cell? ⟨w.heap.size, 0, none⟩ = some (.string s) := by simp
  obtain ⟨W, hW⟩ : ∃ W, w.alloc (.cells #[.string s] 9) = W := ⟨_, rfl⟩
  obtain ⟨p, hp⟩ : ∃ p, w.heap.size = p := ⟨_, rfl⟩
  rw [hW] at hb0 c0
  rw [hp] at c0
  replace hW := hide hW
  replace hp := hide hp
  go_enter Tryz.func60, Tryz.ntmps60
  go_wp2_with fail
  rw [hW.out, hp.out]
  go_loopw [4] (fun i wr => ∃ n : Nat, 1 ≤ n ∧ n ≤ s.size ∧ i = .int .i64 n ∧ (∀ j, j < n → dgAt s j = dgAt s 0) ∧ Below W.heap.size W wr) (fun i _ => s.size - (intOf i).toNat)
  case atStart => exact ⟨1, Nat.le_refl _, h0, rfl, fun j hj => by rw [show j = 0 from by omega], Below.refl _ _⟩
  case round =>
    obtain ⟨n, hn1, hn2, rfl, hall, hb⟩ := hrel
    have c1 := cell_later hb c0
    have hpl := World.block_lt_of_cell? _ _ c1
    by_cases hlt : n < s.size
    · have hcall := end1_walk p s n wr c1 hlt
      have hn1i : (n : Int) < (s.size : Int) := by omega
      have hwr : IntKind.i64.wrap ((n : Int) + 1) = (n : Int) + 1 := by rw [IntKind.wrap_i64]; omega
      have hdone := fun h => hide (elem_done hn1 hn2 hall (Or.inr h))
      have hnext : dgAt s n = dgAt s 0 → Hid (∀ j, j < n + 1 → dgAt s j = dgAt s 0) := fun h => hide fun j hj => by
        by_cases e : j = n
        · rw [e]; exact h
        · exact hall j (by omega)
      obtain ⟨x, hx⟩ : ∃ x, (dgAt s n != dgAt s 0) = x := ⟨_, rfl⟩
      rw [hx] at hcall
      replace hall := hide hall
      cases x with
      | true =>
        have hd := hdone (by simpa using hx)
        clear hdone hnext hx
        go_wp2_with (go_at_fn 91; refine hcall.mono ?_; rintro e w2 ⟨rfl, hb2⟩)
        go_ret
        exact ⟨by rw [hd.out]; rfl, ext_trans hb0 (ext_trans hb hb2)⟩
      | false =>
        have hd := hnext (by simpa using hx)
        clear hdone hnext hx
        go_wp2_with (go_at_fn 91; refine hcall.mono ?_; rintro e w2 ⟨rfl, hb2⟩)
        go_roundw
        case rel => exact ⟨n + 1, by omega, by omega, by go_num, hd.out, ext_trans hb hb2⟩
        case measure => simp [intOf]; omega
    · obtain rfl : n = s.size := by omega
      have hd := hide (elem_done hn1 hn2 hall (Or.inl rfl))
      clear hall
      go_wp2
      go_ret
      exact ⟨by rw [hd.out]; rfl, ext_trans hb0 hb⟩
def R3Elem (s : ByteArray) (w : World) (e : Ending) (w' : World) : Prop :=
  ∃ X Y : ByteArray, e = .returned (.tuple #[.string X, .string Y]) ∧ X.data.toList = s.data.toList.take (elemN s.data.toList) ∧ Y.data.toList = s.data.toList.drop (elemN s.data.toList) ∧ Below w.heap.size w w'
set_option maxHeartbeats 4000000 in
theorem r3element_walk (s : ByteArray) (w : World) (h0 : 0 < s.size) (hs : s.size ≤ 9223372036854775807) :
    Calls Tryz.prog 65 #[.string s] w fun e w' => R3Elem s w e w' := by
  go_enter Tryz.func65, Tryz.ntmps65
  go_wp2_with fail
  go_loopw [4] (fun i wr => ∃ n : Nat, 1 ≤ n ∧ n ≤ s.size ∧ i = .int .i64 n ∧ (∀ j, j < n → dgAt s j = dgAt s 0) ∧ Below w.heap.size w wr) (fun i _ => s.size - (intOf i).toNat)
  case atStart => exact ⟨1, Nat.le_refl _, h0, rfl, fun j hj => by rw [show j = 0 from by omega], Below.refl _ _⟩
  case round =>
    obtain ⟨n, hn1, hn2, rfl, hall, hb⟩ := hrel
    by_cases hlt : n < s.size
    · have hA := dgAt_of hlt
      have hB := dgAt_of h0
      have hn1i : (n : Int) < (s.size : Int) := by omega
      have hn0i : (0 : Int) ≤ (n : Int) := by omega
      have h01 : (0 : Int) < (s.size : Int) := by omega
      have hdone := fun h => hide (elem_done hn1 hn2 hall (Or.inr h))
      have hnext : dgAt s n = dgAt s 0 → Hid (∀ j, j < n + 1 → dgAt s j = dgAt s 0) := fun h => hide fun j hj => by
        by_cases e : j = n
        · rw [e]; exact h
        · exact hall j (by omega)
      obtain ⟨a, ha⟩ : ∃ a, s[n].toNat = a := ⟨_, rfl⟩
      obtain ⟨b, hb'⟩ : ∃ b, s[0].toNat = b := ⟨_, rfl⟩
      rw [ha] at hA
      rw [hb'] at hB
      obtain ⟨x, hx⟩ : ∃ x, dgAt s n = x := ⟨_, rfl⟩
      obtain ⟨y, hy⟩ : ∃ y, dgAt s 0 = y := ⟨_, rfl⟩
      rw [hx] at hA hdone hnext
      rw [hy] at hB hdone hnext
      have s1 := hide (fun (U : World) (hU : Below wr.heap.size wr U) => (r3digN_at hA U).mono fun e w' ⟨he, hb⟩ => (⟨he, hb ▸ hU⟩ : e = Ending.returned (.bool x) ∧ Below wr.heap.size wr w'))
      have s2 := hide (fun (U : World) (hU : Below wr.heap.size wr U) => (r3digN_at hB U).mono fun e w' ⟨he, hb⟩ => (⟨he, hb ▸ hU⟩ : e = Ending.returned (.bool y) ∧ Below wr.heap.size wr w'))
      have hrefl := Below.refl wr.heap.size wr
      have hy0 := hide hy
      replace hall := hide hall
      clear hx hy hA hB
      by_cases hxy : x = y
      · have hd := hnext hxy
        subst hxy
        clear hdone hnext hall
        cases x
        all_goals
          go_upto_region 2 with fail
          go_region_held3 (fun W' => True) (first | trivial) (first | (go_at_call 58; (with_reducible refine (s1.out _ ?_).mono ?_); (repeat (first | (with_reducible assumption) | (with_reducible refine ext_alloc ?_ _) | (with_reducible refine ext_drew ?_))); rintro e w6 ⟨rfl, hb6⟩) | (go_at_call 58; (with_reducible refine (s2.out _ ?_).mono ?_); (repeat (first | (with_reducible assumption) | (with_reducible refine ext_alloc ?_ _) | (with_reducible refine ext_drew ?_))); rintro e w7 ⟨rfl, hb7⟩))
          all_goals
            go_wp2
            go_roundw
            case rel => exact ⟨n + 1, by omega, by omega, by go_num, fun j hj => (hd.out j hj).trans hy0.out.symm, ext_trans hb hb7⟩
            case measure => simp [intOf]; omega
      · have hd := hdone hxy
        clear hdone hnext hall
        cases x <;> cases y
        all_goals
          first
            | exact absurd rfl hxy
            | go_upto_region 2 with fail
              go_region_held3 (fun W' => True) (first | trivial) (first | (go_at_call 58; (with_reducible refine (s1.out _ ?_).mono ?_); (repeat (first | (with_reducible assumption) | (with_reducible refine ext_alloc ?_ _) | (with_reducible refine ext_drew ?_))); rintro e w6 ⟨rfl, hb6⟩) | (go_at_call 58; (with_reducible refine (s2.out _ ?_).mono ?_); (repeat (first | (with_reducible assumption) | (with_reducible refine ext_alloc ?_ _) | (with_reducible refine ext_drew ?_))); rintro e w7 ⟨rfl, hb7⟩))
              all_goals
                go_upto_region 4 with fail
                go_region
                all_goals
                  go_wp2
                  go_ret2
                  exact ⟨_, _, rfl, by rw [hd.out, ext_list]; simp, by rw [hd.out, ext_list, List.take_of_length_le (by simp)], by first | exact ext_trans hb hb7 | exact ext_drew (ext_trans hb hb7)⟩
    · obtain rfl : n = s.size := by omega
      have hd := hide (elem_done hn1 hn2 hall (Or.inl rfl))
      clear hall
      go_upto_region 2 with fail
      go_region
      all_goals
        go_upto_region 4 with fail
        go_region
        all_goals
          go_wp2
          go_ret2
          exact ⟨_, _, rfl, by rw [hd.out]; simp [List.take_of_length_le], by rw [hd.out]; simp [List.drop_of_length_le], by first | exact hb | exact ext_drew hb | exact ext_drew (ext_drew hb)⟩
/-! A number without zeros in front. -/
def bareL : List UInt8 → List UInt8
  | [] => []
  | c :: r => if c = 48 then bareL r else c :: r
theorem bareL_step {s : ByteArray} (h : 0 < s.size) : bareL s.data.toList = if s[0] = 48 then bareL (s.data.toList.drop 1) else s.data.toList := by
  have h1 : s.data.toList = s[0] :: s.data.toList.drop 1 := by
    have := List.drop_eq_getElem_cons (l := s.data.toList) (i := 0) (by simpa using h)
    rw [List.drop_zero] at this
    exact this
  rw [h1, bareL]
  simp
def szV : Value → Nat
  | .string s => s.size
  | _ => 0
set_option maxHeartbeats 2000000 in
theorem bare_walk (s : ByteArray) (w : World) :
    Calls Tryz.prog 66 #[.string s] w fun e w' => ∃ X : ByteArray, e = .returned (.string X) ∧ X.data.toList = bareL s.data.toList ∧ w = w' := by
  obtain ⟨L, hL⟩ : ∃ L, bareL s.data.toList = L := ⟨_, rfl⟩
  rw [hL]
  go_enter Tryz.func66, Tryz.ntmps66
  go_wp2
  go_loop [0] (fun v => ∃ X : ByteArray, v = .string X ∧ bareL X.data.toList = L ∧ X.size ≤ s.size) (fun v => szV v)
  case atStart => exact ⟨s, rfl, hL, Nat.le_refl _⟩
  case round =>
    obtain ⟨X, rfl, hX, hle⟩ := hrel
    by_cases h0 : 0 < X.size
    · have h01 : (0 : Int) < (X.size : Int) := by omega
      have hst := bareL_step h0
      by_cases h48 : X[0] = 48
      · have hb : ((X[0].toNat : Int) == 48) = true := by rw [h48]; rfl
        have hx := ext_list X 1 X.size
        rw [List.take_of_length_le (by simp)] at hx
        have hn : Hid (bareL (X.extract 1 X.size).data.toList = L) := hide (by rw [hx, ← hX, hst, if_pos h48])
        have hz : Hid ((X.extract 1 X.size).size = X.size - 1) := hide (by simp)
        have h1 : (1 : Int) ≤ (X.size : Int) := by omega
        clear hst h48 hx hX
        go_wp2_with fail
        go_round
        case rel => exact ⟨_, rfl, hn.out, by have := hz.out; omega⟩
        case measure => have := hz.out; simp only [szV]; omega
      · have hb : ((X[0].toNat : Int) == 48) = false := by
          rw [beq_eq_false_iff_ne]; intro h; exact h48 (UInt8.toNat_inj.1 (by have : X[0].toNat = 48 := by omega
                                                                              rw [this]; rfl))
        have hn : Hid (X.data.toList = L) := hide (by rw [← hX, hst, if_neg h48])
        clear hst h48 hX
        go_wp2
        go_ret
        exact ⟨X, rfl, hn.out, rfl⟩
    · have hz : X.size = 0 := by omega
      have hn : Hid (X.data.toList = L) := hide (by
        have : X.data.toList = [] := List.eq_nil_of_length_eq_zero (by simpa using hz)
        rw [← hX, this]; rfl)
      clear hX
      go_wp2
      go_ret
      exact ⟨X, rfl, hn.out, rfl⟩
end Go.Proofs.YtjdhjnciokhbkaaGreatDoor

namespace Go.Proofs.YtjdhjnciokhbkaaGreatDoor
open Go.RowKit
set_option maxRecDepth 100000

def dg0 (l : List UInt8) : Bool := digN (l.getD 0 0).toNat
def numC (u v : List UInt8) : Int := if u.length < v.length then -1 else if v.length < u.length then 1 else ordL u v
def elemC (p q : List UInt8) : Int := if dg0 p = true then (if dg0 q = true then numC (bareL p) (bareL q) else -1) else if dg0 q = true then 1 else ordL p q
def endC (a b x y : List UInt8) : Int := if x = [] then (if y = [] then ordL a b else -1) else if y = [] then 1 else ordL a b
def cmpF (a b : List UInt8) : Nat → List UInt8 → List UInt8 → Int
  | 0, x, y => endC a b x y
  | n + 1, x, y => if x = [] ∨ y = [] then endC a b x y else
    if elemC (x.take (elemN x)) (y.take (elemN y)) ≠ 0 then elemC (x.take (elemN x)) (y.take (elemN y)) else cmpF a b n (x.drop (elemN x)) (y.drop (elemN y))
def compareV (a b : List UInt8) : Int := cmpF a b a.length a b
theorem trim_bare : ∀ l : List UInt8, Lib.trimLeftB l 48 = bareL l
  | [] => rfl
  | c :: r => by
    have ih := trim_bare r
    unfold Lib.trimLeftB at ih ⊢
    rw [List.dropWhile_cons, bareL]
    by_cases h : c = 48
    · rw [if_pos h, if_pos (by simpa using h)]; exact ih
    · rw [if_neg h, if_neg (by simpa using h)]
theorem cmpF_end {a b : List UInt8} {n : Nat} {x y : List UInt8} (h : x = [] ∨ y = []) : cmpF a b n x y = endC a b x y := by
  cases n with
  | zero => rfl
  | succ n => rw [cmpF, if_pos h]
theorem cmpF_next {a b : List UInt8} {n : Nat} {x y : List UInt8} (hx : x ≠ []) (hy : y ≠ []) (hn : x.length ≤ n) : ∃ n', n = n' + 1 ∧ cmpF a b n x y = if elemC (x.take (elemN x)) (y.take (elemN y)) ≠ 0 then elemC (x.take (elemN x)) (y.take (elemN y)) else cmpF a b n' (x.drop (elemN x)) (y.drop (elemN y)) := by
  have h0 : 0 < x.length := List.length_pos_iff.2 hx
  obtain ⟨n', rfl⟩ : ∃ n', n = n' + 1 := ⟨n - 1, by omega⟩
  exact ⟨n', rfl, by rw [cmpF, if_neg (fun h => h.elim hx hy)]⟩
theorem dg0_of {s : ByteArray} (h : 0 < s.size) : digN s[0].toNat = dg0 s.data.toList := by rw [dgAt_of h]; rfl
theorem toList_dataL (s : ByteArray) : s.toList = s.data.toList := ByteArray.toList_eq s
theorem numC_or (u v : List UInt8) : (if Lib.compareInt u.length v.length ≠ 0 then Lib.compareInt u.length v.length else ordL u v) = numC u v := by
  unfold Lib.compareInt numC
  by_cases h1 : u.length < v.length
  · rw [if_pos (by omega : (u.length : Int) < v.length), if_pos h1]; rfl
  · by_cases h2 : v.length < u.length
    · rw [if_neg (by omega : ¬ (u.length : Int) < v.length), if_pos (by omega : (u.length : Int) > v.length), if_neg h1, if_pos h2]; rfl
    · rw [if_neg (by omega : ¬ (u.length : Int) < v.length), if_neg (by omega : ¬ (u.length : Int) > v.length), if_neg h1, if_neg h2]; rfl
set_option maxHeartbeats 4000000 in
theorem elements_walk (P Q : ByteArray) (w : World) (hp : 0 < P.size) (hq : 0 < Q.size) :
    Calls Tryz.prog 61 #[.string P, .string Q] w fun e w' => e = .returned (.int .i64 (elemC P.data.toList Q.data.toList)) ∧ Below w.heap.size w w' := by
  have hA := dg0_of hp
  have hB := dg0_of hq
  have hp1 : (0 : Int) < (P.size : Int) := by omega
  have hq1 : (0 : Int) < (Q.size : Int) := by omega
  obtain ⟨V, hV⟩ : ∃ V, elemC P.data.toList Q.data.toList = V := ⟨_, rfl⟩
  rw [hV]
  unfold elemC at hV
  have hcS := cmpS_walk P Q
  have htP := fun w => Tryz.strings_TrimLeft_one P 48 (by decide) w
  have htQ := fun w => Tryz.strings_TrimLeft_one Q 48 (by decide) w
  rw [trim_bare] at htP htQ
  rw [toList_dataL, toList_dataL] at hcS
  have hnum := numC_or (bareL P.data.toList) (bareL Q.data.toList)
  obtain ⟨U, hU⟩ : ∃ U : ByteArray, (⟨(bareL P.data.toList).toArray⟩ : ByteArray) = U := ⟨_, rfl⟩
  obtain ⟨T, hT⟩ : ∃ T : ByteArray, (⟨(bareL Q.data.toList).toArray⟩ : ByteArray) = T := ⟨_, rfl⟩
  have hUl : bareL P.data.toList = U.data.toList := by rw [← hU]
  have hTl : bareL Q.data.toList = T.data.toList := by rw [← hT]
  rw [hU] at htP
  rw [hT] at htQ
  rw [hUl, hTl] at hnum hV
  have hcU := cmpS_walk U T
  rw [toList_dataL, toList_dataL] at hcU
  have hci := fun w => Tryz.cmp_Compare_int U.size T.size w
  rw [len_size, len_size] at hnum
  obtain ⟨a, ha⟩ : ∃ a, P[0].toNat = a := ⟨_, rfl⟩
  obtain ⟨b, hb⟩ : ∃ b, Q[0].toNat = b := ⟨_, rfl⟩
  rw [ha] at hA
  rw [hb] at hB
  obtain ⟨x, hx⟩ : ∃ x, dg0 P.data.toList = x := ⟨_, rfl⟩
  obtain ⟨y, hy⟩ : ∃ y, dg0 Q.data.toList = y := ⟨_, rfl⟩
  rw [hx] at hA hV
  rw [hy] at hB hV
  obtain ⟨i1, hi1⟩ : ∃ i1, Lib.compareInt U.size T.size = i1 := ⟨_, rfl⟩
  obtain ⟨i2, hi2⟩ : ∃ i2, ordL U.data.toList T.data.toList = i2 := ⟨_, rfl⟩
  rw [hi1] at hci hnum
  rw [hi2] at hcU hnum
  have d1 := hide (fun w => digN_at hA w)
  have d2 := hide (fun w => digN_at hB w)
  replace htP := hide htP
  replace htQ := hide htQ
  replace hcS := hide hcS
  replace hcU := hide hcU
  replace hci := hide hci
  replace hnum := hide hnum
  clear hx hy hA hB hU hT hUl hTl hi1 hi2
  cases x with
  | true =>
    cases y with
    | true =>
      have hVV : Hid (V = if i1 ≠ 0 then i1 else i2) := hide (hV.symm.trans hnum.out.symm)
      clear hV
      have hor := fun (w : World) => or_walk w.heap.size i1 i2 (w.alloc (.cells #[.int .i64 i1, .int .i64 i2] 3)) (by simp) (by simp)
      replace hor := hide hor
      by_cases h1 : i1 = 0
      · rw [if_neg (by simpa using h1)] at hVV
        have hor2 := hide (fun (w : World) => (hor.out w).mono fun e w' ⟨he, hw⟩ => (⟨he.trans (by rw [if_neg (by simpa using h1)]), hw⟩ : e = Ending.returned (.int .i64 i2) ∧ _ = w'))
        replace h1 := hide h1
        go_enter Tryz.func61, Tryz.ntmps61
        go_wp2_with (first | (go_at_call 56; first | (with_reducible refine (d1.out _).mono ?_; rintro e w' ⟨rfl, rfl⟩) | (with_reducible refine (d2.out _).mono ?_; rintro e w' ⟨rfl, rfl⟩)) | (go_at_call 92; first | (with_reducible refine (htP.out _).mono ?_; rintro e w' ⟨rfl, rfl⟩) | (with_reducible refine (htQ.out _).mono ?_; rintro e w' ⟨rfl, rfl⟩)) | (go_at_call 63; refine (hci.out _).mono ?_; rintro e w' ⟨rfl, rfl⟩) | (go_at_call 64; refine (hcU.out _).mono ?_; rintro e w' ⟨rfl, rfl⟩) | (go_at_call 62; refine (hor2.out _).mono ?_; rintro e w' ⟨rfl, rfl⟩))
        all_goals first | (exfalso; omega) | (go_ret; exact ⟨by rw [hVV.out]; rfl, (by repeat (first | exact Below.refl _ _ | refine ext_alloc ?_ _ | refine ext_drewN ?_ _ | refine ext_drew ?_ | refine ext_trans ?_ (by assumption)))⟩)
      · rw [if_pos h1] at hVV
        have hor2 := hide (fun (w : World) => (hor.out w).mono fun e w' ⟨he, hw⟩ => (⟨he.trans (by rw [if_pos h1]), hw⟩ : e = Ending.returned (.int .i64 i1) ∧ _ = w'))
        replace h1 := hide h1
        go_enter Tryz.func61, Tryz.ntmps61
        go_wp2_with (first | (go_at_call 56; first | (with_reducible refine (d1.out _).mono ?_; rintro e w' ⟨rfl, rfl⟩) | (with_reducible refine (d2.out _).mono ?_; rintro e w' ⟨rfl, rfl⟩)) | (go_at_call 92; first | (with_reducible refine (htP.out _).mono ?_; rintro e w' ⟨rfl, rfl⟩) | (with_reducible refine (htQ.out _).mono ?_; rintro e w' ⟨rfl, rfl⟩)) | (go_at_call 63; refine (hci.out _).mono ?_; rintro e w' ⟨rfl, rfl⟩) | (go_at_call 64; refine (hcU.out _).mono ?_; rintro e w' ⟨rfl, rfl⟩) | (go_at_call 62; refine (hor2.out _).mono ?_; rintro e w' ⟨rfl, rfl⟩))
        all_goals first | (exfalso; omega) | (go_ret; exact ⟨by rw [hVV.out]; rfl, (by repeat (first | exact Below.refl _ _ | refine ext_alloc ?_ _ | refine ext_drewN ?_ _ | refine ext_drew ?_ | refine ext_trans ?_ (by assumption)))⟩)

    | false =>
      have hVV : Hid (V = -1) := hide (hV.symm.trans rfl)
      clear hV
      go_enter Tryz.func61, Tryz.ntmps61
      go_wp2_with (first | (go_at_call 56; first | (with_reducible refine (d1.out _).mono ?_; rintro e w' ⟨rfl, rfl⟩) | (with_reducible refine (d2.out _).mono ?_; rintro e w' ⟨rfl, rfl⟩)))
      go_ret
      exact ⟨by rw [hVV.out]; rfl, Below.refl _ _⟩
  | false =>
    cases y with
    | true =>
      have hVV : Hid (V = 1) := hide (hV.symm.trans rfl)
      clear hV
      go_enter Tryz.func61, Tryz.ntmps61
      go_wp2_with (first | (go_at_call 56; first | (with_reducible refine (d1.out _).mono ?_; rintro e w' ⟨rfl, rfl⟩) | (with_reducible refine (d2.out _).mono ?_; rintro e w' ⟨rfl, rfl⟩)))
      go_ret
      exact ⟨by rw [hVV.out]; rfl, Below.refl _ _⟩
    | false =>
      have hVV : Hid (V = ordL P.data.toList Q.data.toList) := hide (hV.symm.trans rfl)
      clear hV
      go_enter Tryz.func61, Tryz.ntmps61
      go_wp2_with (first | (go_at_call 56; first | (with_reducible refine (d1.out _).mono ?_; rintro e w' ⟨rfl, rfl⟩) | (with_reducible refine (d2.out _).mono ?_; rintro e w' ⟨rfl, rfl⟩)) | (go_at_call 64; refine (hcS.out _).mono ?_; rintro e w' ⟨rfl, rfl⟩))
      go_ret
      exact ⟨by rw [hVV.out]; rfl, Below.refl _ _⟩
end Go.Proofs.YtjdhjnciokhbkaaGreatDoor

namespace Go.Proofs.YtjdhjnciokhbkaaGreatDoor
open Go.RowKit
set_option maxRecDepth 100000

theorem nil_size {X : ByteArray} (h : X.size = 0) : X.data.toList = [] := List.eq_nil_of_length_eq_zero (by simpa using h)
theorem ne_size {X : ByteArray} (h : 0 < X.size) : X.data.toList ≠ [] := fun e => by have := congrArg List.length e; rw [len_size] at this; simp only [List.length_nil] at this; omega
theorem empty_no {X : ByteArray} (h : 0 < X.size) : X.toList.isEmpty = false := by
  rw [ByteArray.toList_eq]
  cases hq : X.data.toList with
  | nil => exact absurd hq (ne_size h)
  | cons c r => rfl
theorem empty_yes {X : ByteArray} (h : X.size = 0) : X.toList.isEmpty = true := by
  rw [ByteArray.toList_eq, nil_size h]; rfl
theorem endC_or (a b : List UInt8) (X Y : ByteArray) (h : ¬ (0 < X.size ∧ 0 < Y.size)) :
    (if Lib.compareInt (min (X.size : Int) 1) (min (Y.size : Int) 1) ≠ 0 then Lib.compareInt (min (X.size : Int) 1) (min (Y.size : Int) 1) else ordL a b) = endC a b X.data.toList Y.data.toList := by
  unfold endC Lib.compareInt
  by_cases hx : X.size = 0
  · rw [if_pos (nil_size hx)]
    by_cases hy : Y.size = 0
    · rw [if_pos (nil_size hy), hx, hy]; simp
    · rw [if_neg (ne_size (by omega)), if_pos (by omega : min (X.size : Int) 1 < min (Y.size : Int) 1)]; simp
  · have hy : Y.size = 0 := by omega
    rw [if_neg (ne_size (by omega : 0 < X.size)), if_pos (nil_size hy), if_neg (by omega : ¬ min (X.size : Int) 1 < min (Y.size : Int) 1), if_pos (by omega : min (X.size : Int) 1 > min (Y.size : Int) 1)]; simp
def CmpSt (a b : ByteArray) (V : Int) (w : World) (x y : Value) (wr : World) : Prop :=
  ∃ (X Y : ByteArray) (n : Nat), x = .string X ∧ y = .string Y ∧ X.size ≤ n ∧ X.size ≤ 9223372036854775807 ∧ Y.size ≤ 9223372036854775807 ∧ cmpF a.data.toList b.data.toList n X.data.toList Y.data.toList = V ∧ Below w.heap.size w wr
set_option maxHeartbeats 8000000 in
theorem ccompare_walk (a b : ByteArray) (w : World) (ha : a.size ≤ 9223372036854775807) (hb : b.size ≤ 9223372036854775807) :
    Calls Tryz.prog 25 #[.string a, .string b] w fun e w' => e = .returned (.int .i64 (compareV a.data.toList b.data.toList)) ∧ Below w.heap.size w w' := by
  obtain ⟨V, hV⟩ : ∃ V, compareV a.data.toList b.data.toList = V := ⟨_, rfl⟩
  rw [hV]
  have hcS := cmpS_walk a b
  rw [toList_dataL, toList_dataL] at hcS
  replace hcS := hide hcS
  go_enter Tryz.func25, Tryz.ntmps25
  go_wp2
  go_loopw [5, 6] (fun x y wr => CmpSt a b V w x y wr) (fun x _ _ => szV x)
  case atStart => exact ⟨a, b, a.size, rfl, rfl, Nat.le_refl _, ha, hb, by rw [← hV]; unfold compareV; rw [len_size], Below.refl _ _⟩
  case round =>
    obtain ⟨X, Y, n, rfl, rfl, hn, hX, hY, hF, hbw⟩ := hrel
    by_cases h0 : 0 < X.size ∧ 0 < Y.size
    · obtain ⟨hx0, hy0⟩ := h0
      have ex := empty_no hx0
      have ey := empty_no hy0
      obtain ⟨n', rfl, hnx⟩ := cmpF_next (a := a.data.toList) (b := b.data.toList) (ne_size hx0) (ne_size hy0) (by rw [len_size]; exact hn)
      rw [hF] at hnx
      have lx := elemN_le X.data.toList (by rw [len_size]; exact hx0)
      have ly := elemN_le Y.data.toList (by rw [len_size]; exact hy0)
      rw [len_size] at lx ly
      have w1 := fun (w : World) => element_walk X w hx0 hX
      have w2 := fun (w : World) => element_walk Y w hy0 hY
      obtain ⟨p, hp⟩ : ∃ p, elemN X.data.toList = p := ⟨_, rfl⟩
      obtain ⟨q, hq⟩ : ∃ q, elemN Y.data.toList = q := ⟨_, rfl⟩
      rw [hp] at lx w1 hnx
      rw [hq] at ly w2 hnx
      have hel := fun (U : World) => elements_walk (X.extract 0 p) (Y.extract 0 q) U (by simp; omega) (by simp; omega)
      have xp : (X.extract 0 p).data.toList = X.data.toList.take p := by rw [ext_list]; simp
      have yq : (Y.extract 0 q).data.toList = Y.data.toList.take q := by rw [ext_list]; simp
      have xd : (X.extract p X.size).data.toList = X.data.toList.drop p := by rw [ext_list, List.take_of_length_le (by simp)]
      have yd : (Y.extract q Y.size).data.toList = Y.data.toList.drop q := by rw [ext_list, List.take_of_length_le (by simp)]
      have zx : (X.extract p X.size).size = X.size - p := by simp
      have zy : (Y.extract q Y.size).size = Y.size - q := by simp
      rw [xp, yq] at hel
      rw [← xd, ← yd] at hnx
      obtain ⟨E, hE⟩ : ∃ E, elemC (X.data.toList.take p) (Y.data.toList.take q) = E := ⟨_, rfl⟩
      rw [hE] at hel hnx
      have hp1 : (p : Int) ≤ (X.size : Int) := by omega
      have hq1 : (q : Int) ≤ (Y.size : Int) := by omega
      have hp0 : (0 : Int) ≤ (p : Int) := by omega
      have hq0 : (0 : Int) ≤ (q : Int) := by omega
      have hel2 := hide (fun (R : World) (U : World) (hU : Below R.heap.size R U) => (hel U).mono fun e w' ⟨he, hb⟩ => (⟨he, ext_trans hU hb⟩ : e = Ending.returned (.int .i64 E) ∧ Below R.heap.size R w'))
      replace w1 := hide w1
      replace w2 := hide w2
      replace hnx := hide hnx
      replace xd := hide xd
      replace yd := hide yd
      replace zx := hide zx
      replace zy := hide zy
      clear xp yq hE hp hq hF hel
      go_wp2_with (first | (go_at_call 60; first | (with_reducible refine (w1.out _).mono ?_; rintro e y1 ⟨rfl, hb1⟩) | (with_reducible refine (w2.out _).mono ?_; rintro e y2 ⟨rfl, hb2⟩)))
      have hbn := ext_trans hbw (ext_trans hb1 hb2)
      have hel3 := hide (fun (U : World) (hU : Below y2.heap.size y2 U) => hel2.out y2 U hU)
      have hrefl := Below.refl y2.heap.size y2
      clear hel2 hb1 hb2 hbw w1 w2
      go_region_held3 (fun W' => True) (first | trivial) (first | (go_at_call 61; (with_reducible refine (hel3.out _ ?_).mono ?_); (repeat (first | (with_reducible assumption) | (with_reducible refine ext_alloc ?_ _) | (with_reducible refine ext_drew ?_))); rintro e y3 ⟨rfl, hb3⟩))
      all_goals
        have hbm := ext_trans hbn hb3
        clear hel3 hrefl hb3 hbn
        by_cases hE : E = 0
        · have hn2 : Hid (V = cmpF a.data.toList b.data.toList n' (X.extract p X.size).data.toList (Y.extract q Y.size).data.toList) := hide (hnx.out.trans (if_neg (fun h => h hE)))
          subst hE
          clear hnx ex ey
          go_upto_region 7 with fail
          go_region
          all_goals
            go_wp2
            go_roundw
            case rel => exact ⟨_, _, n', rfl, rfl, by have := zx.out; omega, by have := zx.out; omega, by have := zy.out; omega, hn2.out.symm, by first | exact hbm | exact ext_drew hbm⟩
            case measure => have := zx.out; simp only [szV]; omega
        · have hn2 : Hid (V = E) := hide (hnx.out.trans (if_pos hE))
          clear hnx ex ey
          go_wp2
          all_goals first | (exfalso; omega) | (go_ret; exact ⟨by rw [hn2.out]; rfl, hbm⟩)
    · have hend := endC_or a.data.toList b.data.toList X Y h0
      have hfe : cmpF a.data.toList b.data.toList n X.data.toList Y.data.toList = endC a.data.toList b.data.toList X.data.toList Y.data.toList := cmpF_end (by
        by_cases hx : X.size = 0
        · exact .inl (nil_size hx)
        · exact .inr (nil_size (by omega)))
      rw [← hfe, hF] at hend
      have hci := fun (w : World) => Tryz.cmp_Compare_int (min (X.size : Int) 1) (min (Y.size : Int) 1) w
      obtain ⟨i1, hi1⟩ : ∃ i1, Lib.compareInt (min (X.size : Int) 1) (min (Y.size : Int) 1) = i1 := ⟨_, rfl⟩
      obtain ⟨i2, hi2⟩ : ∃ i2, ordL a.data.toList b.data.toList = i2 := ⟨_, rfl⟩
      rw [hi1] at hci hend
      rw [hi2] at hcS hend
      have hor := hide (fun (w : World) => (or_walk w.heap.size i1 i2 (w.alloc (.cells #[.int .i64 i1, .int .i64 i2] 3)) (by simp) (by simp)).mono fun e w' ⟨he, hw⟩ => (⟨he.trans (by rw [hend]), hw⟩ : e = Ending.returned (.int .i64 V) ∧ _ = w'))
      replace hci := hide hci
      clear hi1 hi2 hend hfe hF
      have hx : (0 < X.size ∧ X.toList.isEmpty = false ∧ Y.toList.isEmpty = true) ∨ X.toList.isEmpty = true := by
        by_cases hx : X.size = 0
        · exact .inr (empty_yes hx)
        · exact .inl ⟨by omega, empty_no (by omega), empty_yes (by omega)⟩
      rcases hx with ⟨-, ex, ey⟩ | ex
      all_goals
        go_wp2_with (first | (go_at_call 63; refine (hci.out _).mono ?_; rintro e w' ⟨rfl, rfl⟩) | (go_at_call 64; refine (hcS.out _).mono ?_; rintro e w' ⟨rfl, rfl⟩) | (go_at_call 62; refine (hor.out _).mono ?_; rintro e w' ⟨rfl, rfl⟩))
        go_ret
        exact ⟨rfl, ext_alloc hbw _⟩
end Go.Proofs.YtjdhjnciokhbkaaGreatDoor
