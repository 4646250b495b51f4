/- Walks of slices.IndexFunc, slices.ContainsFunc at lecturers and at times, and of stafffile.has, fields.Apart. No condition. -/
import Derived.Test.YtgbkochjoaalhaaGreatDoorFieldsC
namespace Go.Proofs.YtgbkochjoaalhaaGreatDoor
open Go.RowKit
set_option maxRecDepth 100000

def orTo (p : Nat → Bool) : Nat → Bool
  | 0 => false
  | k + 1 => orTo p k || p k
theorem orTo_hit {p : Nat → Bool} {k : Nat} (h : p k = true) : ∀ n, k < n → orTo p n = true
  | 0, hk => by omega
  | n + 1, hk => by
    unfold orTo
    by_cases e : k = n
    · subst e; rw [h, Bool.or_true]
    · rw [orTo_hit h n (by omega), Bool.true_or]
/-- The cells of a row of n elements of k cells, in blocks below B. -/
def CellsAt (B : Nat) (w : World) (A : Option Addr) (k n : Nat) (X : Nat → List Value) : Prop :=
  0 < n → ∃ b off, A = some ⟨b, off, none⟩ ∧ b < B ∧ ∀ j, j < n → ∀ i u, (X j)[i]? = some u → w.cell? ⟨b, off + j * k + i, none⟩ = some u
theorem CellsAt.below {B k n : Nat} {w w' : World} {A : Option Addr} {X : Nat → List Value} (h : CellsAt B w A k n X) (hb : Below B w w') : CellsAt B w' A k n X := by
  intro hn
  obtain ⟨b, off, e, h1, hc⟩ := h hn
  exact ⟨b, off, e, h1, fun j hj i u hu => (hb.cell (p := ⟨b, off + j * k + i, none⟩) h1).trans (hc j hj i u hu)⟩
def IdxGives (p : Nat → Bool) (n : Nat) (w : World) (e : Ending) (w' : World) : Prop := ∃ r : Int, e = .returned (.int .i64 r) ∧ decide (0 ≤ r) = orTo p n ∧ Below w.heap.size w w'
-- <find>
set_option maxHeartbeats 2000000 in
theorem idxL_walk (fn : Nat) (lb : Array Value) (eg : ∀ args w, (callFunc fn args).run Tryz.prog w = .ok (.enter fn args) w) (A : Option Addr) (n c : Nat) (X0 X1 : Nat → Value) (p : Nat → Bool) (w : World) (hn : n ≤ 9223372036854775807)
    (hX : CellsAt w.heap.size w A 2 n fun j => [X0 j, X1 j])
    (hp : ∀ (W : World) (j : Nat), j < n → Below w.heap.size w W → Calls Tryz.prog fn (#[.agg #[X0 j, X1 j]] ++ lb) W fun e w' => e = .returned (.bool (p j)) ∧ Below w.heap.size w w') :
    Calls Tryz.prog 132 #[.slice A n c, .func (.func fn) #[] lb] w fun e w' => IdxGives p n w e w' := by
  go_enter Tryz.func132, Tryz.ntmps132
  go_wp2
  go_loopw [5, 8] (fun _ i wr => ∃ j : Nat, j ≤ n ∧ i = .int .i64 j ∧ Hid (orTo p j = false) ∧ Below w.heap.size w wr) (fun _ i _ => n - (intOf i).toNat)
  case atStart => exact ⟨0, Nat.zero_le _, rfl, rfl, Below.refl _ _⟩
  case round =>
    obtain ⟨j, hj, rfl, ho, hb⟩ := hrel
    by_cases hlt : j < n
    · obtain ⟨b, off, rfl, hbB, hc⟩ := (hX.below hb) (by omega)
      have k0 := hc j hlt 0 _ rfl
      have k1 := hc j hlt 1 _ rfl
      rw [Nat.add_zero] at k0
      have hcall := hp wr j hlt hb
      clear hc hp hX
      obtain ⟨x0, hx0⟩ : ∃ x, X0 j = x := ⟨_, rfl⟩
      obtain ⟨x1, hx1⟩ : ∃ x, X1 j = x := ⟨_, rfl⟩
      rw [hx0] at k0 hcall
      rw [hx1] at k1 hcall
      clear hx0 hx1
      cases hq : p j with
      | true =>
        rw [hq] at hcall
        have hit := hide (orTo_hit hq n hlt)
        clear hq
        go_wp2_with (go_at_fn fn; refine hcall.mono ?_; rintro e w' ⟨rfl, hb'⟩)
        go_ret
        exact ⟨j, rfl, by rw [hit.out]; simp, hb'⟩
      | false =>
        rw [hq] at hcall
        have miss : Hid (orTo p (j + 1) = false) := by show orTo p (j + 1) = false; unfold orTo; rw [ho.out, hq]; rfl
        clear hq ho
        go_wp2_with (go_at_fn fn; refine hcall.mono ?_; rintro e w' ⟨rfl, hb'⟩)
        go_roundw
        case rel => exact ⟨j + 1, by omega, by go_num, miss, hb'⟩
        case measure => simp [intOf]; omega
    · obtain rfl : j = n := by omega
      go_wp2
      go_ret
      exact ⟨-1, rfl, by rw [ho.out]; rfl, hb⟩
set_option maxHeartbeats 2000000 in
theorem conL_walk (fn : Nat) (lb : Array Value) (eg : ∀ args w, (callFunc fn args).run Tryz.prog w = .ok (.enter fn args) w) (A : Option Addr) (n c : Nat) (X0 X1 : Nat → Value) (p : Nat → Bool) (w : World) (hn : n ≤ 9223372036854775807)
    (hX : CellsAt w.heap.size w A 2 n fun j => [X0 j, X1 j])
    (hp : ∀ (W : World) (j : Nat), j < n → Below w.heap.size w W → Calls Tryz.prog fn (#[.agg #[X0 j, X1 j]] ++ lb) W fun e w' => e = .returned (.bool (p j)) ∧ Below w.heap.size w w') :
    Calls Tryz.prog 110 #[.slice A n c, .func (.func fn) #[] lb] w fun e w' => e = .returned (.bool (orTo p n)) ∧ Below w.heap.size w w' := by
  have hcall := idxL_walk fn lb eg A n c X0 X1 p w hn hX hp
  clear hp hX
  go_enter Tryz.func110, Tryz.ntmps110
  go_wp2_with fail
  refine hcall.mono ?_
  rintro e w' ⟨r, rfl, hr, hb⟩
  replace hr := hide hr
  go_wp2
  go_ret
  exact ⟨ret_bool hr.out, hb⟩
-- </find>
set_option maxHeartbeats 2000000 in
theorem idxT_walk (fn : Nat) (lb : Array Value) (eg : ∀ args w, (callFunc fn args).run Tryz.prog w = .ok (.enter fn args) w) (A : Option Addr) (n c : Nat) (X0 X1 X2 X3 : Nat → Value) (p : Nat → Bool) (w : World) (hn : n ≤ 9223372036854775807)
    (hX : CellsAt w.heap.size w A 4 n fun j => [X0 j, X1 j, X2 j, X3 j])
    (hp : ∀ (W : World) (j : Nat), j < n → Below w.heap.size w W → Calls Tryz.prog fn (#[.agg #[X0 j, X1 j, X2 j, X3 j]] ++ lb) W fun e w' => e = .returned (.bool (p j)) ∧ Below w.heap.size w w') :
    Calls Tryz.prog 118 #[.slice A n c, .func (.func fn) #[] lb] w fun e w' => IdxGives p n w e w' := by
  go_enter Tryz.func118, Tryz.ntmps118
  go_wp2
  go_loopw [5, 8] (fun _ i wr => ∃ j : Nat, j ≤ n ∧ i = .int .i64 j ∧ Hid (orTo p j = false) ∧ Below w.heap.size w wr) (fun _ i _ => n - (intOf i).toNat)
  case atStart => exact ⟨0, Nat.zero_le _, rfl, rfl, Below.refl _ _⟩
  case round =>
    obtain ⟨j, hj, rfl, ho, hb⟩ := hrel
    by_cases hlt : j < n
    · obtain ⟨b, off, rfl, hbB, hc⟩ := (hX.below hb) (by omega)
      have k0 := hc j hlt 0 _ rfl
      have k1 := hc j hlt 1 _ rfl
      have k2 := hc j hlt 2 _ rfl
      have k3 := hc j hlt 3 _ rfl
      rw [Nat.add_zero] at k0
      have hcall := hp wr j hlt hb
      clear hc hp hX
      obtain ⟨x0, hx0⟩ : ∃ x, X0 j = x := ⟨_, rfl⟩
      obtain ⟨x1, hx1⟩ : ∃ x, X1 j = x := ⟨_, rfl⟩
      obtain ⟨x2, hx2⟩ : ∃ x, X2 j = x := ⟨_, rfl⟩
      obtain ⟨x3, hx3⟩ : ∃ x, X3 j = x := ⟨_, rfl⟩
      rw [hx0] at k0 hcall
      rw [hx1] at k1 hcall
      rw [hx2] at k2 hcall
      rw [hx3] at k3 hcall
      clear hx0 hx1 hx2 hx3
      cases hq : p j with
      | true =>
        rw [hq] at hcall
        have hit := hide (orTo_hit hq n hlt)
        clear hq
        go_wp2_with (go_at_fn fn; refine hcall.mono ?_; rintro e w' ⟨rfl, hb'⟩)
        go_ret
        exact ⟨j, rfl, by rw [hit.out]; simp, hb'⟩
      | false =>
        rw [hq] at hcall
        have miss : Hid (orTo p (j + 1) = false) := by show orTo p (j + 1) = false; unfold orTo; rw [ho.out, hq]; rfl
        clear hq ho
        go_wp2_with (go_at_fn fn; refine hcall.mono ?_; rintro e w' ⟨rfl, hb'⟩)
        go_roundw
        case rel => exact ⟨j + 1, by omega, by go_num, miss, hb'⟩
        case measure => simp [intOf]; omega
    · obtain rfl : j = n := by omega
      go_wp2
      go_ret
      exact ⟨-1, rfl, by rw [ho.out]; rfl, hb⟩
set_option maxHeartbeats 2000000 in
theorem conT_walk (fn : Nat) (lb : Array Value) (eg : ∀ args w, (callFunc fn args).run Tryz.prog w = .ok (.enter fn args) w) (A : Option Addr) (n c : Nat) (X0 X1 X2 X3 : Nat → Value) (p : Nat → Bool) (w : World) (hn : n ≤ 9223372036854775807)
    (hX : CellsAt w.heap.size w A 4 n fun j => [X0 j, X1 j, X2 j, X3 j])
    (hp : ∀ (W : World) (j : Nat), j < n → Below w.heap.size w W → Calls Tryz.prog fn (#[.agg #[X0 j, X1 j, X2 j, X3 j]] ++ lb) W fun e w' => e = .returned (.bool (p j)) ∧ Below w.heap.size w w') :
    Calls Tryz.prog 88 #[.slice A n c, .func (.func fn) #[] lb] w fun e w' => e = .returned (.bool (orTo p n)) ∧ Below w.heap.size w w' := by
  have hcall := idxT_walk fn lb eg A n c X0 X1 X2 X3 p w hn hX hp
  clear hp hX
  go_enter Tryz.func88, Tryz.ntmps88
  go_wp2_with fail
  refine hcall.mono ?_
  rintro e w' ⟨r, rfl, hr, hb⟩
  replace hr := hide hr
  go_wp2
  go_ret
  exact ⟨ret_bool hr.out, hb⟩

def sameS (a b : ByteArray) : Bool := a.toList == b.toList
set_option maxHeartbeats 800000 in
theorem has1_walk (x code : ByteArray) (u : Value) (c : Nat) (w : World) (hc : w.cell? ⟨c, 0, none⟩ = some (.string code)) :
    Calls Tryz.prog 111 #[.agg #[.string x, u], .pointer (some ⟨c, 0, none⟩)] w fun e w' => e = .returned (.bool (sameS x code)) ∧ Below w.heap.size w w' := by
  have hlt := World.block_lt_of_cell? _ _ hc
  go_enter Tryz.func111, Tryz.ntmps111
  go_wp2
  go_ret
  exact ⟨rfl, (by repeat (first | exact Below.refl _ _ | refine ext_alloc ?_ _ | refine ext_drewN ?_ _ | refine ext_drew ?_ | refine ext_trans ?_ (by assumption)))⟩
set_option maxHeartbeats 800000 in
theorem has_walk (A : Option Addr) (n c : Nat) (code : ByteArray) (codes : Nat → ByteArray) (X1 : Nat → Value) (w : World) (hn : n ≤ 9223372036854775807)
    (hX : CellsAt w.heap.size w A 2 n fun j => [.string (codes j), X1 j]) :
    Calls Tryz.prog 73 #[.slice A n c, .string code] w fun e w' => e = .returned (.bool (orTo (fun j => sameS (codes j) code) n)) ∧ Below w.heap.size w w' := by
  have eg : ∀ args w, (callFunc 111 args).run Tryz.prog w = .ok (.enter 111 args) w := enters_of Tryz.func111 (by kernel_rfl) rfl
  have hb0 : Below w.heap.size w (w.alloc (.cells #[.string code] 9)) := ext_alloc (Below.refl _ _) _
  have hcall := conL_walk 111 #[.pointer (some ⟨w.heap.size, 0, none⟩)] eg A n c (fun j => .string (codes j)) X1 (fun j => sameS (codes j) code) (w.alloc (.cells #[.string code] 9)) hn
    (fun hn' => by obtain ⟨b, off, e, h1, h2⟩ := (hX.below hb0) hn'; exact ⟨b, off, e, by rw [World.size_alloc]; omega, h2⟩)
    (fun W j hj hb => (has1_walk (codes j) code (X1 j) w.heap.size W ((hb.cell (p := ⟨w.heap.size, 0, none⟩) (by simp)).trans (by simp))).mono fun e w' ⟨he, hw⟩ => ⟨he, ext_trans hb hw⟩)
  clear hX eg
  obtain ⟨r, hr⟩ : ∃ r, orTo (fun j => sameS (codes j) code) n = r := ⟨_, rfl⟩
  rw [hr] at hcall ⊢
  clear hr
  go_enter Tryz.func73, Tryz.ntmps73
  go_wp2_with fail
  refine hcall.mono ?_
  rintro e w' ⟨rfl, hb⟩
  go_wp2
  go_ret
  exact ⟨rfl, ext_trans hb0 hb⟩
set_option maxHeartbeats 800000 in
theorem apart1_walk (a1 a2 a3 a4 b1 b2 b3 b4 : Int) (c : Nat) (w : World) (hc : Box4 w c (.int .i64 b1) (.int .i64 b2) (.int .i64 b3) (.int .i64 b4)) :
    Calls Tryz.prog 89 #[.agg #[.int .i64 a1, .int .i64 a2, .int .i64 a3, .int .i64 a4], .pointer (some ⟨c, 0, none⟩)] w fun e w' => e = .returned (.bool (overlapB a1 a2 a3 a4 b1 b2 b3 b4)) ∧ Below w.heap.size w w' := by
  have hlt := hc.lt
  obtain ⟨c0, c1, c2, c3⟩ := hc
  go_enter Tryz.func89, Tryz.ntmps89
  go_wp2_with fail
  refine (tgOverlap_walk _ _ _ _ _ _ _ _ _).mono ?_
  rintro e w' ⟨rfl, hb⟩
  go_wp2
  go_ret
  exact ⟨rfl, ext_trans (by repeat (first | exact Below.refl _ _ | refine ext_alloc ?_ _ | refine ext_drewN ?_ _ | refine ext_drew ?_ | refine ext_trans ?_ (by assumption))) hb⟩
set_option maxHeartbeats 800000 in
theorem apart_walk (A : Option Addr) (n c : Nat) (ts : Nat → T4) (b1 b2 b3 b4 : Int) (w : World) (hn : n ≤ 9223372036854775807)
    (hX : CellsAt w.heap.size w A 4 n fun j => encT (ts j)) :
    Calls Tryz.prog 47 #[.slice A n c, .agg #[.int .i64 b1, .int .i64 b2, .int .i64 b3, .int .i64 b4]] w fun e w' => e = .returned (.bool (!orTo (fun j => overlapB (ts j).1 (ts j).2.1 (ts j).2.2.1 (ts j).2.2.2 b1 b2 b3 b4) n)) ∧ Below w.heap.size w w' := by
  have eg : ∀ args w, (callFunc 89 args).run Tryz.prog w = .ok (.enter 89 args) w := enters_of Tryz.func89 (by kernel_rfl) rfl
  have hb0 : Below w.heap.size w (w.alloc (.cells #[.int .i64 b1, .int .i64 b2, .int .i64 b3, .int .i64 b4] 43)) := ext_alloc (Below.refl _ _) _
  have hcall := conT_walk 89 #[.pointer (some ⟨w.heap.size, 0, none⟩)] eg A n c (fun j => .int .i64 (ts j).1) (fun j => .int .i64 (ts j).2.1) (fun j => .int .i64 (ts j).2.2.1) (fun j => .int .i64 (ts j).2.2.2) (fun j => overlapB (ts j).1 (ts j).2.1 (ts j).2.2.1 (ts j).2.2.2 b1 b2 b3 b4) (w.alloc (.cells #[.int .i64 b1, .int .i64 b2, .int .i64 b3, .int .i64 b4] 43)) hn
    (fun hn' => by obtain ⟨b, off, e, h1, h2⟩ := (hX.below hb0) hn'; exact ⟨b, off, e, by rw [World.size_alloc]; omega, h2⟩)
    (fun W j hj hb => (apart1_walk _ _ _ _ b1 b2 b3 b4 w.heap.size W ((Box4.new w 43 _ _ _ _).later hb)).mono fun e w' ⟨he, hw⟩ => ⟨he, ext_trans hb hw⟩)
  clear hX eg
  obtain ⟨r, hr⟩ : ∃ r, orTo (fun j => overlapB (ts j).1 (ts j).2.1 (ts j).2.2.1 (ts j).2.2.2 b1 b2 b3 b4) n = r := ⟨_, rfl⟩
  rw [hr] at hcall ⊢
  clear hr
  go_enter Tryz.func47, Tryz.ntmps47
  go_wp2_with fail
  refine hcall.mono ?_
  rintro e w' ⟨rfl, hb⟩
  go_wp2
  go_ret
  exact ⟨rfl, ext_trans hb0 hb⟩
set_option maxHeartbeats 800000 in
theorem sfFree_walk (code : Value) (A : Option Addr) (n c : Nat) (ts : Nat → T4) (b1 b2 b3 b4 : Int) (w : World) (hn : n ≤ 9223372036854775807)
    (hX : CellsAt w.heap.size w A 4 n fun j => encT (ts j)) :
    Calls Tryz.prog 20 #[.agg #[code, .slice A n c], .agg #[.int .i64 b1, .int .i64 b2, .int .i64 b3, .int .i64 b4]] w fun e w' => e = .returned (.bool (!orTo (fun j => overlapB (ts j).1 (ts j).2.1 (ts j).2.2.1 (ts j).2.2.2 b1 b2 b3 b4) n)) ∧ Below w.heap.size w w' := by
  have hb0 : Below w.heap.size w ((w.alloc (.cells #[code, .slice A n c] 47)).alloc (.cells #[.int .i64 b1, .int .i64 b2, .int .i64 b3, .int .i64 b4] 43)) := (by repeat (first | exact Below.refl _ _ | refine ext_alloc ?_ _ | refine ext_drewN ?_ _ | refine ext_drew ?_ | refine ext_trans ?_ (by assumption)))
  have hcall := apart_walk A n c ts b1 b2 b3 b4 ((w.alloc (.cells #[code, .slice A n c] 47)).alloc (.cells #[.int .i64 b1, .int .i64 b2, .int .i64 b3, .int .i64 b4] 43)) hn
    (fun hn' => by obtain ⟨b, off, e, h1, h2⟩ := (hX.below hb0) hn'; exact ⟨b, off, e, by rw [World.size_alloc, World.size_alloc]; omega, h2⟩)
  clear hX
  obtain ⟨r, hr⟩ : ∃ r, (!orTo (fun j => overlapB (ts j).1 (ts j).2.1 (ts j).2.2.1 (ts j).2.2.2 b1 b2 b3 b4) n) = r := ⟨_, rfl⟩
  rw [hr] at hcall ⊢
  clear hr
  go_enter Tryz.func20, Tryz.ntmps20
  go_wp2_with fail
  refine hcall.mono ?_
  rintro e w' ⟨rfl, hb⟩
  go_wp2
  go_ret
  exact ⟨rfl, ext_trans hb0 hb⟩
end Go.Proofs.YtgbkochjoaalhaaGreatDoor
