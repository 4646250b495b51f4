/- Walks of slices.IndexFunc, slices.ContainsFunc at lecturers and at times, and of stafffile.has, fields.Apart. No condition. Walk of the closure of stafffile.Lines: one lecturer is read. Conditions: the scanner's cells are as Scan says; texts shorter than 2^30 bytes. Walk of fields.Read at lecturers. Conditions: texts shorter than 2^30 bytes. Walks of stafffile.Lines, stafffile.Read, and the check at the head of law 09. Conditions: texts shorter than 2^30 bytes. -/
import Derived.Test.YtdnnahdafhddlaaGreatDoorYSameL
namespace Go.Proofs.YtdnnahdafhddlaaGreatDoor
open Go.RowKit
set_option maxRecDepth 100000

def orTo (p : Nat → Bool) : Nat → Bool
  | 0 => false
  | k + 1 => orTo p k || p k
theorem orTo_hit {p : Nat → Bool} {k : Nat} (h : p k = true) : ∀ n, k < n → orTo p n = true
  | 0, hk => by omega
  | n + 1, hk => by
    unfold orTo
    by_cases e : k = n
    · subst e; rw [h, Bool.or_true]
    · rw [orTo_hit h n (by omega), Bool.true_or]
/-- The cells of a row of n elements of k cells, in blocks below B. -/
def CellsAt (B : Nat) (w : World) (A : Option Addr) (k n : Nat) (X : Nat → List Value) : Prop :=
  0 < n → ∃ b off, A = some ⟨b, off, none⟩ ∧ b < B ∧ ∀ j, j < n → ∀ i u, (X j)[i]? = some u → w.cell? ⟨b, off + j * k + i, none⟩ = some u
theorem CellsAt.below {B k n : Nat} {w w' : World} {A : Option Addr} {X : Nat → List Value} (h : CellsAt B w A k n X) (hb : Below B w w') : CellsAt B w' A k n X := by
  intro hn
  obtain ⟨b, off, e, h1, hc⟩ := h hn
  exact ⟨b, off, e, h1, fun j hj i u hu => (hb.cell (p := ⟨b, off + j * k + i, none⟩) h1).trans (hc j hj i u hu)⟩
def IdxGives (p : Nat → Bool) (n : Nat) (w : World) (e : Ending) (w' : World) : Prop := ∃ r : Int, e = .returned (.int .i64 r) ∧ decide (0 ≤ r) = orTo p n ∧ Below w.heap.size w w'
-- <find>
set_option maxHeartbeats 2000000 in
theorem idxT_walk (fn : Nat) (lb : Array Value) (eg : ∀ args w, (callFunc fn args).run Tryz.prog w = .ok (.enter fn args) w) (A : Option Addr) (n c : Nat) (X0 X1 X2 X3 : Nat → Value) (p : Nat → Bool) (w : World) (hn : n ≤ 9223372036854775807)
    (hX : CellsAt w.heap.size w A 4 n fun j => [X0 j, X1 j, X2 j, X3 j])
    (hp : ∀ (W : World) (j : Nat), j < n → Below w.heap.size w W → Calls Tryz.prog fn (#[.agg #[X0 j, X1 j, X2 j, X3 j]] ++ lb) W fun e w' => e = .returned (.bool (p j)) ∧ Below w.heap.size w w') :
    Calls Tryz.prog 162 #[.slice A n c, .func (.func fn) #[] lb] w fun e w' => IdxGives p n w e w' := by
  go_enter Tryz.func162, Tryz.ntmps162
  go_wp2
  go_loopw [5, 8] (fun _ i wr => ∃ j : Nat, j ≤ n ∧ i = .int .i64 j ∧ Hid (orTo p j = false) ∧ Below w.heap.size w wr) (fun _ i _ => n - (intOf i).toNat)
  case atStart => exact ⟨0, Nat.zero_le _, rfl, rfl, Below.refl _ _⟩
  case round =>
    obtain ⟨j, hj, rfl, ho, hb⟩ := hrel
    by_cases hlt : j < n
    · obtain ⟨b, off, rfl, hbB, hc⟩ := (hX.below hb) (by omega)
      have k0 := hc j hlt 0 _ rfl
      have k1 := hc j hlt 1 _ rfl
      have k2 := hc j hlt 2 _ rfl
      have k3 := hc j hlt 3 _ rfl
      rw [Nat.add_zero] at k0
      have hcall := hp wr j hlt hb
      clear hc hp hX
      obtain ⟨x0, hx0⟩ : ∃ x, X0 j = x := ⟨_, rfl⟩
      obtain ⟨x1, hx1⟩ : ∃ x, X1 j = x := ⟨_, rfl⟩
      obtain ⟨x2, hx2⟩ : ∃ x, X2 j = x := ⟨_, rfl⟩
      obtain ⟨x3, hx3⟩ : ∃ x, X3 j = x := ⟨_, rfl⟩
      rw [hx0] at k0 hcall
      rw [hx1] at k1 hcall
      rw [hx2] at k2 hcall
      rw [hx3] at k3 hcall
      clear hx0 hx1 hx2 hx3
      cases hq : p j with
      | true =>
        rw [hq] at hcall
        have hit := hide (orTo_hit hq n hlt)
        clear hq
        go_wp2_with (go_at_fn fn; refine hcall.mono ?_; rintro e w' ⟨rfl, hb'⟩)
        go_ret
        exact ⟨j, rfl, by rw [hit.out]; simp, hb'⟩
      | false =>
        rw [hq] at hcall
        have miss : Hid (orTo p (j + 1) = false) := by show orTo p (j + 1) = false; unfold orTo; rw [ho.out, hq]; rfl
        clear hq ho
        go_wp2_with (go_at_fn fn; refine hcall.mono ?_; rintro e w' ⟨rfl, hb'⟩)
        go_roundw
        case rel => exact ⟨j + 1, by omega, by go_num, miss, hb'⟩
        case measure => simp [intOf]; omega
    · obtain rfl : j = n := by omega
      go_wp2
      go_ret
      exact ⟨-1, rfl, by rw [ho.out]; rfl, hb⟩
set_option maxHeartbeats 2000000 in
theorem conT_walk (fn : Nat) (lb : Array Value) (eg : ∀ args w, (callFunc fn args).run Tryz.prog w = .ok (.enter fn args) w) (A : Option Addr) (n c : Nat) (X0 X1 X2 X3 : Nat → Value) (p : Nat → Bool) (w : World) (hn : n ≤ 9223372036854775807)
    (hX : CellsAt w.heap.size w A 4 n fun j => [X0 j, X1 j, X2 j, X3 j])
    (hp : ∀ (W : World) (j : Nat), j < n → Below w.heap.size w W → Calls Tryz.prog fn (#[.agg #[X0 j, X1 j, X2 j, X3 j]] ++ lb) W fun e w' => e = .returned (.bool (p j)) ∧ Below w.heap.size w w') :
    Calls Tryz.prog 112 #[.slice A n c, .func (.func fn) #[] lb] w fun e w' => e = .returned (.bool (orTo p n)) ∧ Below w.heap.size w w' := by
  have hcall := idxT_walk fn lb eg A n c X0 X1 X2 X3 p w hn hX hp
  clear hp hX
  go_enter Tryz.func112, Tryz.ntmps112
  go_wp2_with fail
  refine hcall.mono ?_
  rintro e w' ⟨r, rfl, hr, hb⟩
  replace hr := hide hr
  go_wp2
  go_ret
  exact ⟨ret_bool hr.out, hb⟩

end Go.Proofs.YtdnnahdafhddlaaGreatDoor

namespace Go.Proofs.YtdnnahdafhddlaaGreatDoor
open Go.RowKit
set_option maxRecDepth 100000

theorem CellsAt.more {B C k n : Nat} {w : World} {A : Option Addr} {X : Nat → List Value} (h : CellsAt B w A k n X) (hB : B ≤ C) : CellsAt C w A k n X := by
  intro hn
  obtain ⟨b, off, e, h1, hc⟩ := h hn
  exact ⟨b, off, e, by omega, hc⟩
end Go.Proofs.YtdnnahdafhddlaaGreatDoor

namespace Go.Proofs.YtdnnahdafhddlaaGreatDoor
open Go.RowKit
set_option maxRecDepth 100000

/-- A lecturer: the code, the times. -/
abbrev Lect := ByteArray × List T4
theorem infoProb : (Tryz.prog.info? 55).map (fun i => (i.zero, i.size, i.bytes)) = some (some (.agg #[.int .i64 0, .int .i64 0, .int .i64 0, .int .i64 0]), 4, 32) := by kernel_rfl
def encP (p : Prob) : List Value := [.int .i64 0, .int .i64 p.1, .int .i64 p.2.1, .int .i64 p.2.2]
/-- Problems, in memory of their own. -/
def ProbsOwn (B : Nat) (w : World) (v : Value) (ps : List Prob) : Prop := w.ownsRow B 55 4 v ps.length (ps.flatMap encP)
/-- Two rows of other element types lie in other blocks. -/
theorem own_ne {w : World} {B C n m s t : Nat} {e f : TypeId} {v u : Value} {xs ys : List Value} (h : w.ownsRow B e s v n xs) (h' : w.ownsRow C f t u m ys) (hne : e ≠ f) : v.ownBlock = none ∨ v.ownBlock ≠ u.ownBlock := by
  rcases h.2 with ⟨rfl, _⟩ | ⟨g, cap, cur, rfl, _, hg, _⟩
  · exact .inl rfl
  · refine .inr fun e2 => ?_
    rcases h'.2 with ⟨rfl, _⟩ | ⟨g', cap', cur', rfl, _, hg', _⟩
    · simp [Value.ownBlock] at e2
    · have : g = g' := by simpa [Value.ownBlock] using e2
      subst this
      rw [hg] at hg'
      injection hg' with h1
      injection h1 with _ h2
      exact hne h2
/-- What the reading of records has gathered. -/
structure RS where
  ls : List Lect
  lines : List Int
  ps : List Prob
theorem new_prob (w : World) (a b c : Int) (t : TypeId) : ∀ (j : Nat) (u : Value), (encP (a, b, c))[j]? = some u → (w.alloc (.cells #[.int .i64 0, .int .i64 a, .int .i64 b, .int .i64 c] t)).cell? ((⟨w.heap.size, 0, none⟩ : Addr).add j) = some u :=
  new_four w 0 a b c t
section
variable {w0 : World} {u6 v6 u7 v7 u8 vt : Value} {st : RS} {t0 : ByteArray} {ts : List T4} {xb rc : Nat} {line : Int} {W W' : World}
end
end Go.Proofs.YtdnnahdafhddlaaGreatDoor

namespace Go.Proofs.YtdnnahdafhddlaaGreatDoor
open Go.RowKit
set_option maxRecDepth 100000

theorem flat_at {α : Type} (enc : α → List Value) (k : Nat) (hk : ∀ x, (enc x).length = k) : ∀ (ls : List α) (j i : Nat) (x : α), ls[j]? = some x → i < k → (ls.flatMap enc)[j * k + i]? = (enc x)[i]?
  | [], j, i, x, h, _ => by simp at h
  | l :: ls, 0, i, x, h, hi => by
    simp at h
    subst h
    rw [List.flatMap_cons, List.getElem?_append_left (by rw [hk]; omega)]
    simp
  | l :: ls, j + 1, i, x, h, hi => by
    rw [List.flatMap_cons, List.getElem?_append_right (by rw [hk, Nat.add_mul]; omega), hk, show (j + 1) * k + i - k = j * k + i from by rw [Nat.add_mul]; omega]
    exact flat_at enc k hk ls j i x (by simpa using h) hi
theorem own_at {B k n c : Nat} {e : TypeId} {w : World} {A : Option Addr} {q : Nat} {xs : List Value} (h : w.ownsRow B e k (.slice A q c) n xs) (hn : 0 < n) : ∃ g, A = some ⟨g, 0, none⟩ ∧ g < w.heap.size ∧ ∀ j u, xs[j]? = some u → w.cell? ⟨g, j, none⟩ = some u := by
  rcases h.2 with ⟨h1, h2⟩ | ⟨g, cap, cur, h1, _, hg, _⟩
  · omega
  · injection h1 with h1
    subst h1
    have hcl := h.cells (g := g) rfl
    refine ⟨g, rfl, blk_lt hg, fun j u hu => ?_⟩
    have := hcl j u hu
    rw [show (⟨g, 0, none⟩ : Addr).add j = ⟨g, j, none⟩ from by rw [Addr.add_lit]; simp only [Nat.zero_add]] at this
    exact this
end Go.Proofs.YtdnnahdafhddlaaGreatDoor
