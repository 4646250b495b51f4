/- Walks of timetableref07.SameTimes, timetableref02.SameProblems, timetableref09.Same, where both hold the same. Conditions: the cells. Walks of timetableref07.Clear, timetableref09.Free, fields.Fit. Conditions: the cells. Walk of stafffile.Valid. Conditions: the lecturers' cells; what the program's variables hold. Walk of timetableref09.Valid. Conditions: the lecturers' cells. -/
import Derived.Test.YtonpfohhedcjbaaGreatDoorKR9A
namespace Go.Proofs.YtonpfohhedcjbaaGreatDoor
open Go.RowKit
set_option maxRecDepth 100000

theorem own_len {w : World} {B k n : Nat} {e : TypeId} {v : Value} {xs : List Value} (h : w.ownsRow B e k v n xs) : n ≤ 9223372036854775807 := by
  rcases h.2 with ⟨_, h0⟩ | ⟨_, cap, _, _, _, _, h1, h2, _⟩
  · omega
  · unfold maxLen at h2; omega
theorem times_form {B : Nat} {w : World} {v : Value} {ts : List T4} (h : TimesOwn B w v ts) : ∃ A c, v = .slice A ts.length c := owns_form h
set_option maxHeartbeats 4000000 in
theorem r2SameP_walk (A A' : Option Addr) (n c c' : Nat) (X : Nat → Prob) (w : World) (hn : n ≤ 9223372036854775807) (h1 : CellsAt w.heap.size w A 4 n fun j => encP (X j)) (h2 : CellsAt w.heap.size w A' 4 n fun j => encP (X j)) :
    Calls Tryz.prog 38 #[.slice A n c, .slice A' n c'] w fun e w' => e = .returned (.bool true) ∧ Below w.heap.size w w' := by
  go_enter Tryz.func38, Tryz.ntmps38
  go_wp2
  go_loopw [5] (fun i wr => ∃ j : Nat, j ≤ n ∧ i = .int .i64 j ∧ Below w.heap.size w wr) (fun i _ => n - (intOf i).toNat)
  case atStart => exact ⟨0, Nat.zero_le _, rfl, Below.refl _ _⟩
  case round =>
    obtain ⟨j, hj, rfl, hb⟩ := hrel
    by_cases hlt : j < n
    · obtain ⟨b1, o1, rfl, hb1, k1⟩ := (h1.below hb) (by omega)
      obtain ⟨b2, o2, rfl, hb2, k2⟩ := (h2.below hb) (by omega)
      have a0 := k1 j hlt 0 _ rfl
      have a1 := k1 j hlt 1 _ rfl
      have a2 := k1 j hlt 2 _ rfl
      have a3 := k1 j hlt 3 _ rfl
      have e0 := k2 j hlt 0 _ rfl
      have e1 := k2 j hlt 1 _ rfl
      have e2 := k2 j hlt 2 _ rfl
      have e3 := k2 j hlt 3 _ rfl
      obtain ⟨⟨x1, x2, x3⟩, hX⟩ : ∃ q, X j = q := ⟨_, rfl⟩
      rw [hX] at a1 a2 a3 e1 e2 e3
      rw [Nat.add_zero] at a0 e0
      have hz := hb.size
      have hb1r : b1 < wr.heap.size := by omega
      have hb2r : b2 < wr.heap.size := by omega
      have hj0 : (0 : Int) ≤ (j : Int) := by omega
      have hj1 : (j : Int) < (n : Int) := by omega
      clear k1 k2 h1 h2 hX
      go_wp2_with fail
      go_region
      all_goals
        go_wp2
        go_roundw
        case rel => exact ⟨j + 1, by omega, by go_num, by first | exact ext_drew hb | exact hb⟩
        case measure => simp [intOf]; omega
    · obtain rfl : j = n := by omega
      go_wp2
      go_ret
      exact ⟨rfl, hb⟩
theorem probs_cells {B q c : Nat} {w : World} {A : Option Addr} {ps : List Prob} (h : ProbsOwn B w (.slice A q c) ps) : CellsAt w.heap.size w A 4 ps.length fun j => encP (ps.getD j (0, 0, 0)) := by
  intro hn
  obtain ⟨g, e, hg, hc⟩ := own_at h hn
  refine ⟨g, 0, e, hg, fun j hj i u hu => ?_⟩
  have hx : ps[j]? = some (ps.getD j (0, 0, 0)) := by rw [List.getD_eq_getElem?_getD, List.getElem?_eq_getElem hj]; rfl
  have hi : i < 4 := by
    have := (List.getElem?_eq_some_iff.1 hu).1
    simpa [encP] using this
  rw [Nat.zero_add]
  exact hc _ u ((flat_at encP 4 (fun _ => rfl) ps j i _ hx hi).trans hu)
theorem probs_same (B C : Nat) (v v' : Value) (ps : List Prob) (w : World) (h1 : ProbsOwn B w v ps) (h2 : ProbsOwn C w v' ps) :
    Calls Tryz.prog 38 #[v, v'] w fun e w' => e = .returned (.bool true) ∧ Below w.heap.size w w' := by
  obtain ⟨A, c, rfl⟩ := owns_form h1
  obtain ⟨A', c', rfl⟩ := owns_form h2
  exact r2SameP_walk A A' ps.length c c' _ w (own_len h1) (probs_cells h1) (probs_cells h2)
theorem lects_cells2 {B q c : Nat} {w : World} {A : Option Addr} {ls : List Lect} (h : LectsOwn B w (.slice A q c) ls) : ∃ X1 : Nat → Value, (CellsAt w.heap.size w A 2 ls.length fun j => [.string (codesOf ls j), X1 j]) ∧ ∀ (j : Nat) (l : Lect), ls[j]? = some l → TimesOwn B w (X1 j) l.2 := by
  obtain ⟨us, e1, e2, e3⟩ := h
  refine ⟨fun j => us.getD j undef, fun hn => ?_, fun j l hl => ?_⟩
  · rcases e2.2 with ⟨h1, h2⟩ | ⟨g, cap, cur, h1, _, hg, _⟩
    · omega
    · injection h1 with h1
      subst h1
      have hcl := e2.cells (g := g) rfl
      refine ⟨g, 0, rfl, blk_lt hg, fun j hj i u hu => ?_⟩
      have hi : i < 2 := by
        have := (List.getElem?_eq_some_iff.1 hu).1
        simpa using this
      have := hcl (j * 2 + i) u (by rw [lectCells_at ls us e1 j i hi, if_pos hj]; exact hu)
      rw [show (⟨g, 0, none⟩ : Addr).add (j * 2 + i) = ⟨g, 0 + j * 2 + i, none⟩ from by rw [Addr.add_lit]; simp only [Nat.zero_add]] at this
      exact this
  · have hj : j < us.length := by rw [e1]; exact (List.getElem?_eq_some_iff.1 hl).1
    exact e3 j l _ hl (by show us[j]? = some (us.getD j undef); rw [List.getD_eq_getElem?_getD, List.getElem?_eq_getElem hj]; rfl)
abbrev SC (b1 b2 o1 o2 : Nat) (code : ByteArray) (u1 u2 : Value) (W : World) : Prop := W.cell? ⟨b1, o1, none⟩ = some (.string code) ∧ W.cell? ⟨b1, o1 + 1, none⟩ = some u1 ∧ W.cell? ⟨b2, o2, none⟩ = some (.string code) ∧ W.cell? ⟨b2, o2 + 1, none⟩ = some u2
theorem SC.drew {b1 b2 o1 o2 : Nat} {code : ByteArray} {u1 u2 : Value} {W : World} (h : SC b1 b2 o1 o2 code u1 u2 W) : SC b1 b2 o1 o2 code u1 u2 W.drew := h
theorem SC.later {b1 b2 o1 o2 : Nat} {code : ByteArray} {u1 u2 : Value} {W W' : World} (h : SC b1 b2 o1 o2 code u1 u2 W) (hb : Below W.heap.size W W') : SC b1 b2 o1 o2 code u1 u2 W' := ⟨cell_later hb h.1, cell_later hb h.2.1, cell_later hb h.2.2.1, cell_later hb h.2.2.2⟩
end Go.Proofs.YtonpfohhedcjbaaGreatDoor

namespace Go.Proofs.YtonpfohhedcjbaaGreatDoor
open Go.RowKit
set_option maxRecDepth 100000

/-- Two structs of four numbers. -/
abbrev EC (b1 o1 b2 : Nat) (x y : T4) (W : World) : Prop := W.cell? ⟨b1, o1, none⟩ = some (.int .i64 x.1) ∧ W.cell? ⟨b1, o1 + 1, none⟩ = some (.int .i64 x.2.1) ∧ W.cell? ⟨b1, o1 + 2, none⟩ = some (.int .i64 x.2.2.1) ∧ W.cell? ⟨b1, o1 + 3, none⟩ = some (.int .i64 x.2.2.2) ∧ W.cell? ⟨b2, 0, none⟩ = some (.int .i64 y.1) ∧ W.cell? ⟨b2, 1, none⟩ = some (.int .i64 y.2.1) ∧ W.cell? ⟨b2, 2, none⟩ = some (.int .i64 y.2.2.1) ∧ W.cell? ⟨b2, 3, none⟩ = some (.int .i64 y.2.2.2)
theorem EC.drew {b1 o1 b2 : Nat} {x y : T4} {W : World} (h : EC b1 o1 b2 x y W) : EC b1 o1 b2 x y W.drew := h
theorem EC.later {b1 o1 b2 : Nat} {x y : T4} {W W' : World} (h : EC b1 o1 b2 x y W) (hb : Below W.heap.size W W') : EC b1 o1 b2 x y W' := ⟨cell_later hb h.1, cell_later hb h.2.1, cell_later hb h.2.2.1, cell_later hb h.2.2.2.1, cell_later hb h.2.2.2.2.1, cell_later hb h.2.2.2.2.2.1, cell_later hb h.2.2.2.2.2.2.1, cell_later hb h.2.2.2.2.2.2.2⟩
end Go.Proofs.YtonpfohhedcjbaaGreatDoor

namespace Go.Proofs.YtonpfohhedcjbaaGreatDoor
open Go.RowKit
set_option maxRecDepth 100000

/-- Lecturers, in blocks below B. -/
def LectsAt (B : Nat) (w : World) (A : Option Addr) (ls : List Lect) : Prop :=
  0 < ls.length → ∃ b off, A = some ⟨b, off, none⟩ ∧ b < B ∧ ∀ j l, ls[j]? = some l → ∃ T c, w.cell? ⟨b, off + j * 2, none⟩ = some (.string l.1) ∧ w.cell? ⟨b, off + j * 2 + 1, none⟩ = some (.slice T l.2.length c) ∧ CellsAt B w T 4 l.2.length fun k => encT (l.2.getD k (0, 0, 0, 0))
theorem LectsAt.below {B : Nat} {w w' : World} {A : Option Addr} {ls : List Lect} (h : LectsAt B w A ls) (hb : Below B w w') : LectsAt B w' A ls := by
  intro hn
  obtain ⟨b, off, e, h1, hc⟩ := h hn
  refine ⟨b, off, e, h1, fun j l hl => ?_⟩
  obtain ⟨T, c, c0, c1, ht⟩ := hc j l hl
  exact ⟨T, c, (hb.cell h1).trans c0, (hb.cell h1).trans c1, ht.below hb⟩
theorem LectsAt.more {B C : Nat} {w : World} {A : Option Addr} {ls : List Lect} (h : LectsAt B w A ls) (hB : B ≤ C) : LectsAt C w A ls := by
  intro hn
  obtain ⟨b, off, e, h1, hc⟩ := h hn
  refine ⟨b, off, e, by omega, fun j l hl => ?_⟩
  obtain ⟨T, c, c0, c1, ht⟩ := hc j l hl
  exact ⟨T, c, c0, c1, ht.more hB⟩
/-- The first error of lecturer i, and of the first k. -/
def lectE (d sl b m n : Int) (ls : List Lect) (i : Nat) : Int :=
  if codeB (codesOf ls i) = false then 10 else if 24 < (ls.getD i (⟨#[]⟩, [])).2.length then 2
  else if orTo (fun j => fitsV d sl b m n ((ls.getD i (⟨#[]⟩, [])).2.getD j (0, 0, 0, 0)).1 ((ls.getD i (⟨#[]⟩, [])).2.getD j (0, 0, 0, 0)).2.1 ((ls.getD i (⟨#[]⟩, [])).2.getD j (0, 0, 0, 0)).2.2.1 ((ls.getD i (⟨#[]⟩, [])).2.getD j (0, 0, 0, 0)).2.2.2 != 0) (ls.getD i (⟨#[]⟩, [])).2.length then 14
  else if orTo (fun j => sameS (codesOf ls j) (codesOf ls i)) i then 11 else 0
def lectsE (d sl b m n : Int) (ls : List Lect) : Nat → Int
  | 0 => 0
  | k + 1 => if lectsE d sl b m n ls k ≠ 0 then lectsE d sl b m n ls k else lectE d sl b m n ls k
def validV (d sl b m n : Int) (ls : List Lect) : Int :=
  if weekB d sl b m n = false then 1 else if 32 < ls.length then 2 else lectsE d sl b m n ls ls.length
theorem lectsE_hit {d sl b m n : Int} {ls : List Lect} {k : Nat} (h : lectsE d sl b m n ls k ≠ 0) : ∀ q, k ≤ q → lectsE d sl b m n ls q = lectsE d sl b m n ls k
  | 0, hq => by obtain rfl : k = 0 := by omega
                rfl
  | q + 1, hq => by
    by_cases e : k = q + 1
    · rw [e]
    · have := lectsE_hit h q (by omega)
      rw [lectsE, if_pos (by rw [this]; exact h), this]
theorem lectsAt_cells {B : Nat} {w : World} {A : Option Addr} {ls : List Lect} (h : LectsAt B w A ls) : ∃ X1 : Nat → Value, CellsAt B w A 2 ls.length fun j => [.string (codesOf ls j), X1 j] := by
  by_cases hn : 0 < ls.length
  · obtain ⟨b, off, rfl, hb, hc⟩ := h hn
    refine ⟨fun j => (w.cell? ⟨b, off + j * 2 + 1, none⟩).getD undef, fun _ => ⟨b, off, rfl, hb, fun j hj i u hu => ?_⟩⟩
    obtain ⟨T, c, c0, c1, -⟩ := hc j (ls.getD j (⟨#[]⟩, [])) (by rw [List.getD_eq_getElem?_getD, List.getElem?_eq_getElem hj]; rfl)
    match i, hu with
    | 0, hu => simp at hu; subst hu; exact c0
    | 1, hu => simp at hu; subst hu; rw [c1]; rfl
    | i + 2, hu => simp at hu
  · exact ⟨fun _ => undef, fun h0 => absurd h0 hn⟩
theorem cells_prefix {B k n q : Nat} {w : World} {A : Option Addr} {X : Nat → List Value} (h : CellsAt B w A k n X) (hq : q ≤ n) : CellsAt B w A k q X := by
  intro h0
  obtain ⟨b, off, e, hb, hc⟩ := h (by omega)
  exact ⟨b, off, e, hb, fun j hj => hc j (by omega)⟩
theorem lectsE_end {d sl b m n : Int} {ls : List Lect} {j N : Nat} {e : Int} (h0 : lectsE d sl b m n ls j = 0) (he : lectE d sl b m n ls j = e) (hne : e ≠ 0) (hj : j < N) : lectsE d sl b m n ls N = e := by
  have h1 : lectsE d sl b m n ls (j + 1) = e := by rw [lectsE, if_neg (by simp [h0]), he]
  rw [lectsE_hit (by rw [h1]; exact hne) N (by omega), h1]
end Go.Proofs.YtonpfohhedcjbaaGreatDoor

namespace Go.Proofs.YtonpfohhedcjbaaGreatDoor
open Go.RowKit
set_option maxRecDepth 100000

theorem orTo_below {p : Nat → Bool} : ∀ {n q : Nat}, orTo p n = false → q ≤ n → orTo p q = false
  | 0, q, h, hq => by obtain rfl : q = 0 := by omega
                      exact h
  | n + 1, q, h, hq => by
    by_cases e : q = n + 1
    · rw [e]; exact h
    · rw [orTo, Bool.or_eq_false_iff] at h
      exact orTo_below h.1 (by omega)
/-- The least index, as far as Valid asks for it. -/
def LeastGives (p : Nat → Bool) (n : Nat) (w : World) (e : Ending) (w' : World) : Prop := ∃ r : Int, e = .returned (.int .i64 r) ∧ (∀ q : Nat, q < n → p q = true → decide (r < (q : Int)) = orTo p q) ∧ Below w.heap.size w w'
/-- The cells that the region of Fits loads. -/
abbrev FC (gb rb tb o1 o2 : Nat) (d sl b m : Int) (u : Value) (x1 x2 x3 x4 : Int) (W : World) : Prop := W.cell? ⟨gb, 0, none⟩ = some (.int .i64 d) ∧ W.cell? ⟨gb, 1, none⟩ = some (.int .i64 sl) ∧ W.cell? ⟨gb, 2, none⟩ = some (.int .i64 b) ∧ W.cell? ⟨gb, 3, none⟩ = some (.int .i64 m) ∧ W.cell? ⟨rb, o1, none⟩ = some u ∧ W.cell? ⟨tb, o2, none⟩ = some (.int .i64 x1) ∧ W.cell? ⟨tb, o2 + 1, none⟩ = some (.int .i64 x2) ∧ W.cell? ⟨tb, o2 + 2, none⟩ = some (.int .i64 x3) ∧ W.cell? ⟨tb, o2 + 3, none⟩ = some (.int .i64 x4)
section
variable {gb rb tb o1 o2 : Nat} {d sl b m : Int} {u : Value} {x1 x2 x3 x4 : Int} {W W' : World}
theorem FC.drew (h : FC gb rb tb o1 o2 d sl b m u x1 x2 x3 x4 W) : FC gb rb tb o1 o2 d sl b m u x1 x2 x3 x4 W.drew := h
theorem FC.later (h : FC gb rb tb o1 o2 d sl b m u x1 x2 x3 x4 W) (hb : Below W.heap.size W W') : FC gb rb tb o1 o2 d sl b m u x1 x2 x3 x4 W' :=
  ⟨cell_later hb h.1, cell_later hb h.2.1, cell_later hb h.2.2.1, cell_later hb h.2.2.2.1, cell_later hb h.2.2.2.2.1, cell_later hb h.2.2.2.2.2.1, cell_later hb h.2.2.2.2.2.2.1, cell_later hb h.2.2.2.2.2.2.2.1, cell_later hb h.2.2.2.2.2.2.2.2⟩
end
end Go.Proofs.YtonpfohhedcjbaaGreatDoor
