/- Walks of timetableref07.SameTimes, timetableref02.SameProblems, timetableref09.Same, where both hold the same. Conditions: the cells. -/
import Derived.Test.YtgbkochjoaalhaaGreatDoorR9A
namespace Go.Proofs.YtgbkochjoaalhaaGreatDoor
open Go.RowKit
set_option maxRecDepth 100000

theorem own_len {w : World} {B k n : Nat} {e : TypeId} {v : Value} {xs : List Value} (h : w.ownsRow B e k v n xs) : n ≤ 9223372036854775807 := by
  rcases h.2 with ⟨_, h0⟩ | ⟨_, cap, _, _, _, _, h1, h2, _⟩
  · omega
  · unfold maxLen at h2; omega
theorem times_form {B : Nat} {w : World} {v : Value} {ts : List T4} (h : TimesOwn B w v ts) : ∃ A c, v = .slice A ts.length c := owns_form h
set_option maxHeartbeats 4000000 in
theorem r7Same_walk (A A' : Option Addr) (n c c' : Nat) (X : Nat → T4) (w : World) (hn : n ≤ 9223372036854775807) (h1 : CellsAt w.heap.size w A 4 n fun j => encT (X j)) (h2 : CellsAt w.heap.size w A' 4 n fun j => encT (X j)) :
    Calls Tryz.prog 45 #[.slice A n c, .slice A' n c'] w fun e w' => e = .returned (.bool true) ∧ Below w.heap.size w w' := by
  go_enter Tryz.func45, Tryz.ntmps45
  go_wp2
  go_loopw [5] (fun i wr => ∃ j : Nat, j ≤ n ∧ i = .int .i64 j ∧ Below w.heap.size w wr) (fun i _ => n - (intOf i).toNat)
  case atStart => exact ⟨0, Nat.zero_le _, rfl, Below.refl _ _⟩
  case round =>
    obtain ⟨j, hj, rfl, hb⟩ := hrel
    by_cases hlt : j < n
    · obtain ⟨b1, o1, rfl, hb1, k1⟩ := (h1.below hb) (by omega)
      obtain ⟨b2, o2, rfl, hb2, k2⟩ := (h2.below hb) (by omega)
      have a0 := k1 j hlt 0 _ rfl
      have a1 := k1 j hlt 1 _ rfl
      have a2 := k1 j hlt 2 _ rfl
      have a3 := k1 j hlt 3 _ rfl
      have e0 := k2 j hlt 0 _ rfl
      have e1 := k2 j hlt 1 _ rfl
      have e2 := k2 j hlt 2 _ rfl
      have e3 := k2 j hlt 3 _ rfl
      obtain ⟨⟨x1, x2, x3, x4⟩, hX⟩ : ∃ q, X j = q := ⟨_, rfl⟩
      rw [hX] at a0 a1 a2 a3 e0 e1 e2 e3
      rw [Nat.add_zero] at a0 e0
      have hz := hb.size
      have hb1r : b1 < wr.heap.size := by omega
      have hb2r : b2 < wr.heap.size := by omega
      have hj0 : (0 : Int) ≤ (j : Int) := by omega
      have hj1 : (j : Int) < (n : Int) := by omega
      clear k1 k2 h1 h2 hX
      go_wp2_with fail
      go_region
      all_goals
        go_wp2
        go_roundw
        case rel => exact ⟨j + 1, by omega, by go_num, by first | exact ext_drew hb | exact hb⟩
        case measure => simp [intOf]; omega
    · obtain rfl : j = n := by omega
      go_wp2
      go_ret
      exact ⟨rfl, hb⟩
set_option maxHeartbeats 4000000 in
theorem r2SameP_walk (A A' : Option Addr) (n c c' : Nat) (X : Nat → Prob) (w : World) (hn : n ≤ 9223372036854775807) (h1 : CellsAt w.heap.size w A 4 n fun j => encP (X j)) (h2 : CellsAt w.heap.size w A' 4 n fun j => encP (X j)) :
    Calls Tryz.prog 13 #[.slice A n c, .slice A' n c'] w fun e w' => e = .returned (.bool true) ∧ Below w.heap.size w w' := by
  go_enter Tryz.func13, Tryz.ntmps13
  go_wp2
  go_loopw [5] (fun i wr => ∃ j : Nat, j ≤ n ∧ i = .int .i64 j ∧ Below w.heap.size w wr) (fun i _ => n - (intOf i).toNat)
  case atStart => exact ⟨0, Nat.zero_le _, rfl, Below.refl _ _⟩
  case round =>
    obtain ⟨j, hj, rfl, hb⟩ := hrel
    by_cases hlt : j < n
    · obtain ⟨b1, o1, rfl, hb1, k1⟩ := (h1.below hb) (by omega)
      obtain ⟨b2, o2, rfl, hb2, k2⟩ := (h2.below hb) (by omega)
      have a0 := k1 j hlt 0 _ rfl
      have a1 := k1 j hlt 1 _ rfl
      have a2 := k1 j hlt 2 _ rfl
      have a3 := k1 j hlt 3 _ rfl
      have e0 := k2 j hlt 0 _ rfl
      have e1 := k2 j hlt 1 _ rfl
      have e2 := k2 j hlt 2 _ rfl
      have e3 := k2 j hlt 3 _ rfl
      obtain ⟨⟨x1, x2, x3⟩, hX⟩ : ∃ q, X j = q := ⟨_, rfl⟩
      rw [hX] at a1 a2 a3 e1 e2 e3
      rw [Nat.add_zero] at a0 e0
      have hz := hb.size
      have hb1r : b1 < wr.heap.size := by omega
      have hb2r : b2 < wr.heap.size := by omega
      have hj0 : (0 : Int) ≤ (j : Int) := by omega
      have hj1 : (j : Int) < (n : Int) := by omega
      clear k1 k2 h1 h2 hX
      go_wp2_with fail
      go_region
      all_goals
        go_wp2
        go_roundw
        case rel => exact ⟨j + 1, by omega, by go_num, by first | exact ext_drew hb | exact hb⟩
        case measure => simp [intOf]; omega
    · obtain rfl : j = n := by omega
      go_wp2
      go_ret
      exact ⟨rfl, hb⟩
theorem probs_cells {B q c : Nat} {w : World} {A : Option Addr} {ps : List Prob} (h : ProbsOwn B w (.slice A q c) ps) : CellsAt w.heap.size w A 4 ps.length fun j => encP (ps.getD j (0, 0, 0)) := by
  intro hn
  obtain ⟨g, e, hg, hc⟩ := own_at h hn
  refine ⟨g, 0, e, hg, fun j hj i u hu => ?_⟩
  have hx : ps[j]? = some (ps.getD j (0, 0, 0)) := by rw [List.getD_eq_getElem?_getD, List.getElem?_eq_getElem hj]; rfl
  have hi : i < 4 := by
    have := (List.getElem?_eq_some_iff.1 hu).1
    simpa [encP] using this
  rw [Nat.zero_add]
  exact hc _ u ((flat_at encP 4 (fun _ => rfl) ps j i _ hx hi).trans hu)
theorem probs_same (B C : Nat) (v v' : Value) (ps : List Prob) (w : World) (h1 : ProbsOwn B w v ps) (h2 : ProbsOwn C w v' ps) :
    Calls Tryz.prog 13 #[v, v'] w fun e w' => e = .returned (.bool true) ∧ Below w.heap.size w w' := by
  obtain ⟨A, c, rfl⟩ := owns_form h1
  obtain ⟨A', c', rfl⟩ := owns_form h2
  exact r2SameP_walk A A' ps.length c c' _ w (own_len h1) (probs_cells h1) (probs_cells h2)
theorem lects_cells2 {B q c : Nat} {w : World} {A : Option Addr} {ls : List Lect} (h : LectsOwn B w (.slice A q c) ls) : ∃ X1 : Nat → Value, (CellsAt w.heap.size w A 2 ls.length fun j => [.string (codesOf ls j), X1 j]) ∧ ∀ (j : Nat) (l : Lect), ls[j]? = some l → TimesOwn B w (X1 j) l.2 := by
  obtain ⟨us, e1, e2, e3⟩ := h
  refine ⟨fun j => us.getD j undef, fun hn => ?_, fun j l hl => ?_⟩
  · rcases e2.2 with ⟨h1, h2⟩ | ⟨g, cap, cur, h1, _, hg, _⟩
    · omega
    · injection h1 with h1
      subst h1
      have hcl := e2.cells (g := g) rfl
      refine ⟨g, 0, rfl, blk_lt hg, fun j hj i u hu => ?_⟩
      have hi : i < 2 := by
        have := (List.getElem?_eq_some_iff.1 hu).1
        simpa using this
      have := hcl (j * 2 + i) u (by rw [lectCells_at ls us e1 j i hi, if_pos hj]; exact hu)
      rw [show (⟨g, 0, none⟩ : Addr).add (j * 2 + i) = ⟨g, 0 + j * 2 + i, none⟩ from by rw [Addr.add_lit]; simp only [Nat.zero_add]] at this
      exact this
  · have hj : j < us.length := by rw [e1]; exact (List.getElem?_eq_some_iff.1 hl).1
    exact e3 j l _ hl (by show us[j]? = some (us.getD j undef); rw [List.getD_eq_getElem?_getD, List.getElem?_eq_getElem hj]; rfl)
abbrev SC (b1 b2 o1 o2 : Nat) (code : ByteArray) (u1 u2 : Value) (W : World) : Prop := W.cell? ⟨b1, o1, none⟩ = some (.string code) ∧ W.cell? ⟨b1, o1 + 1, none⟩ = some u1 ∧ W.cell? ⟨b2, o2, none⟩ = some (.string code) ∧ W.cell? ⟨b2, o2 + 1, none⟩ = some u2
theorem SC.drew {b1 b2 o1 o2 : Nat} {code : ByteArray} {u1 u2 : Value} {W : World} (h : SC b1 b2 o1 o2 code u1 u2 W) : SC b1 b2 o1 o2 code u1 u2 W.drew := h
theorem SC.later {b1 b2 o1 o2 : Nat} {code : ByteArray} {u1 u2 : Value} {W W' : World} (h : SC b1 b2 o1 o2 code u1 u2 W) (hb : Below W.heap.size W W') : SC b1 b2 o1 o2 code u1 u2 W' := ⟨cell_later hb h.1, cell_later hb h.2.1, cell_later hb h.2.2.1, cell_later hb h.2.2.2⟩
set_option maxHeartbeats 8000000 in
theorem r9Same_walk (B C : Nat) (v v' : Value) (ls : List Lect) (w : World) (h1 : LectsOwn B w v ls) (h2 : LectsOwn C w v' ls) :
    Calls Tryz.prog 12 #[v, v'] w fun e w' => e = .returned (.bool true) ∧ Below w.heap.size w w' := by
  obtain ⟨A, c, rfl⟩ : ∃ A c, v = .slice A ls.length c := by obtain ⟨us, -, h, -⟩ := h1; exact owns_form h
  obtain ⟨A', c', rfl⟩ : ∃ A c, v' = .slice A ls.length c := by obtain ⟨us, -, h, -⟩ := h2; exact owns_form h
  obtain ⟨X, hX, hXt⟩ := lects_cells2 h1
  obtain ⟨Y, hY, hYt⟩ := lects_cells2 h2
  obtain ⟨n, hnn⟩ : ∃ n, ls.length = n := ⟨_, rfl⟩
  have hn : n ≤ 9223372036854775807 := by rw [← hnn]; obtain ⟨us, -, h, -⟩ := h1; exact own_len h
  rw [hnn] at hX hY ⊢
  replace hnn := hide hnn
  clear h1 h2
  go_enter Tryz.func12, Tryz.ntmps12
  go_wp2
  go_loopw [5] (fun i wr => ∃ j : Nat, j ≤ n ∧ i = .int .i64 j ∧ Below w.heap.size w wr) (fun i _ => n - (intOf i).toNat)
  case atStart => exact ⟨0, Nat.zero_le _, rfl, Below.refl _ _⟩
  case round =>
    obtain ⟨j, hj, rfl, hb⟩ := hrel
    by_cases hlt : j < n
    · obtain ⟨b1, o1, rfl, hb1, k1⟩ := (hX.below hb) (by omega)
      obtain ⟨b2, o2, rfl, hb2, k2⟩ := (hY.below hb) (by omega)
      obtain ⟨l, hl⟩ : ∃ l, ls[j]? = some l := ⟨_, List.getElem?_eq_getElem (by rw [hnn.out]; exact hlt)⟩
      have tX := owns_later (hXt j l hl) hb
      have tY := owns_later (hYt j l hl) hb
      have a0 := k1 j hlt 0 _ rfl
      have a1 := k1 j hlt 1 _ rfl
      have e0 := k2 j hlt 0 _ rfl
      have e1 := k2 j hlt 1 _ rfl
      obtain ⟨P, cP, hP⟩ := owns_form tX
      obtain ⟨Q, cQ, hQ⟩ := owns_form tY
      rw [hP] at a1 tX
      rw [hQ] at e1 tY
      have hl2 := own_len tX
      have htX := times_cells tX
      have htY := times_cells tY
      rw [Nat.add_zero] at a0 e0
      obtain ⟨code, hcode⟩ : ∃ code, codesOf ls j = code := ⟨_, rfl⟩
      rw [hcode] at a0 e0
      have hz := hb.size
      have hb1r : b1 < wr.heap.size := by omega
      have hb2r : b2 < wr.heap.size := by omega
      have hj0 : (0 : Int) ≤ (j : Int) := by omega
      have hj1 : (j : Int) < (n : Int) := by omega
      have hSC : SC b1 b2 (o1 + j * 2) (o2 + j * 2) code (.slice P l.2.length cP) (.slice Q l.2.length cQ) wr := ⟨a0, a1, e0, e1⟩
      have hcall := hide (fun (W : World) (hW : Below wr.heap.size wr W) => (r7Same_walk P Q l.2.length cP cQ (fun j => l.2.getD j (0, 0, 0, 0)) W (by omega) ((htX.below hW).more hW.size) ((htY.below hW).more hW.size)).mono fun _ _ ⟨he, hb⟩ => (⟨he, ext_trans hW hb, hSC.later (ext_trans hW hb)⟩ : _ ∧ Below wr.heap.size wr _ ∧ SC b1 b2 (o1 + j * 2) (o2 + j * 2) code (.slice P l.2.length cP) (.slice Q l.2.length cQ) _))
      have hSd := hSC.drew
      have hrefl := Below.refl wr.heap.size wr
      clear k1 k2 hX hY hXt hYt hcode hP hQ hl tX tY htX htY
      go_wp2_with fail
      go_region_held3 (fun W' => W'.cell? ⟨b1, o1 + j * 2, none⟩ = some (.string code) ∧ W'.cell? ⟨b1, o1 + j * 2 + 1, none⟩ = some (.slice P l.2.length cP) ∧ W'.cell? ⟨b2, o2 + j * 2, none⟩ = some (.string code) ∧ W'.cell? ⟨b2, o2 + j * 2 + 1, none⟩ = some (.slice Q l.2.length cQ)) (first | ((repeat (first | (with_reducible assumption) | (with_reducible refine SC.drew ?_))); done)) (first | (go_at_call 45; refine (hcall.out _ (by repeat (first | (with_reducible assumption) | (with_reducible refine ext_drew ?_)))).mono ?_; rintro e w2 ⟨rfl, hb2, hc2⟩))
      all_goals
        have hbn := ext_trans hb hb2
        go_wp2
        go_roundw
        case rel => exact ⟨j + 1, by omega, by go_num, by first | exact ext_drew hbn | exact hbn⟩
        case measure => simp [intOf]; omega
    · obtain rfl : j = n := by omega
      go_wp2
      go_ret
      exact ⟨rfl, hb⟩
end Go.Proofs.YtgbkochjoaalhaaGreatDoor
