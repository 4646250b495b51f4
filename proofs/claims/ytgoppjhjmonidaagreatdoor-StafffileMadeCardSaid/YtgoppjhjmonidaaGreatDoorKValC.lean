/- Walks of timetableref07.SameTimes, timetableref02.SameProblems, timetableref09.Same, where both hold the same. Conditions: the cells. Walks of timetableref07.Clear, timetableref09.Free, fields.Fit. Conditions: the cells. Walk of stafffile.Valid. Conditions: the lecturers' cells; what the program's variables hold. Walk of timetableref09.Valid. Conditions: the lecturers' cells. -/
import Derived.Test.YtgoppjhjmonidaaGreatDoorKR9E
namespace Go.Proofs.YtgoppjhjmonidaaGreatDoor
open Go.RowKit
set_option maxRecDepth 100000

theorem own_len {w : World} {B k n : Nat} {e : TypeId} {v : Value} {xs : List Value} (h : w.ownsRow B e k v n xs) : n ≤ 9223372036854775807 := by
  rcases h.2 with ⟨_, h0⟩ | ⟨_, cap, _, _, _, _, h1, h2, _⟩
  · omega
  · unfold maxLen at h2; omega
theorem times_form {B : Nat} {w : World} {v : Value} {ts : List T4} (h : TimesOwn B w v ts) : ∃ A c, v = .slice A ts.length c := owns_form h
set_option maxHeartbeats 4000000 in
theorem r7Same_walk (A A' : Option Addr) (n c c' : Nat) (X : Nat → T4) (w : World) (hn : n ≤ 9223372036854775807) (h1 : CellsAt w.heap.size w A 4 n fun j => encT (X j)) (h2 : CellsAt w.heap.size w A' 4 n fun j => encT (X j)) :
    Calls Tryz.prog 72 #[.slice A n c, .slice A' n c'] w fun e w' => e = .returned (.bool true) ∧ Below w.heap.size w w' := by
  go_enter Tryz.func72, Tryz.ntmps72
  go_wp2
  go_loopw [5] (fun i wr => ∃ j : Nat, j ≤ n ∧ i = .int .i64 j ∧ Below w.heap.size w wr) (fun i _ => n - (intOf i).toNat)
  case atStart => exact ⟨0, Nat.zero_le _, rfl, Below.refl _ _⟩
  case round =>
    obtain ⟨j, hj, rfl, hb⟩ := hrel
    by_cases hlt : j < n
    · obtain ⟨b1, o1, rfl, hb1, k1⟩ := (h1.below hb) (by omega)
      obtain ⟨b2, o2, rfl, hb2, k2⟩ := (h2.below hb) (by omega)
      have a0 := k1 j hlt 0 _ rfl
      have a1 := k1 j hlt 1 _ rfl
      have a2 := k1 j hlt 2 _ rfl
      have a3 := k1 j hlt 3 _ rfl
      have e0 := k2 j hlt 0 _ rfl
      have e1 := k2 j hlt 1 _ rfl
      have e2 := k2 j hlt 2 _ rfl
      have e3 := k2 j hlt 3 _ rfl
      obtain ⟨⟨x1, x2, x3, x4⟩, hX⟩ : ∃ q, X j = q := ⟨_, rfl⟩
      rw [hX] at a0 a1 a2 a3 e0 e1 e2 e3
      rw [Nat.add_zero] at a0 e0
      have hz := hb.size
      have hb1r : b1 < wr.heap.size := by omega
      have hb2r : b2 < wr.heap.size := by omega
      have hj0 : (0 : Int) ≤ (j : Int) := by omega
      have hj1 : (j : Int) < (n : Int) := by omega
      clear k1 k2 h1 h2 hX
      go_wp2_with fail
      go_region
      all_goals
        go_wp2
        go_roundw
        case rel => exact ⟨j + 1, by omega, by go_num, by first | exact ext_drew hb | exact hb⟩
        case measure => simp [intOf]; omega
    · obtain rfl : j = n := by omega
      go_wp2
      go_ret
      exact ⟨rfl, hb⟩
set_option maxHeartbeats 4000000 in
theorem r2SameP_walk (A A' : Option Addr) (n c c' : Nat) (X : Nat → Prob) (w : World) (hn : n ≤ 9223372036854775807) (h1 : CellsAt w.heap.size w A 4 n fun j => encP (X j)) (h2 : CellsAt w.heap.size w A' 4 n fun j => encP (X j)) :
    Calls Tryz.prog 11 #[.slice A n c, .slice A' n c'] w fun e w' => e = .returned (.bool true) ∧ Below w.heap.size w w' := by
  go_enter Tryz.func11, Tryz.ntmps11
  go_wp2
  go_loopw [5] (fun i wr => ∃ j : Nat, j ≤ n ∧ i = .int .i64 j ∧ Below w.heap.size w wr) (fun i _ => n - (intOf i).toNat)
  case atStart => exact ⟨0, Nat.zero_le _, rfl, Below.refl _ _⟩
  case round =>
    obtain ⟨j, hj, rfl, hb⟩ := hrel
    by_cases hlt : j < n
    · obtain ⟨b1, o1, rfl, hb1, k1⟩ := (h1.below hb) (by omega)
      obtain ⟨b2, o2, rfl, hb2, k2⟩ := (h2.below hb) (by omega)
      have a0 := k1 j hlt 0 _ rfl
      have a1 := k1 j hlt 1 _ rfl
      have a2 := k1 j hlt 2 _ rfl
      have a3 := k1 j hlt 3 _ rfl
      have e0 := k2 j hlt 0 _ rfl
      have e1 := k2 j hlt 1 _ rfl
      have e2 := k2 j hlt 2 _ rfl
      have e3 := k2 j hlt 3 _ rfl
      obtain ⟨⟨x1, x2, x3⟩, hX⟩ : ∃ q, X j = q := ⟨_, rfl⟩
      rw [hX] at a1 a2 a3 e1 e2 e3
      rw [Nat.add_zero] at a0 e0
      have hz := hb.size
      have hb1r : b1 < wr.heap.size := by omega
      have hb2r : b2 < wr.heap.size := by omega
      have hj0 : (0 : Int) ≤ (j : Int) := by omega
      have hj1 : (j : Int) < (n : Int) := by omega
      clear k1 k2 h1 h2 hX
      go_wp2_with fail
      go_region
      all_goals
        go_wp2
        go_roundw
        case rel => exact ⟨j + 1, by omega, by go_num, by first | exact ext_drew hb | exact hb⟩
        case measure => simp [intOf]; omega
    · obtain rfl : j = n := by omega
      go_wp2
      go_ret
      exact ⟨rfl, hb⟩
theorem probs_cells {B q c : Nat} {w : World} {A : Option Addr} {ps : List Prob} (h : ProbsOwn B w (.slice A q c) ps) : CellsAt w.heap.size w A 4 ps.length fun j => encP (ps.getD j (0, 0, 0)) := by
  intro hn
  obtain ⟨g, e, hg, hc⟩ := own_at h hn
  refine ⟨g, 0, e, hg, fun j hj i u hu => ?_⟩
  have hx : ps[j]? = some (ps.getD j (0, 0, 0)) := by rw [List.getD_eq_getElem?_getD, List.getElem?_eq_getElem hj]; rfl
  have hi : i < 4 := by
    have := (List.getElem?_eq_some_iff.1 hu).1
    simpa [encP] using this
  rw [Nat.zero_add]
  exact hc _ u ((flat_at encP 4 (fun _ => rfl) ps j i _ hx hi).trans hu)
theorem probs_same (B C : Nat) (v v' : Value) (ps : List Prob) (w : World) (h1 : ProbsOwn B w v ps) (h2 : ProbsOwn C w v' ps) :
    Calls Tryz.prog 11 #[v, v'] w fun e w' => e = .returned (.bool true) ∧ Below w.heap.size w w' := by
  obtain ⟨A, c, rfl⟩ := owns_form h1
  obtain ⟨A', c', rfl⟩ := owns_form h2
  exact r2SameP_walk A A' ps.length c c' _ w (own_len h1) (probs_cells h1) (probs_cells h2)
theorem lects_cells2 {B q c : Nat} {w : World} {A : Option Addr} {ls : List Lect} (h : LectsOwn B w (.slice A q c) ls) : ∃ X1 : Nat → Value, (CellsAt w.heap.size w A 2 ls.length fun j => [.string (codesOf ls j), X1 j]) ∧ ∀ (j : Nat) (l : Lect), ls[j]? = some l → TimesOwn B w (X1 j) l.2 := by
  obtain ⟨us, e1, e2, e3⟩ := h
  refine ⟨fun j => us.getD j undef, fun hn => ?_, fun j l hl => ?_⟩
  · rcases e2.2 with ⟨h1, h2⟩ | ⟨g, cap, cur, h1, _, hg, _⟩
    · omega
    · injection h1 with h1
      subst h1
      have hcl := e2.cells (g := g) rfl
      refine ⟨g, 0, rfl, blk_lt hg, fun j hj i u hu => ?_⟩
      have hi : i < 2 := by
        have := (List.getElem?_eq_some_iff.1 hu).1
        simpa using this
      have := hcl (j * 2 + i) u (by rw [lectCells_at ls us e1 j i hi, if_pos hj]; exact hu)
      rw [show (⟨g, 0, none⟩ : Addr).add (j * 2 + i) = ⟨g, 0 + j * 2 + i, none⟩ from by rw [Addr.add_lit]; simp only [Nat.zero_add]] at this
      exact this
  · have hj : j < us.length := by rw [e1]; exact (List.getElem?_eq_some_iff.1 hl).1
    exact e3 j l _ hl (by show us[j]? = some (us.getD j undef); rw [List.getD_eq_getElem?_getD, List.getElem?_eq_getElem hj]; rfl)
abbrev SC (b1 b2 o1 o2 : Nat) (code : ByteArray) (u1 u2 : Value) (W : World) : Prop := W.cell? ⟨b1, o1, none⟩ = some (.string code) ∧ W.cell? ⟨b1, o1 + 1, none⟩ = some u1 ∧ W.cell? ⟨b2, o2, none⟩ = some (.string code) ∧ W.cell? ⟨b2, o2 + 1, none⟩ = some u2
theorem SC.drew {b1 b2 o1 o2 : Nat} {code : ByteArray} {u1 u2 : Value} {W : World} (h : SC b1 b2 o1 o2 code u1 u2 W) : SC b1 b2 o1 o2 code u1 u2 W.drew := h
theorem SC.later {b1 b2 o1 o2 : Nat} {code : ByteArray} {u1 u2 : Value} {W W' : World} (h : SC b1 b2 o1 o2 code u1 u2 W) (hb : Below W.heap.size W W') : SC b1 b2 o1 o2 code u1 u2 W' := ⟨cell_later hb h.1, cell_later hb h.2.1, cell_later hb h.2.2.1, cell_later hb h.2.2.2⟩
set_option maxHeartbeats 8000000 in
theorem r9Same_walk (B C : Nat) (v v' : Value) (ls : List Lect) (w : World) (h1 : LectsOwn B w v ls) (h2 : LectsOwn C w v' ls) :
    Calls Tryz.prog 32 #[v, v'] w fun e w' => e = .returned (.bool true) ∧ Below w.heap.size w w' := by
  obtain ⟨A, c, rfl⟩ : ∃ A c, v = .slice A ls.length c := by obtain ⟨us, -, h, -⟩ := h1; exact owns_form h
  obtain ⟨A', c', rfl⟩ : ∃ A c, v' = .slice A ls.length c := by obtain ⟨us, -, h, -⟩ := h2; exact owns_form h
  obtain ⟨X, hX, hXt⟩ := lects_cells2 h1
  obtain ⟨Y, hY, hYt⟩ := lects_cells2 h2
  obtain ⟨n, hnn⟩ : ∃ n, ls.length = n := ⟨_, rfl⟩
  have hn : n ≤ 9223372036854775807 := by rw [← hnn]; obtain ⟨us, -, h, -⟩ := h1; exact own_len h
  rw [hnn] at hX hY ⊢
  replace hnn := hide hnn
  clear h1 h2
  go_enter Tryz.func32, Tryz.ntmps32
  go_wp2
  go_loopw [5] (fun i wr => ∃ j : Nat, j ≤ n ∧ i = .int .i64 j ∧ Below w.heap.size w wr) (fun i _ => n - (intOf i).toNat)
  case atStart => exact ⟨0, Nat.zero_le _, rfl, Below.refl _ _⟩
  case round =>
    obtain ⟨j, hj, rfl, hb⟩ := hrel
    by_cases hlt : j < n
    · obtain ⟨b1, o1, rfl, hb1, k1⟩ := (hX.below hb) (by omega)
      obtain ⟨b2, o2, rfl, hb2, k2⟩ := (hY.below hb) (by omega)
      obtain ⟨l, hl⟩ : ∃ l, ls[j]? = some l := ⟨_, List.getElem?_eq_getElem (by rw [hnn.out]; exact hlt)⟩
      have tX := owns_later (hXt j l hl) hb
      have tY := owns_later (hYt j l hl) hb
      have a0 := k1 j hlt 0 _ rfl
      have a1 := k1 j hlt 1 _ rfl
      have e0 := k2 j hlt 0 _ rfl
      have e1 := k2 j hlt 1 _ rfl
      obtain ⟨P, cP, hP⟩ := owns_form tX
      obtain ⟨Q, cQ, hQ⟩ := owns_form tY
      rw [hP] at a1 tX
      rw [hQ] at e1 tY
      have hl2 := own_len tX
      have htX := times_cells tX
      have htY := times_cells tY
      rw [Nat.add_zero] at a0 e0
      obtain ⟨code, hcode⟩ : ∃ code, codesOf ls j = code := ⟨_, rfl⟩
      rw [hcode] at a0 e0
      have hz := hb.size
      have hb1r : b1 < wr.heap.size := by omega
      have hb2r : b2 < wr.heap.size := by omega
      have hj0 : (0 : Int) ≤ (j : Int) := by omega
      have hj1 : (j : Int) < (n : Int) := by omega
      have hSC : SC b1 b2 (o1 + j * 2) (o2 + j * 2) code (.slice P l.2.length cP) (.slice Q l.2.length cQ) wr := ⟨a0, a1, e0, e1⟩
      have hcall := hide (fun (W : World) (hW : Below wr.heap.size wr W) => (r7Same_walk P Q l.2.length cP cQ (fun j => l.2.getD j (0, 0, 0, 0)) W (by omega) ((htX.below hW).more hW.size) ((htY.below hW).more hW.size)).mono fun _ _ ⟨he, hb⟩ => (⟨he, ext_trans hW hb, hSC.later (ext_trans hW hb)⟩ : _ ∧ Below wr.heap.size wr _ ∧ SC b1 b2 (o1 + j * 2) (o2 + j * 2) code (.slice P l.2.length cP) (.slice Q l.2.length cQ) _))
      have hSd := hSC.drew
      have hrefl := Below.refl wr.heap.size wr
      clear k1 k2 hX hY hXt hYt hcode hP hQ hl tX tY htX htY
      go_wp2_with fail
      go_region_held3 (fun W' => W'.cell? ⟨b1, o1 + j * 2, none⟩ = some (.string code) ∧ W'.cell? ⟨b1, o1 + j * 2 + 1, none⟩ = some (.slice P l.2.length cP) ∧ W'.cell? ⟨b2, o2 + j * 2, none⟩ = some (.string code) ∧ W'.cell? ⟨b2, o2 + j * 2 + 1, none⟩ = some (.slice Q l.2.length cQ)) (first | ((repeat (first | (with_reducible assumption) | (with_reducible refine SC.drew ?_))); done)) (first | (go_at_call 72; refine (hcall.out _ (by repeat (first | (with_reducible assumption) | (with_reducible refine ext_drew ?_)))).mono ?_; rintro e w2 ⟨rfl, hb2, hc2⟩))
      all_goals
        have hbn := ext_trans hb hb2
        go_wp2
        go_roundw
        case rel => exact ⟨j + 1, by omega, by go_num, by first | exact ext_drew hbn | exact hbn⟩
        case measure => simp [intOf]; omega
    · obtain rfl : j = n := by omega
      go_wp2
      go_ret
      exact ⟨rfl, hb⟩
end Go.Proofs.YtgoppjhjmonidaaGreatDoor

namespace Go.Proofs.YtgoppjhjmonidaaGreatDoor
open Go.RowKit
set_option maxRecDepth 100000

/-- Two structs of four numbers. -/
abbrev EC (b1 o1 b2 : Nat) (x y : T4) (W : World) : Prop := W.cell? ⟨b1, o1, none⟩ = some (.int .i64 x.1) ∧ W.cell? ⟨b1, o1 + 1, none⟩ = some (.int .i64 x.2.1) ∧ W.cell? ⟨b1, o1 + 2, none⟩ = some (.int .i64 x.2.2.1) ∧ W.cell? ⟨b1, o1 + 3, none⟩ = some (.int .i64 x.2.2.2) ∧ W.cell? ⟨b2, 0, none⟩ = some (.int .i64 y.1) ∧ W.cell? ⟨b2, 1, none⟩ = some (.int .i64 y.2.1) ∧ W.cell? ⟨b2, 2, none⟩ = some (.int .i64 y.2.2.1) ∧ W.cell? ⟨b2, 3, none⟩ = some (.int .i64 y.2.2.2)
theorem EC.drew {b1 o1 b2 : Nat} {x y : T4} {W : World} (h : EC b1 o1 b2 x y W) : EC b1 o1 b2 x y W.drew := h
theorem EC.later {b1 o1 b2 : Nat} {x y : T4} {W W' : World} (h : EC b1 o1 b2 x y W) (hb : Below W.heap.size W W') : EC b1 o1 b2 x y W' := ⟨cell_later hb h.1, cell_later hb h.2.1, cell_later hb h.2.2.1, cell_later hb h.2.2.2.1, cell_later hb h.2.2.2.2.1, cell_later hb h.2.2.2.2.2.1, cell_later hb h.2.2.2.2.2.2.1, cell_later hb h.2.2.2.2.2.2.2⟩
set_option maxHeartbeats 4000000 in
theorem r7Clear_walk (A : Option Addr) (n c : Nat) (ts : Nat → T4) (b1 b2 b3 b4 : Int) (w : World) (hn : n ≤ 9223372036854775807) (hX : CellsAt w.heap.size w A 4 n fun j => encT (ts j)) :
    Calls Tryz.prog 56 #[.slice A n c, .agg #[.int .i64 b1, .int .i64 b2, .int .i64 b3, .int .i64 b4]] w fun e w' => e = .returned (.bool (!orTo (fun j => overlapB (ts j).1 (ts j).2.1 (ts j).2.2.1 (ts j).2.2.2 b1 b2 b3 b4) n)) ∧ Below w.heap.size w w' := by
  have hb0 : Below w.heap.size w (w.alloc (.cells #[.int .i64 b1, .int .i64 b2, .int .i64 b3, .int .i64 b4] 41)) := ext_alloc (Below.refl _ _) _
  have bB := Box4.new w 41 (.int .i64 b1) (.int .i64 b2) (.int .i64 b3) (.int .i64 b4)
  have hX0 : CellsAt (w.alloc (.cells #[.int .i64 b1, .int .i64 b2, .int .i64 b3, .int .i64 b4] 41)).heap.size (w.alloc (.cells #[.int .i64 b1, .int .i64 b2, .int .i64 b3, .int .i64 b4] 41)) A 4 n fun j => encT (ts j) := (hX.below hb0).more hb0.size
  obtain ⟨g, hg⟩ : ∃ g, w.heap.size = g := ⟨_, rfl⟩
  obtain ⟨W, hW⟩ : ∃ W, w.alloc (.cells #[.int .i64 b1, .int .i64 b2, .int .i64 b3, .int .i64 b4] 41) = W := ⟨_, rfl⟩
  rw [hW] at hb0 bB hX0
  rw [hg] at bB
  have hgl := bB.lt
  replace hg := hide hg
  replace hW := hide hW
  clear hX
  obtain ⟨p, hp⟩ : ∃ p : Nat → Bool, (fun j => overlapB (ts j).1 (ts j).2.1 (ts j).2.2.1 (ts j).2.2.2 b1 b2 b3 b4) = p := ⟨_, rfl⟩
  rw [hp]
  replace hp := hide hp
  go_enter Tryz.func56, Tryz.ntmps56
  go_wp2
  rw [hW.out, hg.out]
  go_loopw [5] (fun i wr => ∃ j : Nat, j ≤ n ∧ i = .int .i64 j ∧ Hid (orTo p j = false) ∧ Below W.heap.size W wr) (fun i _ => n - (intOf i).toNat)
  case atStart => exact ⟨0, Nat.zero_le _, rfl, hide rfl, Below.refl _ _⟩
  case round =>
    obtain ⟨j, hj, rfl, ho, hb⟩ := hrel
    by_cases hlt : j < n
    · obtain ⟨k1, o1, rfl, hk1, kc⟩ := (hX0.below hb) (by omega)
      have bBr := bB.later hb
      have a0 := kc j hlt 0 _ rfl
      have a1 := kc j hlt 1 _ rfl
      have a2 := kc j hlt 2 _ rfl
      have a3 := kc j hlt 3 _ rfl
      rw [Nat.add_zero] at a0
      obtain ⟨e0, e1, e2, e3⟩ := bBr
      have hpj : Hid (p j = overlapB (ts j).1 (ts j).2.1 (ts j).2.2.1 (ts j).2.2.2 b1 b2 b3 b4) := hide (by rw [← hp.out])
      obtain ⟨⟨x1, x2, x3, x4⟩, hx⟩ : ∃ q, ts j = q := ⟨_, rfl⟩
      rw [hx] at a0 a1 a2 a3 hpj
      have hE : EC k1 (o1 + j * 4) g (x1, x2, x3, x4) (b1, b2, b3, b4) wr := ⟨a0, a1, a2, a3, e0, e1, e2, e3⟩
      have hEd := hE.drew
      have hrefl := Below.refl wr.heap.size wr
      have hcall := hide (fun (V : World) (hV : Below wr.heap.size wr V) => (r6Overlap_walk x1 x2 x3 x4 b1 b2 b3 b4 V).mono fun _ _ ⟨he, hb⟩ => (⟨he, ext_trans hV hb, hE.later (ext_trans hV hb)⟩ : _ ∧ Below wr.heap.size wr _ ∧ EC k1 (o1 + j * 4) g (x1, x2, x3, x4) (b1, b2, b3, b4) _))
      dsimp only at hpj
      have hos : Hid (orTo p (j + 1) = (orTo p j || p j)) := hide (by rw [orTo])
      obtain ⟨r, hr⟩ : ∃ r, overlapB x1 x2 x3 x4 b1 b2 b3 b4 = r := ⟨_, rfl⟩
      rw [hr] at hcall hpj
      have hz := hb.size
      have hgr : g < wr.heap.size := by omega
      have hkr : k1 < wr.heap.size := by omega
      have hj0 : (0 : Int) ≤ (j : Int) := by omega
      have hj1 : (j : Int) < (n : Int) := by omega
      clear kc hX0 hx hr
      go_wp2_with fail
      go_region_held3 (fun W' => W'.cell? ⟨k1, o1 + j * 4, none⟩ = some (.int .i64 x1) ∧ W'.cell? ⟨k1, o1 + j * 4 + 1, none⟩ = some (.int .i64 x2) ∧ W'.cell? ⟨k1, o1 + j * 4 + 2, none⟩ = some (.int .i64 x3) ∧ W'.cell? ⟨k1, o1 + j * 4 + 3, none⟩ = some (.int .i64 x4) ∧ W'.cell? ⟨g, 0, none⟩ = some (.int .i64 b1) ∧ W'.cell? ⟨g, 1, none⟩ = some (.int .i64 b2) ∧ W'.cell? ⟨g, 2, none⟩ = some (.int .i64 b3) ∧ W'.cell? ⟨g, 3, none⟩ = some (.int .i64 b4)) (first | ((repeat (first | (with_reducible assumption) | (with_reducible refine EC.drew ?_))); done)) (first | (go_at_call 90; refine (hcall.out _ (by repeat (first | (with_reducible assumption) | (with_reducible refine ext_drew ?_)))).mono ?_; rintro e w2 ⟨rfl, hb2, hc2⟩))
      all_goals
        have hbn := ext_trans hb hb2
        cases r
        · go_wp2
          go_roundw
          case rel => exact ⟨j + 1, by omega, by go_num, hide (by rw [hos.out, ho.out, hpj.out]; rfl), by first | exact ext_drew hbn | exact hbn⟩
          case measure => simp [intOf]; omega
        · have hall : orTo p n = true := orTo_hit (k := j) hpj.out n hlt
          replace hall := hide hall
          go_wp2
          go_ret
          exact ⟨by rw [hall.out]; rfl, by first | exact ext_trans hb0 (ext_drew hbn) | exact ext_trans hb0 hbn⟩
    · obtain rfl : j = n := by omega
      go_wp2
      go_ret
      exact ⟨by rw [ho.out]; rfl, ext_trans hb0 hb⟩
theorem fit1_walk (a1 a2 a3 a4 d sl b m n : Int) (gb nb : Nat) (w : World) (hG : Box4 w gb (.int .i64 d) (.int .i64 sl) (.int .i64 b) (.int .i64 m)) (hn : w.cell? ⟨nb, 0, none⟩ = some (.int .i64 n)) :
    Calls Tryz.prog 94 #[.agg #[.int .i64 a1, .int .i64 a2, .int .i64 a3, .int .i64 a4], .pointer (some ⟨gb, 0, none⟩), .pointer (some ⟨nb, 0, none⟩)] w fun e w' => e = .returned (.bool (fitsV d sl b m n a1 a2 a3 a4 != 0)) ∧ Below w.heap.size w w' := by
  have hlt := hG.lt
  have hnl : nb < w.heap.size := World.block_lt_of_cell? _ _ hn
  obtain ⟨c0, c1, c2, c3⟩ := hG
  go_enter Tryz.func94, Tryz.ntmps94
  go_wp2_with fail
  refine (tgFits_walk d sl b m n a1 a2 a3 a4 _).mono ?_
  rintro e w1 ⟨rfl, hb1⟩
  clear c0 c1 c2 c3 hn
  go_wp2
  go_ret
  exact ⟨by rfl, ext_trans (ext_alloc (Below.refl _ _) _) hb1⟩
set_option maxHeartbeats 4000000 in
theorem fit_walk (A : Option Addr) (n c : Nat) (ts : Nat → T4) (d sl b m k : Int) (w : World) (hn : n ≤ 9223372036854775807) (hX : CellsAt w.heap.size w A 4 n fun j => encT (ts j)) :
    Calls Tryz.prog 60 #[.slice A n c, .agg #[.int .i64 d, .int .i64 sl, .int .i64 b, .int .i64 m], .int .i64 k] w fun e w' => e = .returned (.bool (!orTo (fun j => fitsV d sl b m k (ts j).1 (ts j).2.1 (ts j).2.2.1 (ts j).2.2.2 != 0) n)) ∧ Below w.heap.size w w' := by
  have eg : ∀ args w, (callFunc 94 args).run Tryz.prog w = .ok (.enter 94 args) w := enters_of Tryz.func94 (by kernel_rfl) rfl
  have hb0 : Below w.heap.size w ((w.alloc (.cells #[.int .i64 d, .int .i64 sl, .int .i64 b, .int .i64 m] 39)).alloc (.cells #[.int .i64 k] 3)) := (by repeat (first | exact Below.refl _ _ | refine ext_alloc ?_ _ | refine ext_drewN ?_ _ | refine ext_drew ?_ | refine ext_trans ?_ (by assumption)))
  have bG := (Box4.new w 39 (.int .i64 d) (.int .i64 sl) (.int .i64 b) (.int .i64 m)).alloc (.cells #[.int .i64 k] 3)
  have bN : ((w.alloc (.cells #[.int .i64 d, .int .i64 sl, .int .i64 b, .int .i64 m] 39)).alloc (.cells #[.int .i64 k] 3)).cell? ⟨w.heap.size + 1, 0, none⟩ = some (.int .i64 k) := by
    have := (show ((w.alloc (.cells #[.int .i64 d, .int .i64 sl, .int .i64 b, .int .i64 m] 39)).alloc (.cells #[.int .i64 k] 3)).cell? ⟨(w.alloc (.cells #[.int .i64 d, .int .i64 sl, .int .i64 b, .int .i64 m] 39)).heap.size, 0, none⟩ = some (.int .i64 k) by simp)
    rw [World.size_alloc] at this
    exact this
  obtain ⟨W, hW⟩ : ∃ W, (w.alloc (.cells #[.int .i64 d, .int .i64 sl, .int .i64 b, .int .i64 m] 39)).alloc (.cells #[.int .i64 k] 3) = W := ⟨_, rfl⟩
  rw [hW] at hb0 bG bN
  have hcall := conT_walk 94 #[.pointer (some ⟨w.heap.size, 0, none⟩), .pointer (some ⟨w.heap.size + 1, 0, none⟩)] eg A n c (fun j => .int .i64 (ts j).1) (fun j => .int .i64 (ts j).2.1) (fun j => .int .i64 (ts j).2.2.1) (fun j => .int .i64 (ts j).2.2.2) (fun j => fitsV d sl b m k (ts j).1 (ts j).2.1 (ts j).2.2.1 (ts j).2.2.2 != 0) W hn
    ((hX.below hb0).more hb0.size)
    (fun V j hj hb => (fit1_walk _ _ _ _ d sl b m k w.heap.size (w.heap.size + 1) V (bG.later hb) (cell_later hb bN)).mono fun e w' ⟨he, hw⟩ => ⟨he, ext_trans hb hw⟩)
  clear hX eg bG bN
  replace hW := hide hW
  obtain ⟨r, hr⟩ : ∃ r, orTo (fun j => fitsV d sl b m k (ts j).1 (ts j).2.1 (ts j).2.2.1 (ts j).2.2.2 != 0) n = r := ⟨_, rfl⟩
  rw [hr] at hcall ⊢
  clear hr
  go_enter Tryz.func60, Tryz.ntmps60
  go_wp2_with fail
  rw [hW.out]
  refine hcall.mono ?_
  rintro e w' ⟨rfl, hb⟩
  go_wp2
  go_ret
  exact ⟨rfl, ext_trans hb0 hb⟩
set_option maxHeartbeats 4000000 in
theorem r9Free_walk (code : Value) (A : Option Addr) (n c : Nat) (ts : Nat → T4) (b1 b2 b3 b4 : Int) (w : World) (hn : n ≤ 9223372036854775807) (hX : CellsAt w.heap.size w A 4 n fun j => encT (ts j)) :
    Calls Tryz.prog 15 #[.agg #[code, .slice A n c], .agg #[.int .i64 b1, .int .i64 b2, .int .i64 b3, .int .i64 b4]] w fun e w' => e = .returned (.bool (!orTo (fun j => overlapB (ts j).1 (ts j).2.1 (ts j).2.2.1 (ts j).2.2.2 b1 b2 b3 b4) n)) ∧ Below w.heap.size w w' := by
  have hb0 : Below w.heap.size w ((w.alloc (.cells #[code, .slice A n c] 49)).alloc (.cells #[.int .i64 b1, .int .i64 b2, .int .i64 b3, .int .i64 b4] 41)) := (by repeat (first | exact Below.refl _ _ | refine ext_alloc ?_ _ | refine ext_drewN ?_ _ | refine ext_drew ?_ | refine ext_trans ?_ (by assumption)))
  have hcall := r7Clear_walk A n c ts b1 b2 b3 b4 _ hn ((hX.below hb0).more hb0.size)
  obtain ⟨r, hr⟩ : ∃ r, orTo (fun j => overlapB (ts j).1 (ts j).2.1 (ts j).2.2.1 (ts j).2.2.2 b1 b2 b3 b4) n = r := ⟨_, rfl⟩
  rw [hr] at hcall ⊢
  clear hr hX
  go_enter Tryz.func15, Tryz.ntmps15
  go_wp2_with fail
  refine hcall.mono ?_
  rintro e w' ⟨rfl, hb⟩
  go_wp2
  go_ret
  exact ⟨rfl, ext_trans hb0 hb⟩
end Go.Proofs.YtgoppjhjmonidaaGreatDoor

namespace Go.Proofs.YtgoppjhjmonidaaGreatDoor
open Go.RowKit
set_option maxRecDepth 100000

/-- Lecturers, in blocks below B. -/
def LectsAt (B : Nat) (w : World) (A : Option Addr) (ls : List Lect) : Prop :=
  0 < ls.length → ∃ b off, A = some ⟨b, off, none⟩ ∧ b < B ∧ ∀ j l, ls[j]? = some l → ∃ T c, w.cell? ⟨b, off + j * 2, none⟩ = some (.string l.1) ∧ w.cell? ⟨b, off + j * 2 + 1, none⟩ = some (.slice T l.2.length c) ∧ CellsAt B w T 4 l.2.length fun k => encT (l.2.getD k (0, 0, 0, 0))
theorem LectsAt.below {B : Nat} {w w' : World} {A : Option Addr} {ls : List Lect} (h : LectsAt B w A ls) (hb : Below B w w') : LectsAt B w' A ls := by
  intro hn
  obtain ⟨b, off, e, h1, hc⟩ := h hn
  refine ⟨b, off, e, h1, fun j l hl => ?_⟩
  obtain ⟨T, c, c0, c1, ht⟩ := hc j l hl
  exact ⟨T, c, (hb.cell h1).trans c0, (hb.cell h1).trans c1, ht.below hb⟩
theorem LectsAt.more {B C : Nat} {w : World} {A : Option Addr} {ls : List Lect} (h : LectsAt B w A ls) (hB : B ≤ C) : LectsAt C w A ls := by
  intro hn
  obtain ⟨b, off, e, h1, hc⟩ := h hn
  refine ⟨b, off, e, by omega, fun j l hl => ?_⟩
  obtain ⟨T, c, c0, c1, ht⟩ := hc j l hl
  exact ⟨T, c, c0, c1, ht.more hB⟩
/-- The first error of lecturer i, and of the first k. -/
def lectE (d sl b m n : Int) (ls : List Lect) (i : Nat) : Int :=
  if codeB (codesOf ls i) = false then 10 else if 24 < (ls.getD i (⟨#[]⟩, [])).2.length then 2
  else if orTo (fun j => fitsV d sl b m n ((ls.getD i (⟨#[]⟩, [])).2.getD j (0, 0, 0, 0)).1 ((ls.getD i (⟨#[]⟩, [])).2.getD j (0, 0, 0, 0)).2.1 ((ls.getD i (⟨#[]⟩, [])).2.getD j (0, 0, 0, 0)).2.2.1 ((ls.getD i (⟨#[]⟩, [])).2.getD j (0, 0, 0, 0)).2.2.2 != 0) (ls.getD i (⟨#[]⟩, [])).2.length then 14
  else if orTo (fun j => sameS (codesOf ls j) (codesOf ls i)) i then 11 else 0
def lectsE (d sl b m n : Int) (ls : List Lect) : Nat → Int
  | 0 => 0
  | k + 1 => if lectsE d sl b m n ls k ≠ 0 then lectsE d sl b m n ls k else lectE d sl b m n ls k
def validV (d sl b m n : Int) (ls : List Lect) : Int :=
  if weekB d sl b m n = false then 1 else if 32 < ls.length then 2 else lectsE d sl b m n ls ls.length
theorem lectsE_hit {d sl b m n : Int} {ls : List Lect} {k : Nat} (h : lectsE d sl b m n ls k ≠ 0) : ∀ q, k ≤ q → lectsE d sl b m n ls q = lectsE d sl b m n ls k
  | 0, hq => by obtain rfl : k = 0 := by omega
                rfl
  | q + 1, hq => by
    by_cases e : k = q + 1
    · rw [e]
    · have := lectsE_hit h q (by omega)
      rw [lectsE, if_pos (by rw [this]; exact h), this]
theorem lectsAt_cells {B : Nat} {w : World} {A : Option Addr} {ls : List Lect} (h : LectsAt B w A ls) : ∃ X1 : Nat → Value, CellsAt B w A 2 ls.length fun j => [.string (codesOf ls j), X1 j] := by
  by_cases hn : 0 < ls.length
  · obtain ⟨b, off, rfl, hb, hc⟩ := h hn
    refine ⟨fun j => (w.cell? ⟨b, off + j * 2 + 1, none⟩).getD undef, fun _ => ⟨b, off, rfl, hb, fun j hj i u hu => ?_⟩⟩
    obtain ⟨T, c, c0, c1, -⟩ := hc j (ls.getD j (⟨#[]⟩, [])) (by rw [List.getD_eq_getElem?_getD, List.getElem?_eq_getElem hj]; rfl)
    match i, hu with
    | 0, hu => simp at hu; subst hu; exact c0
    | 1, hu => simp at hu; subst hu; rw [c1]; rfl
    | i + 2, hu => simp at hu
  · exact ⟨fun _ => undef, fun h0 => absurd h0 hn⟩
theorem cells_prefix {B k n q : Nat} {w : World} {A : Option Addr} {X : Nat → List Value} (h : CellsAt B w A k n X) (hq : q ≤ n) : CellsAt B w A k q X := by
  intro h0
  obtain ⟨b, off, e, hb, hc⟩ := h (by omega)
  exact ⟨b, off, e, hb, fun j hj => hc j (by omega)⟩
theorem lectsE_end {d sl b m n : Int} {ls : List Lect} {j N : Nat} {e : Int} (h0 : lectsE d sl b m n ls j = 0) (he : lectE d sl b m n ls j = e) (hne : e ≠ 0) (hj : j < N) : lectsE d sl b m n ls N = e := by
  have h1 : lectsE d sl b m n ls (j + 1) = e := by rw [lectsE, if_neg (by simp [h0]), he]
  rw [lectsE_hit (by rw [h1]; exact hne) N (by omega), h1]
set_option maxHeartbeats 8000000 in
theorem sfValid_walk (A : Option Addr) (ls : List Lect) (cap : Nat) (d sl b m n : Int) (w : World) (hcap : ls.length ≤ cap) (hL : LectsAt w.heap.size w A ls) :
    Calls Tryz.prog 17 #[.slice A ls.length cap, .agg #[.int .i64 d, .int .i64 sl, .int .i64 b, .int .i64 m], .int .i64 n] w fun e w' => e = .returned (.int .i64 (validV d sl b m n ls)) ∧ Below w.heap.size w w' := by
  have hb0 : Below w.heap.size w (w.alloc (.cells #[.int .i64 d, .int .i64 sl, .int .i64 b, .int .i64 m] 39)) := (by repeat (first | exact Below.refl _ _ | refine ext_alloc ?_ _ | refine ext_drewN ?_ _ | refine ext_drew ?_ | refine ext_trans ?_ (by assumption)))
  cases hw : weekB d sl b m n
  · have hv : validV d sl b m n ls = 1 := by unfold validV; rw [if_pos hw]
    rw [hv]
    clear hv hL
    go_enter Tryz.func17, Tryz.ntmps17
    go_wp2_with fail
    refine (tgWeek_walk d sl b m n _).mono ?_
    rintro e w1 ⟨rfl, hb1⟩
    rw [hw]
    have hb := ext_trans hb0 hb1
    clear hb0 hb1
    go_wp2
    go_ret
    exact ⟨rfl, hb⟩
  · have hv : validV d sl b m n ls = if 32 < ls.length then 2 else lectsE d sl b m n ls ls.length := by unfold validV; rw [if_neg (by rw [hw]; simp)]
    obtain ⟨N, hN⟩ : ∃ N, ls.length = N := ⟨_, rfl⟩
    rw [hv]
    rw [hN] at hcap ⊢
    by_cases h32 : 32 < N
    · rw [if_pos h32]
      clear hv hL
      go_enter Tryz.func17, Tryz.ntmps17
      go_wp2_with fail
      refine (tgWeek_walk d sl b m n _).mono ?_
      rintro e w1 ⟨rfl, hb1⟩
      rw [hw]
      have hb := ext_trans hb0 hb1
      clear hb0 hb1
      go_wp2
      go_ret
      exact ⟨rfl, hb⟩
    · rw [if_neg h32]
      replace hN := hide hN
      clear hv
      go_enter Tryz.func17, Tryz.ntmps17
      go_wp2_with fail
      refine (tgWeek_walk d sl b m n _).mono ?_
      rintro e w1 ⟨rfl, hb1⟩
      rw [hw]
      have hb := ext_trans hb0 hb1
      have hL1 := (hL.below hb).more hb.size
      obtain ⟨g0, g1, g2, g3⟩ := (Box4.new w 39 (.int .i64 d) (.int .i64 sl) (.int .i64 b) (.int .i64 m)).later hb1
      have hgl : w.heap.size < w1.heap.size := World.block_lt_of_cell? _ _ g0
      obtain ⟨gb, hgb⟩ : ∃ gb, w.heap.size = gb := ⟨_, rfl⟩
      rw [hgb] at g0 g1 g2 g3 hgl
      replace hgb := hide hgb
      clear hb0 hb1 hL
      go_wp2_with fail
      rw [hgb.out]
      go_loopw [20] (fun i wr => ∃ j : Nat, j ≤ N ∧ i = .int .i64 j ∧ Hid (lectsE d sl b m n ls j = 0) ∧ Below w1.heap.size w1 wr) (fun i _ => N - (intOf i).toNat)
      case atStart => exact ⟨0, Nat.zero_le _, rfl, hide rfl, Below.refl _ _⟩
      case round =>
        obtain ⟨j, hj, rfl, ho, hbr⟩ := hrel
        by_cases hlt : j < N
        · obtain ⟨l, hl⟩ : ∃ l, ls[j]? = some l := ⟨_, List.getElem?_eq_getElem (by rw [hN.out]; exact hlt)⟩
          have hLr := hL1.below hbr
          obtain ⟨X1, hX1⟩ := lectsAt_cells hLr
          rw [hN.out] at hX1
          obtain ⟨rb, off, rfl, hrb, hcell⟩ := hLr (by rw [hN.out]; omega)
          obtain ⟨T, c, q0, q1, ht⟩ := hcell j l hl
          have hz := hbr.size
          have hrbr : rb < wr.heap.size := by omega
          have hgr : gb < wr.heap.size := by omega
          have r0 := cell_later hbr g0
          have r1 := cell_later hbr g1
          have r2 := cell_later hbr g2
          have r3 := cell_later hbr g3
          have hbw := ext_trans hb hbr
          have hget : ls.getD j (⟨#[]⟩, []) = l := by rw [List.getD_eq_getElem?_getD, hl]; rfl
          have hcode : codesOf ls j = l.1 := by unfold codesOf; rw [hget]
          have hE : lectE d sl b m n ls j = (if codeB l.1 = false then 10 else if 24 < l.2.length then 2 else if orTo (fun k => fitsV d sl b m n (l.2.getD k (0, 0, 0, 0)).1 (l.2.getD k (0, 0, 0, 0)).2.1 (l.2.getD k (0, 0, 0, 0)).2.2.1 (l.2.getD k (0, 0, 0, 0)).2.2.2 != 0) l.2.length then 14 else if orTo (fun k => sameS (codesOf ls k) l.1) j then 11 else 0) := by
            unfold lectE; rw [hget, hcode]
          obtain ⟨code, ts⟩ := l
          dsimp only at q0 q1 ht hE
          obtain ⟨k, hk⟩ : ∃ k, ts.length = k := ⟨_, rfl⟩
          rw [hk] at q1 ht hE
          have hj0 : (0 : Int) ≤ (j : Int) := by omega
          have hj1 : (j : Int) < (N : Int) := by omega
          clear hcell hl hget hcode hk
          replace hE := hide hE
          go_wp2_with fail
          refine (cvalid_walk code _).mono ?_
          rintro e w2 ⟨rfl, rfl⟩
          cases hcv : codeB code
          · have hend : Hid (lectsE d sl b m n ls N = 10) := hide (lectsE_end ho.out (by rw [hE.out, if_pos hcv]) (by decide) hlt)
            clear hE ht hX1 hL1 hLr
            go_wp2
            go_ret
            exact ⟨by rw [hend.out]; rfl, ext_trans hbw (by repeat (first | exact Below.refl _ _ | refine ext_alloc ?_ _ | refine ext_drewN ?_ _ | refine ext_drew ?_ | refine ext_trans ?_ (by assumption)))⟩
          · by_cases h24 : 24 < k
            · have hend : Hid (lectsE d sl b m n ls N = 2) := hide (lectsE_end ho.out (by rw [hE.out, if_neg (by simp [hcv]), if_pos h24]) (by decide) hlt)
              clear hE ht hX1 hL1 hLr
              go_wp2
              go_ret
              exact ⟨by rw [hend.out]; rfl, ext_trans hbw (by repeat (first | exact Below.refl _ _ | refine ext_alloc ?_ _ | refine ext_drewN ?_ _ | refine ext_drew ?_ | refine ext_trans ?_ (by assumption)))⟩
            · have hfit := fun (V : World) (hV : Below wr.heap.size wr V) => fit_walk T k c (fun q => ts.getD q (0, 0, 0, 0)) d sl b m n V (by omega) ((ht.below (hV.mono hz)).more (Nat.le_trans hz hV.size))
              obtain ⟨f, hf⟩ : ∃ f, orTo (fun k => fitsV d sl b m n (ts.getD k (0, 0, 0, 0)).1 (ts.getD k (0, 0, 0, 0)).2.1 (ts.getD k (0, 0, 0, 0)).2.2.1 (ts.getD k (0, 0, 0, 0)).2.2.2 != 0) k = f := ⟨_, rfl⟩
              rw [hf] at hfit
              replace hf := hide hf
              replace hfit := hide hfit
              have hbx : Below wr.heap.size wr (wr.alloc (.cells #[.string code, .slice T k c] 49)) := ext_alloc (Below.refl _ _) _
              have hgr1 : gb < wr.heap.size + 1 := by omega
              have x0 : (wr.alloc (.cells #[.string code, .slice T k c] 49)).cell? ⟨wr.heap.size, 0, none⟩ = some (.string code) := by simp
              clear ht hL1 hLr
              go_wp2_with fail
              refine (hfit.out _ hbx).mono ?_
              rintro e w3 ⟨rfl, hb3⟩
              have hb23 := ext_trans hbx hb3
              have hbw3 := ext_trans hbw hb23
              replace x0 := cell_later hb3 x0
              clear hfit hbx q0 q1 r0 r1 r2 r3
              cases f
              · have hhas := fun (V : World) (hV : Below w3.heap.size w3 V) => (has_walk (some ⟨rb, off, none⟩) j cap code (codesOf ls) X1 V (by omega) (((cells_prefix hX1 hj).below ((hb23.trans (hV.mono hb23.size)).mono hz)).more (Nat.le_trans hz (Nat.le_trans hb23.size hV.size)))).mono fun _ _ ⟨he, hb⟩ => (⟨he, ext_trans hV hb, cell_later (ext_trans hV hb) x0⟩ : _ ∧ Below w3.heap.size w3 _ ∧ _)
                obtain ⟨s, hs⟩ : ∃ s, orTo (fun k => sameS (codesOf ls k) code) j = s := ⟨_, rfl⟩
                rw [hs] at hhas
                replace hhas := hide hhas
                have hEs : Hid (lectE d sl b m n ls j = if s then 11 else 0) := hide (by rw [hE.out, if_neg (by simp [hcv]), if_neg h24, if_neg (by rw [hf.out]; simp), hs])
                have hrefl := Below.refl w3.heap.size w3
                have hxl : wr.heap.size < w3.heap.size := World.block_lt_of_cell? _ _ x0
                have xd : w3.drew.cell? ⟨wr.heap.size, 0, none⟩ = some (.string code) := x0
                have hjc : (j : Int) ≤ (N : Int) := by omega
                obtain ⟨xb, hxb⟩ : ∃ xb, wr.heap.size = xb := ⟨_, rfl⟩
                rw [hxb] at hhas hxl x0 xd
                clear hE hf hX1 hs
                go_wp2_with fail
                have hjc2 : (j : Int) ≤ (cap : Int) := by omega
                have hjc3 : j ≤ cap := by omega
                clear hxb
                go_region_held3 (fun W' => W'.cell? ⟨xb, 0, none⟩ = some (.string code)) (first | ((repeat (first | (with_reducible assumption))); done)) (first | (go_at_call 61; refine (hhas.out _ (by repeat (first | (with_reducible assumption) | (with_reducible refine ext_drew ?_)))).mono ?_; rintro e w4 ⟨rfl, hb4, hc4⟩))
                all_goals
                  have hbw4 := ext_trans hbw3 hb4
                  have hbr4 : Below w1.heap.size w1 w4 := ext_trans hbr (ext_trans hb23 hb4)
                  clear hb3 hb23 hb4 x0 xd hhas hrefl
                  cases s
                  · have hnext : Hid (lectsE d sl b m n ls (j + 1) = 0) := hide (by rw [lectsE, if_neg (by simp [ho.out]), hEs.out]; rfl)
                    go_wp2
                    go_roundw
                    case rel => exact ⟨j + 1, by omega, by go_num, hnext, by first | exact ext_drew hbr4 | exact hbr4⟩
                    case measure => simp [intOf]; omega
                  · have hend : Hid (lectsE d sl b m n ls N = 11) := hide (lectsE_end ho.out (by rw [hEs.out]; rfl) (by decide) hlt)
                    go_wp2
                    go_ret
                    exact ⟨by rw [hend.out]; rfl, by first | exact ext_drew hbw4 | exact hbw4⟩
              · have hend : Hid (lectsE d sl b m n ls N = 14) := hide (lectsE_end ho.out (by rw [hE.out, if_neg (by simp [hcv]), if_neg h24, if_pos hf.out]) (by decide) hlt)
                clear hE hX1
                go_wp2
                go_ret
                exact ⟨by rw [hend.out]; rfl, hbw3⟩
        · obtain rfl : j = N := by omega
          go_wp2
          go_ret
          exact ⟨by rw [ho.out]; rfl, ext_trans hb hbr⟩
end Go.Proofs.YtgoppjhjmonidaaGreatDoor

namespace Go.Proofs.YtgoppjhjmonidaaGreatDoor
open Go.RowKit
set_option maxRecDepth 100000

theorem orTo_below {p : Nat → Bool} : ∀ {n q : Nat}, orTo p n = false → q ≤ n → orTo p q = false
  | 0, q, h, hq => by obtain rfl : q = 0 := by omega
                      exact h
  | n + 1, q, h, hq => by
    by_cases e : q = n + 1
    · rw [e]; exact h
    · rw [orTo, Bool.or_eq_false_iff] at h
      exact orTo_below h.1 (by omega)
/-- The least index, as far as Valid asks for it. -/
def LeastGives (p : Nat → Bool) (n : Nat) (w : World) (e : Ending) (w' : World) : Prop := ∃ r : Int, e = .returned (.int .i64 r) ∧ (∀ q : Nat, q < n → p q = true → decide (r < (q : Int)) = orTo p q) ∧ Below w.heap.size w w'
set_option maxHeartbeats 2000000 in
theorem r9Least_walk (A : Option Addr) (n c : Nat) (code : ByteArray) (codes : Nat → ByteArray) (X1 : Nat → Value) (w : World) (hn : n ≤ 1000000)
    (hX : CellsAt w.heap.size w A 2 n fun j => [.string (codes j), X1 j]) :
    Calls Tryz.prog 65 #[.slice A n c, .string code] w fun e w' => LeastGives (fun j => sameS (codes j) code) n w e w' := by
  go_enter Tryz.func65, Tryz.ntmps65
  go_wp2
  go_loopw [5] (fun i wr => ∃ j : Nat, j ≤ n ∧ i = .int .i64 j ∧ Hid (orTo (fun j => sameS (codes j) code) j = false) ∧ Below w.heap.size w wr) (fun i _ => n - (intOf i).toNat)
  case atStart => exact ⟨0, Nat.zero_le _, rfl, rfl, Below.refl _ _⟩
  case round =>
    obtain ⟨j, hj, rfl, ho, hb⟩ := hrel
    by_cases hlt : j < n
    · obtain ⟨b, off, rfl, hbB, hc⟩ := (hX.below hb) (by omega)
      have k0 := hc j hlt 0 _ rfl
      rw [Nat.add_zero] at k0
      clear hc hX
      cases hq : sameS (codes j) code with
      | true =>
        have hit : Hid (∀ q : Nat, q < n → sameS (codes q) code = true → decide ((j : Int) < (q : Int)) = orTo (fun j => sameS (codes j) code) q) := hide fun q hqn _ => by
          by_cases hjq : j < q
          · rw [orTo_hit (p := fun j => sameS (codes j) code) hq q hjq]; simp; omega
          · rw [orTo_below ho.out (by omega)]; simp; omega
        obtain ⟨x0, hx0⟩ : ∃ x, codes j = x := ⟨_, rfl⟩
        rw [hx0] at k0 hq
        have hq2 : (x0.toList == code.toList) = true := hq
        clear hx0 hq
        go_wp2
        go_ret
        exact ⟨j, rfl, hit.out, hb⟩
      | false =>
        have miss : Hid (orTo (fun j => sameS (codes j) code) (j + 1) = false) := by show orTo _ (j + 1) = false; unfold orTo; rw [ho.out, hq]; rfl
        obtain ⟨x0, hx0⟩ : ∃ x, codes j = x := ⟨_, rfl⟩
        rw [hx0] at k0 hq
        have hq2 : (x0.toList == code.toList) = false := hq
        clear hx0 hq ho
        go_wp2
        go_roundw
        case rel => exact ⟨j + 1, by omega, by go_num, miss, hb⟩
        case measure => simp [intOf]; omega
    · obtain rfl : j = n := by omega
      go_wp2
      go_ret
      exact ⟨-1, rfl, (fun q hq hp => absurd ((orTo_hit (p := fun j => sameS (codes j) code) hp j hq).symm.trans ho.out) (by decide)), hb⟩
/-- The cells that the region of Fits loads. -/
abbrev FC (gb rb tb o1 o2 : Nat) (d sl b m : Int) (u : Value) (x1 x2 x3 x4 : Int) (W : World) : Prop := W.cell? ⟨gb, 0, none⟩ = some (.int .i64 d) ∧ W.cell? ⟨gb, 1, none⟩ = some (.int .i64 sl) ∧ W.cell? ⟨gb, 2, none⟩ = some (.int .i64 b) ∧ W.cell? ⟨gb, 3, none⟩ = some (.int .i64 m) ∧ W.cell? ⟨rb, o1, none⟩ = some u ∧ W.cell? ⟨tb, o2, none⟩ = some (.int .i64 x1) ∧ W.cell? ⟨tb, o2 + 1, none⟩ = some (.int .i64 x2) ∧ W.cell? ⟨tb, o2 + 2, none⟩ = some (.int .i64 x3) ∧ W.cell? ⟨tb, o2 + 3, none⟩ = some (.int .i64 x4)
section
variable {gb rb tb o1 o2 : Nat} {d sl b m : Int} {u : Value} {x1 x2 x3 x4 : Int} {W W' : World}
theorem FC.drew (h : FC gb rb tb o1 o2 d sl b m u x1 x2 x3 x4 W) : FC gb rb tb o1 o2 d sl b m u x1 x2 x3 x4 W.drew := h
theorem FC.later (h : FC gb rb tb o1 o2 d sl b m u x1 x2 x3 x4 W) (hb : Below W.heap.size W W') : FC gb rb tb o1 o2 d sl b m u x1 x2 x3 x4 W' :=
  ⟨cell_later hb h.1, cell_later hb h.2.1, cell_later hb h.2.2.1, cell_later hb h.2.2.2.1, cell_later hb h.2.2.2.2.1, cell_later hb h.2.2.2.2.2.1, cell_later hb h.2.2.2.2.2.2.1, cell_later hb h.2.2.2.2.2.2.2.1, cell_later hb h.2.2.2.2.2.2.2.2⟩
end
set_option maxHeartbeats 8000000 in
theorem r9Valid_walk (A : Option Addr) (ls : List Lect) (cap : Nat) (d sl b m n : Int) (w : World) (hL : LectsAt w.heap.size w A ls) :
    Calls Tryz.prog 18 #[.slice A ls.length cap, .agg #[.int .i64 d, .int .i64 sl, .int .i64 b, .int .i64 m], .int .i64 n] w fun e w' => e = .returned (.int .i64 (validV d sl b m n ls)) ∧ Below w.heap.size w w' := by
  have hb0 : Below w.heap.size w (w.alloc (.cells #[.int .i64 d, .int .i64 sl, .int .i64 b, .int .i64 m] 39)) := (by repeat (first | exact Below.refl _ _ | refine ext_alloc ?_ _ | refine ext_drewN ?_ _ | refine ext_drew ?_ | refine ext_trans ?_ (by assumption)))
  cases hw : weekB d sl b m n
  · have hv : validV d sl b m n ls = 1 := by unfold validV; rw [if_pos hw]
    rw [hv]
    clear hv hL
    go_enter Tryz.func18, Tryz.ntmps18
    go_wp2_with fail
    refine (r6Usable_walk d sl b m n _).mono ?_
    rintro e w1 ⟨rfl, hb1⟩
    rw [hw]
    have hb := ext_trans hb0 hb1
    clear hb0 hb1
    go_wp2
    go_ret
    exact ⟨rfl, hb⟩
  · have hv : validV d sl b m n ls = if 32 < ls.length then 2 else lectsE d sl b m n ls ls.length := by unfold validV; rw [if_neg (by rw [hw]; simp)]
    obtain ⟨N, hN⟩ : ∃ N, ls.length = N := ⟨_, rfl⟩
    rw [hv]
    rw [hN]
    by_cases h32 : 32 < N
    · rw [if_pos h32]
      clear hv hL
      go_enter Tryz.func18, Tryz.ntmps18
      go_wp2_with fail
      refine (r6Usable_walk d sl b m n _).mono ?_
      rintro e w1 ⟨rfl, hb1⟩
      rw [hw]
      have hb := ext_trans hb0 hb1
      clear hb0 hb1
      go_wp2
      go_ret
      exact ⟨rfl, hb⟩
    · rw [if_neg h32]
      replace hN := hide hN
      clear hv
      go_enter Tryz.func18, Tryz.ntmps18
      go_wp2_with fail
      refine (r6Usable_walk d sl b m n _).mono ?_
      rintro e w1 ⟨rfl, hb1⟩
      rw [hw]
      have hb := ext_trans hb0 hb1
      have hL1 := (hL.below hb).more hb.size
      obtain ⟨g0, g1, g2, g3⟩ := (Box4.new w 39 (.int .i64 d) (.int .i64 sl) (.int .i64 b) (.int .i64 m)).later hb1
      have hgl : w.heap.size < w1.heap.size := World.block_lt_of_cell? _ _ g0
      obtain ⟨gb, hgb⟩ : ∃ gb, w.heap.size = gb := ⟨_, rfl⟩
      rw [hgb] at g0 g1 g2 g3 hgl
      replace hgb := hide hgb
      clear hb0 hb1 hL
      go_wp2_with fail
      rw [hgb.out]
      go_loopw [7] (fun i wr => ∃ j : Nat, j ≤ N ∧ i = .int .i64 j ∧ Hid (lectsE d sl b m n ls j = 0) ∧ Below w1.heap.size w1 wr) (fun i _ => N - (intOf i).toNat)
      case atStart => exact ⟨0, Nat.zero_le _, rfl, hide rfl, Below.refl _ _⟩
      case round =>
        obtain ⟨j, hj, rfl, ho, hbr⟩ := hrel
        by_cases hlt : j < N
        · obtain ⟨l, hl⟩ : ∃ l, ls[j]? = some l := ⟨_, List.getElem?_eq_getElem (by rw [hN.out]; exact hlt)⟩
          have hLr := hL1.below hbr
          obtain ⟨X1, hX1⟩ := lectsAt_cells hLr
          rw [hN.out] at hX1
          obtain ⟨rb, off, rfl, hrb, hcell⟩ := hLr (by rw [hN.out]; omega)
          obtain ⟨T, c, q0, q1, ht⟩ := hcell j l hl
          have hz := hbr.size
          have hrbr : rb < wr.heap.size := by omega
          have hgr : gb < wr.heap.size := by omega
          have r0 := cell_later hbr g0
          have r1 := cell_later hbr g1
          have r2 := cell_later hbr g2
          have r3 := cell_later hbr g3
          have hbw := ext_trans hb hbr
          have hget : ls.getD j (⟨#[]⟩, []) = l := by rw [List.getD_eq_getElem?_getD, hl]; rfl
          have hcode : codesOf ls j = l.1 := by unfold codesOf; rw [hget]
          have hE : lectE d sl b m n ls j = (if codeB l.1 = false then 10 else if 24 < l.2.length then 2 else if orTo (fun k => fitsV d sl b m n (l.2.getD k (0, 0, 0, 0)).1 (l.2.getD k (0, 0, 0, 0)).2.1 (l.2.getD k (0, 0, 0, 0)).2.2.1 (l.2.getD k (0, 0, 0, 0)).2.2.2 != 0) l.2.length then 14 else if orTo (fun k => sameS (codesOf ls k) l.1) j then 11 else 0) := by
            unfold lectE; rw [hget, hcode]
          obtain ⟨code, ts⟩ := l
          dsimp only at q0 q1 ht hE hcode
          obtain ⟨k, hk⟩ : ∃ k, ts.length = k := ⟨_, rfl⟩
          rw [hk] at q1 ht hE
          have hj0 : (0 : Int) ≤ (j : Int) := by omega
          have hj1 : (j : Int) < (N : Int) := by omega
          clear hcell hl hget hk
          replace hcode := hide hcode
          replace hE := hide hE
          go_wp2_with fail
          refine (r3valid_walk code _).mono ?_
          rintro e w2 ⟨rfl, rfl⟩
          cases hcv : codeB code
          · have hend : Hid (lectsE d sl b m n ls N = 10) := hide (lectsE_end ho.out (by rw [hE.out, if_pos hcv]) (by decide) hlt)
            clear hE ht hX1 hL1 hLr
            go_wp2
            go_ret
            exact ⟨by rw [hend.out]; rfl, hbw⟩
          · by_cases h24 : 24 < k
            · have hend : Hid (lectsE d sl b m n ls N = 2) := hide (lectsE_end ho.out (by rw [hE.out, if_neg (by simp [hcv]), if_pos h24]) (by decide) hlt)
              clear hE ht hX1 hL1 hLr
              go_wp2
              go_ret
              exact ⟨by rw [hend.out]; rfl, hbw⟩
            · obtain ⟨p, hp⟩ : ∃ p : Nat → Bool, (fun k => fitsV d sl b m n (ts.getD k (0, 0, 0, 0)).1 (ts.getD k (0, 0, 0, 0)).2.1 (ts.getD k (0, 0, 0, 0)).2.2.1 (ts.getD k (0, 0, 0, 0)).2.2.2 != 0) = p := ⟨_, rfl⟩
              rw [hp] at hE
              replace hp := hide hp
              clear hL1 hLr g0 g1 g2 g3
              rename World => w2
              go_wp2
              go_loopw [8] (fun v wx => ∃ q : Nat, q ≤ k ∧ v = .int .i64 q ∧ Hid (orTo p q = false) ∧ Below w2.heap.size w2 wx) (fun v _ => k - (intOf v).toNat)
              case atStart => exact ⟨0, Nat.zero_le _, rfl, hide rfl, Below.refl _ _⟩
              case round =>
                obtain ⟨q, hq, rfl, hof, hbq⟩ := hrel
                have s0 := cell_later hbq q0
                have s1 := cell_later hbq q1
                have t0 := cell_later hbq r0
                have t1 := cell_later hbq r1
                have t2 := cell_later hbq r2
                have t3 := cell_later hbq r3
                have hzq := hbq.size
                have hrbq : rb < wr.heap.size := by omega
                have hgq : gb < wr.heap.size := by omega
                by_cases hqk : q < k
                · obtain ⟨tb, tof, rfl, htb, tc⟩ := (ht.below (hbq.mono hz)) (by omega)
                  have a0 := tc q hqk 0 _ rfl
                  have a1 := tc q hqk 1 _ rfl
                  have a2 := tc q hqk 2 _ rfl
                  have a3 := tc q hqk 3 _ rfl
                  rw [Nat.add_zero] at a0
                  have hpq : Hid (p q = (fitsV d sl b m n (ts.getD q (0, 0, 0, 0)).1 (ts.getD q (0, 0, 0, 0)).2.1 (ts.getD q (0, 0, 0, 0)).2.2.1 (ts.getD q (0, 0, 0, 0)).2.2.2 != 0)) := hide (by rw [← hp.out])
                  obtain ⟨⟨x1, x2, x3, x4⟩, hx⟩ : ∃ y, ts.getD q (0, 0, 0, 0) = y := ⟨_, rfl⟩
                  rw [hx] at a0 a1 a2 a3 hpq
                  dsimp only at hpq a0 a1 a2 a3
                  have htbr : tb < wr.heap.size := by omega
                  have hq0 : (0 : Int) ≤ (q : Int) := by omega
                  have hq1 : (q : Int) < (k : Int) := by omega
                  have hF : FC gb rb tb (off + j * 2 + 1) (tof + q * 4) d sl b m (.slice (some ⟨tb, tof, none⟩) k c) x1 x2 x3 x4 wr := ⟨t0, t1, t2, t3, s1, a0, a1, a2, a3⟩
                  have hFd := hF.drew
                  have hrefl := Below.refl wr.heap.size wr
                  obtain ⟨v, hv⟩ : ∃ v, fitsV d sl b m n x1 x2 x3 x4 = v := ⟨_, rfl⟩
                  have hcall := fun (V : World) (hV : Below wr.heap.size wr V) => (r6Fits_walk d sl b m n x1 x2 x3 x4 V).mono fun _ _ ⟨he, hb⟩ => (⟨he, ext_trans hV hb, hF.later (ext_trans hV hb)⟩ : _ ∧ Below wr.heap.size wr _ ∧ FC gb rb tb (off + j * 2 + 1) (tof + q * 4) d sl b m (.slice (some ⟨tb, tof, none⟩) k c) x1 x2 x3 x4 _)
                  rw [hv] at hcall hpq
                  replace hcall := hide hcall
                  clear tc hx hv ht hX1
                  go_wp2_with fail
                  go_region_held3 (fun W' => W'.cell? ⟨gb, 0, none⟩ = some (.int .i64 d) ∧ W'.cell? ⟨gb, 1, none⟩ = some (.int .i64 sl) ∧ W'.cell? ⟨gb, 2, none⟩ = some (.int .i64 b) ∧ W'.cell? ⟨gb, 3, none⟩ = some (.int .i64 m) ∧ W'.cell? ⟨rb, off + j * 2 + 1, none⟩ = some (.slice (some ⟨tb, tof, none⟩) k c) ∧ W'.cell? ⟨tb, tof + q * 4, none⟩ = some (.int .i64 x1) ∧ W'.cell? ⟨tb, tof + q * 4 + 1, none⟩ = some (.int .i64 x2) ∧ W'.cell? ⟨tb, tof + q * 4 + 2, none⟩ = some (.int .i64 x3) ∧ W'.cell? ⟨tb, tof + q * 4 + 3, none⟩ = some (.int .i64 x4)) (first | ((repeat (first | (with_reducible assumption) | (with_reducible refine FC.drew ?_))); done)) (first | (go_at_call 64; refine (hcall.out _ (by repeat (first | (with_reducible assumption) | (with_reducible refine ext_drew ?_)))).mono ?_; rintro e w4 ⟨rfl, hb4, hc4⟩))
                  all_goals
                    have hbq4 := ext_trans hbq hb4
                    clear hcall hF hFd hrefl s0 s1 t0 t1 t2 t3 a0 a1 a2 a3 hc4
                    by_cases hv0 : v = 0
                    · subst hv0
                      have hnext : Hid (orTo p (q + 1) = false) := hide (by rw [orTo, hof.out, hpq.out]; rfl)
                      go_wp2
                      go_roundw
                      case rel => exact ⟨q + 1, by omega, by go_num, hnext, by first | exact ext_drew hbq4 | exact hbq4⟩
                      case measure => simp [intOf]; omega
                    · have hv1 : (v != 0) = true := by simpa using hv0
                      have hend : Hid (lectsE d sl b m n ls N = 14) := hide (lectsE_end ho.out (by rw [hE.out, if_neg (by simp [hcv]), if_neg h24, if_pos (orTo_hit (k := q) (by rw [hpq.out]; exact hv1) k hqk)]) (by decide) hlt)
                      replace hv0 := hide hv0
                      go_wp2
                      go_ret
                      exact ⟨by rw [hend.out]; rfl, by first | exact ext_trans hbw (ext_drew hbq4) | exact ext_trans hbw hbq4⟩
                · obtain rfl : q = k := by omega
                  have hidx := r9Least_walk (some ⟨rb, off, none⟩) N cap code (codesOf ls) X1 wr (by omega) ((hX1.below (hbq.mono hz)).more (by omega))
                  clear hX1 ht r0 r1 r2 r3 q0 q1 t0 t1 t2 t3
                  go_wp2_with fail
                  refine hidx.mono ?_
                  rintro e w4 ⟨r, rfl, hr, hb4⟩
                  have hr2 : Hid (decide (r < (j : Int)) = orTo (fun k => sameS (codesOf ls k) code) j) := hide (hr j hlt (by show sameS (codesOf ls j) code = true; rw [hcode.out]; unfold sameS; simp))
                  have hbr4 : Below w1.heap.size w1 w4 := ext_trans hbr (ext_trans hbq hb4)
                  have hbw4 := ext_trans hbw (ext_trans hbq hb4)
                  clear hidx hr hb4 s0
                  by_cases hrj : r < (j : Int)
                  · have hend : Hid (lectsE d sl b m n ls N = 11) := hide (lectsE_end ho.out (by rw [hE.out, if_neg (by simp [hcv]), if_neg h24, if_neg (by rw [hof.out]; simp), ← hr2.out, if_pos (by simpa using hrj)]) (by decide) hlt)
                    go_wp2
                    go_ret
                    exact ⟨by rw [hend.out]; rfl, hbw4⟩
                  · have hnext : Hid (lectsE d sl b m n ls (j + 1) = 0) := hide (by rw [lectsE, if_neg (by simp [ho.out]), hE.out, if_neg (by simp [hcv]), if_neg h24, if_neg (by rw [hof.out]; simp), ← hr2.out, if_neg (by simpa using hrj)])
                    go_wp2
                    go_roundw
                    case rel => exact ⟨j + 1, by omega, by go_num, hnext, hbr4⟩
                    case measure => simp [intOf]; omega
        · obtain rfl : j = N := by omega
          go_wp2
          go_ret
          exact ⟨by rw [ho.out]; rfl, ext_trans hb hbr⟩
end Go.Proofs.YtgoppjhjmonidaaGreatDoor
