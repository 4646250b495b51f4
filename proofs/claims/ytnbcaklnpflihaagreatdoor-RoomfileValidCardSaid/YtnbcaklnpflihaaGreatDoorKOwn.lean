/- Walks of timetableref07.SameTimes, timetableref02.SameProblems, timetableref09.Same, where both hold the same. Conditions: the cells. Walks of timetableref07.Clear, timetableref09.Free, fields.Fit. Conditions: the cells. Walk of stafffile.Valid. Conditions: the lecturers' cells; what the program's variables hold. The text of times (plain), and what it is read as. No walk. Appending an element to a row of its own that holds data of a kind. No condition. -/
import Derived.Test.YtnbcaklnpflihaaGreatDoorKR9A
import Derived.Test.YtnbcaklnpflihaaGreatDoorKSameL
import Derived.Deep.AppendLies
namespace Go.Proofs.YtnbcaklnpflihaaGreatDoor
open Go.RowKit
set_option maxRecDepth 100000

theorem own_len {w : World} {B k n : Nat} {e : TypeId} {v : Value} {xs : List Value} (h : w.ownsRow B e k v n xs) : n ≤ 9223372036854775807 := by
  rcases h.2 with ⟨_, h0⟩ | ⟨_, cap, _, _, _, _, h1, h2, _⟩
  · omega
  · unfold maxLen at h2; omega
theorem times_form {B : Nat} {w : World} {v : Value} {ts : List T4} (h : TimesOwn B w v ts) : ∃ A c, v = .slice A ts.length c := owns_form h
set_option maxHeartbeats 4000000 in
theorem r7Same_walk (A A' : Option Addr) (n c c' : Nat) (X : Nat → T4) (w : World) (hn : n ≤ 9223372036854775807) (h1 : CellsAt w.heap.size w A 4 n fun j => encT (X j)) (h2 : CellsAt w.heap.size w A' 4 n fun j => encT (X j)) :
    Calls Tryz.prog 22 #[.slice A n c, .slice A' n c'] w fun e w' => e = .returned (.bool true) ∧ Below w.heap.size w w' := by
  go_enter Tryz.func22, Tryz.ntmps22
  go_wp2
  go_loopw [5] (fun i wr => ∃ j : Nat, j ≤ n ∧ i = .int .i64 j ∧ Below w.heap.size w wr) (fun i _ => n - (intOf i).toNat)
  case atStart => exact ⟨0, Nat.zero_le _, rfl, Below.refl _ _⟩
  case round =>
    obtain ⟨j, hj, rfl, hb⟩ := hrel
    by_cases hlt : j < n
    · obtain ⟨b1, o1, rfl, hb1, k1⟩ := (h1.below hb) (by omega)
      obtain ⟨b2, o2, rfl, hb2, k2⟩ := (h2.below hb) (by omega)
      have a0 := k1 j hlt 0 _ rfl
      have a1 := k1 j hlt 1 _ rfl
      have a2 := k1 j hlt 2 _ rfl
      have a3 := k1 j hlt 3 _ rfl
      have e0 := k2 j hlt 0 _ rfl
      have e1 := k2 j hlt 1 _ rfl
      have e2 := k2 j hlt 2 _ rfl
      have e3 := k2 j hlt 3 _ rfl
      obtain ⟨⟨x1, x2, x3, x4⟩, hX⟩ : ∃ q, X j = q := ⟨_, rfl⟩
      rw [hX] at a0 a1 a2 a3 e0 e1 e2 e3
      rw [Nat.add_zero] at a0 e0
      have hz := hb.size
      have hb1r : b1 < wr.heap.size := by omega
      have hb2r : b2 < wr.heap.size := by omega
      have hj0 : (0 : Int) ≤ (j : Int) := by omega
      have hj1 : (j : Int) < (n : Int) := by omega
      clear k1 k2 h1 h2 hX
      go_wp2_with fail
      go_region
      all_goals
        go_wp2
        go_roundw
        case rel => exact ⟨j + 1, by omega, by go_num, by first | exact ext_drew hb | exact hb⟩
        case measure => simp [intOf]; omega
    · obtain rfl : j = n := by omega
      go_wp2
      go_ret
      exact ⟨rfl, hb⟩
set_option maxHeartbeats 4000000 in
theorem r2SameP_walk (A A' : Option Addr) (n c c' : Nat) (X : Nat → Prob) (w : World) (hn : n ≤ 9223372036854775807) (h1 : CellsAt w.heap.size w A 4 n fun j => encP (X j)) (h2 : CellsAt w.heap.size w A' 4 n fun j => encP (X j)) :
    Calls Tryz.prog 9 #[.slice A n c, .slice A' n c'] w fun e w' => e = .returned (.bool true) ∧ Below w.heap.size w w' := by
  go_enter Tryz.func9, Tryz.ntmps9
  go_wp2
  go_loopw [5] (fun i wr => ∃ j : Nat, j ≤ n ∧ i = .int .i64 j ∧ Below w.heap.size w wr) (fun i _ => n - (intOf i).toNat)
  case atStart => exact ⟨0, Nat.zero_le _, rfl, Below.refl _ _⟩
  case round =>
    obtain ⟨j, hj, rfl, hb⟩ := hrel
    by_cases hlt : j < n
    · obtain ⟨b1, o1, rfl, hb1, k1⟩ := (h1.below hb) (by omega)
      obtain ⟨b2, o2, rfl, hb2, k2⟩ := (h2.below hb) (by omega)
      have a0 := k1 j hlt 0 _ rfl
      have a1 := k1 j hlt 1 _ rfl
      have a2 := k1 j hlt 2 _ rfl
      have a3 := k1 j hlt 3 _ rfl
      have e0 := k2 j hlt 0 _ rfl
      have e1 := k2 j hlt 1 _ rfl
      have e2 := k2 j hlt 2 _ rfl
      have e3 := k2 j hlt 3 _ rfl
      obtain ⟨⟨x1, x2, x3⟩, hX⟩ : ∃ q, X j = q := ⟨_, rfl⟩
      rw [hX] at a1 a2 a3 e1 e2 e3
      rw [Nat.add_zero] at a0 e0
      have hz := hb.size
      have hb1r : b1 < wr.heap.size := by omega
      have hb2r : b2 < wr.heap.size := by omega
      have hj0 : (0 : Int) ≤ (j : Int) := by omega
      have hj1 : (j : Int) < (n : Int) := by omega
      clear k1 k2 h1 h2 hX
      go_wp2_with fail
      go_region
      all_goals
        go_wp2
        go_roundw
        case rel => exact ⟨j + 1, by omega, by go_num, by first | exact ext_drew hb | exact hb⟩
        case measure => simp [intOf]; omega
    · obtain rfl : j = n := by omega
      go_wp2
      go_ret
      exact ⟨rfl, hb⟩
theorem probs_cells {B q c : Nat} {w : World} {A : Option Addr} {ps : List Prob} (h : ProbsOwn B w (.slice A q c) ps) : CellsAt w.heap.size w A 4 ps.length fun j => encP (ps.getD j (0, 0, 0)) := by
  intro hn
  obtain ⟨g, e, hg, hc⟩ := own_at h hn
  refine ⟨g, 0, e, hg, fun j hj i u hu => ?_⟩
  have hx : ps[j]? = some (ps.getD j (0, 0, 0)) := by rw [List.getD_eq_getElem?_getD, List.getElem?_eq_getElem hj]; rfl
  have hi : i < 4 := by
    have := (List.getElem?_eq_some_iff.1 hu).1
    simpa [encP] using this
  rw [Nat.zero_add]
  exact hc _ u ((flat_at encP 4 (fun _ => rfl) ps j i _ hx hi).trans hu)
theorem probs_same (B C : Nat) (v v' : Value) (ps : List Prob) (w : World) (h1 : ProbsOwn B w v ps) (h2 : ProbsOwn C w v' ps) :
    Calls Tryz.prog 9 #[v, v'] w fun e w' => e = .returned (.bool true) ∧ Below w.heap.size w w' := by
  obtain ⟨A, c, rfl⟩ := owns_form h1
  obtain ⟨A', c', rfl⟩ := owns_form h2
  exact r2SameP_walk A A' ps.length c c' _ w (own_len h1) (probs_cells h1) (probs_cells h2)
abbrev SC (b1 b2 o1 o2 : Nat) (code : ByteArray) (u1 u2 : Value) (W : World) : Prop := W.cell? ⟨b1, o1, none⟩ = some (.string code) ∧ W.cell? ⟨b1, o1 + 1, none⟩ = some u1 ∧ W.cell? ⟨b2, o2, none⟩ = some (.string code) ∧ W.cell? ⟨b2, o2 + 1, none⟩ = some u2
theorem SC.drew {b1 b2 o1 o2 : Nat} {code : ByteArray} {u1 u2 : Value} {W : World} (h : SC b1 b2 o1 o2 code u1 u2 W) : SC b1 b2 o1 o2 code u1 u2 W.drew := h
theorem SC.later {b1 b2 o1 o2 : Nat} {code : ByteArray} {u1 u2 : Value} {W W' : World} (h : SC b1 b2 o1 o2 code u1 u2 W) (hb : Below W.heap.size W W') : SC b1 b2 o1 o2 code u1 u2 W' := ⟨cell_later hb h.1, cell_later hb h.2.1, cell_later hb h.2.2.1, cell_later hb h.2.2.2⟩
end Go.Proofs.YtnbcaklnpflihaaGreatDoor

namespace Go.Proofs.YtnbcaklnpflihaaGreatDoor
open Go.RowKit
set_option maxRecDepth 100000

/-- Two structs of four numbers. -/
abbrev EC (b1 o1 b2 : Nat) (x y : T4) (W : World) : Prop := W.cell? ⟨b1, o1, none⟩ = some (.int .i64 x.1) ∧ W.cell? ⟨b1, o1 + 1, none⟩ = some (.int .i64 x.2.1) ∧ W.cell? ⟨b1, o1 + 2, none⟩ = some (.int .i64 x.2.2.1) ∧ W.cell? ⟨b1, o1 + 3, none⟩ = some (.int .i64 x.2.2.2) ∧ W.cell? ⟨b2, 0, none⟩ = some (.int .i64 y.1) ∧ W.cell? ⟨b2, 1, none⟩ = some (.int .i64 y.2.1) ∧ W.cell? ⟨b2, 2, none⟩ = some (.int .i64 y.2.2.1) ∧ W.cell? ⟨b2, 3, none⟩ = some (.int .i64 y.2.2.2)
theorem EC.drew {b1 o1 b2 : Nat} {x y : T4} {W : World} (h : EC b1 o1 b2 x y W) : EC b1 o1 b2 x y W.drew := h
theorem EC.later {b1 o1 b2 : Nat} {x y : T4} {W W' : World} (h : EC b1 o1 b2 x y W) (hb : Below W.heap.size W W') : EC b1 o1 b2 x y W' := ⟨cell_later hb h.1, cell_later hb h.2.1, cell_later hb h.2.2.1, cell_later hb h.2.2.2.1, cell_later hb h.2.2.2.2.1, cell_later hb h.2.2.2.2.2.1, cell_later hb h.2.2.2.2.2.2.1, cell_later hb h.2.2.2.2.2.2.2⟩
theorem fit1_walk (a1 a2 a3 a4 d sl b m n : Int) (gb nb : Nat) (w : World) (hG : Box4 w gb (.int .i64 d) (.int .i64 sl) (.int .i64 b) (.int .i64 m)) (hn : w.cell? ⟨nb, 0, none⟩ = some (.int .i64 n)) :
    Calls Tryz.prog 66 #[.agg #[.int .i64 a1, .int .i64 a2, .int .i64 a3, .int .i64 a4], .pointer (some ⟨gb, 0, none⟩), .pointer (some ⟨nb, 0, none⟩)] w fun e w' => e = .returned (.bool (fitsV d sl b m n a1 a2 a3 a4 != 0)) ∧ Below w.heap.size w w' := by
  have hlt := hG.lt
  have hnl : nb < w.heap.size := World.block_lt_of_cell? _ _ hn
  obtain ⟨c0, c1, c2, c3⟩ := hG
  go_enter Tryz.func66, Tryz.ntmps66
  go_wp2_with fail
  refine (tgFits_walk d sl b m n a1 a2 a3 a4 _).mono ?_
  rintro e w1 ⟨rfl, hb1⟩
  clear c0 c1 c2 c3 hn
  go_wp2
  go_ret
  exact ⟨by rfl, ext_trans (ext_alloc (Below.refl _ _) _) hb1⟩
set_option maxHeartbeats 4000000 in
theorem fit_walk (A : Option Addr) (n c : Nat) (ts : Nat → T4) (d sl b m k : Int) (w : World) (hn : n ≤ 9223372036854775807) (hX : CellsAt w.heap.size w A 4 n fun j => encT (ts j)) :
    Calls Tryz.prog 32 #[.slice A n c, .agg #[.int .i64 d, .int .i64 sl, .int .i64 b, .int .i64 m], .int .i64 k] w fun e w' => e = .returned (.bool (!orTo (fun j => fitsV d sl b m k (ts j).1 (ts j).2.1 (ts j).2.2.1 (ts j).2.2.2 != 0) n)) ∧ Below w.heap.size w w' := by
  have eg : ∀ args w, (callFunc 66 args).run Tryz.prog w = .ok (.enter 66 args) w := enters_of Tryz.func66 (by kernel_rfl) rfl
  have hb0 : Below w.heap.size w ((w.alloc (.cells #[.int .i64 d, .int .i64 sl, .int .i64 b, .int .i64 m] 24)).alloc (.cells #[.int .i64 k] 3)) := (by repeat (first | exact Below.refl _ _ | refine ext_alloc ?_ _ | refine ext_drewN ?_ _ | refine ext_drew ?_ | refine ext_trans ?_ (by assumption)))
  have bG := (Box4.new w 24 (.int .i64 d) (.int .i64 sl) (.int .i64 b) (.int .i64 m)).alloc (.cells #[.int .i64 k] 3)
  have bN : ((w.alloc (.cells #[.int .i64 d, .int .i64 sl, .int .i64 b, .int .i64 m] 24)).alloc (.cells #[.int .i64 k] 3)).cell? ⟨w.heap.size + 1, 0, none⟩ = some (.int .i64 k) := by
    have := (show ((w.alloc (.cells #[.int .i64 d, .int .i64 sl, .int .i64 b, .int .i64 m] 24)).alloc (.cells #[.int .i64 k] 3)).cell? ⟨(w.alloc (.cells #[.int .i64 d, .int .i64 sl, .int .i64 b, .int .i64 m] 24)).heap.size, 0, none⟩ = some (.int .i64 k) by simp)
    rw [World.size_alloc] at this
    exact this
  obtain ⟨W, hW⟩ : ∃ W, (w.alloc (.cells #[.int .i64 d, .int .i64 sl, .int .i64 b, .int .i64 m] 24)).alloc (.cells #[.int .i64 k] 3) = W := ⟨_, rfl⟩
  rw [hW] at hb0 bG bN
  have hcall := conT_walk 66 #[.pointer (some ⟨w.heap.size, 0, none⟩), .pointer (some ⟨w.heap.size + 1, 0, none⟩)] eg A n c (fun j => .int .i64 (ts j).1) (fun j => .int .i64 (ts j).2.1) (fun j => .int .i64 (ts j).2.2.1) (fun j => .int .i64 (ts j).2.2.2) (fun j => fitsV d sl b m k (ts j).1 (ts j).2.1 (ts j).2.2.1 (ts j).2.2.2 != 0) W hn
    ((hX.below hb0).more hb0.size)
    (fun V j hj hb => (fit1_walk _ _ _ _ d sl b m k w.heap.size (w.heap.size + 1) V (bG.later hb) (cell_later hb bN)).mono fun e w' ⟨he, hw⟩ => ⟨he, ext_trans hb hw⟩)
  clear hX eg bG bN
  replace hW := hide hW
  obtain ⟨r, hr⟩ : ∃ r, orTo (fun j => fitsV d sl b m k (ts j).1 (ts j).2.1 (ts j).2.2.1 (ts j).2.2.2 != 0) n = r := ⟨_, rfl⟩
  rw [hr] at hcall ⊢
  clear hr
  go_enter Tryz.func32, Tryz.ntmps32
  go_wp2_with fail
  rw [hW.out]
  refine hcall.mono ?_
  rintro e w' ⟨rfl, hb⟩
  go_wp2
  go_ret
  exact ⟨rfl, ext_trans hb0 hb⟩
end Go.Proofs.YtnbcaklnpflihaaGreatDoor

namespace Go.Proofs.YtnbcaklnpflihaaGreatDoor
open Go.RowKit
set_option maxRecDepth 100000

/-- Lecturers, in blocks below B. -/
def LectsAt (B : Nat) (w : World) (A : Option Addr) (ls : List Lect) : Prop :=
  0 < ls.length → ∃ b off, A = some ⟨b, off, none⟩ ∧ b < B ∧ ∀ j l, ls[j]? = some l → ∃ T c, w.cell? ⟨b, off + j * 2, none⟩ = some (.string l.1) ∧ w.cell? ⟨b, off + j * 2 + 1, none⟩ = some (.slice T l.2.length c) ∧ CellsAt B w T 4 l.2.length fun k => encT (l.2.getD k (0, 0, 0, 0))
theorem LectsAt.below {B : Nat} {w w' : World} {A : Option Addr} {ls : List Lect} (h : LectsAt B w A ls) (hb : Below B w w') : LectsAt B w' A ls := by
  intro hn
  obtain ⟨b, off, e, h1, hc⟩ := h hn
  refine ⟨b, off, e, h1, fun j l hl => ?_⟩
  obtain ⟨T, c, c0, c1, ht⟩ := hc j l hl
  exact ⟨T, c, (hb.cell h1).trans c0, (hb.cell h1).trans c1, ht.below hb⟩
theorem LectsAt.more {B C : Nat} {w : World} {A : Option Addr} {ls : List Lect} (h : LectsAt B w A ls) (hB : B ≤ C) : LectsAt C w A ls := by
  intro hn
  obtain ⟨b, off, e, h1, hc⟩ := h hn
  refine ⟨b, off, e, by omega, fun j l hl => ?_⟩
  obtain ⟨T, c, c0, c1, ht⟩ := hc j l hl
  exact ⟨T, c, c0, c1, ht.more hB⟩
/-- The first error of lecturer i, and of the first k. -/
def lectE (d sl b m n : Int) (ls : List Lect) (i : Nat) : Int :=
  if codeB (codesOf ls i) = false then 10 else if 24 < (ls.getD i (⟨#[]⟩, [])).2.length then 2
  else if orTo (fun j => fitsV d sl b m n ((ls.getD i (⟨#[]⟩, [])).2.getD j (0, 0, 0, 0)).1 ((ls.getD i (⟨#[]⟩, [])).2.getD j (0, 0, 0, 0)).2.1 ((ls.getD i (⟨#[]⟩, [])).2.getD j (0, 0, 0, 0)).2.2.1 ((ls.getD i (⟨#[]⟩, [])).2.getD j (0, 0, 0, 0)).2.2.2 != 0) (ls.getD i (⟨#[]⟩, [])).2.length then 14
  else if orTo (fun j => sameS (codesOf ls j) (codesOf ls i)) i then 11 else 0
def lectsE (d sl b m n : Int) (ls : List Lect) : Nat → Int
  | 0 => 0
  | k + 1 => if lectsE d sl b m n ls k ≠ 0 then lectsE d sl b m n ls k else lectE d sl b m n ls k
def validV (d sl b m n : Int) (ls : List Lect) : Int :=
  if weekB d sl b m n = false then 1 else if 32 < ls.length then 2 else lectsE d sl b m n ls ls.length
theorem lectsE_hit {d sl b m n : Int} {ls : List Lect} {k : Nat} (h : lectsE d sl b m n ls k ≠ 0) : ∀ q, k ≤ q → lectsE d sl b m n ls q = lectsE d sl b m n ls k
  | 0, hq => by obtain rfl : k = 0 := by omega
                rfl
  | q + 1, hq => by
    by_cases e : k = q + 1
    · rw [e]
    · have := lectsE_hit h q (by omega)
      rw [lectsE, if_pos (by rw [this]; exact h), this]
theorem lectsAt_cells {B : Nat} {w : World} {A : Option Addr} {ls : List Lect} (h : LectsAt B w A ls) : ∃ X1 : Nat → Value, CellsAt B w A 2 ls.length fun j => [.string (codesOf ls j), X1 j] := by
  by_cases hn : 0 < ls.length
  · obtain ⟨b, off, rfl, hb, hc⟩ := h hn
    refine ⟨fun j => (w.cell? ⟨b, off + j * 2 + 1, none⟩).getD undef, fun _ => ⟨b, off, rfl, hb, fun j hj i u hu => ?_⟩⟩
    obtain ⟨T, c, c0, c1, -⟩ := hc j (ls.getD j (⟨#[]⟩, [])) (by rw [List.getD_eq_getElem?_getD, List.getElem?_eq_getElem hj]; rfl)
    match i, hu with
    | 0, hu => simp at hu; subst hu; exact c0
    | 1, hu => simp at hu; subst hu; rw [c1]; rfl
    | i + 2, hu => simp at hu
  · exact ⟨fun _ => undef, fun h0 => absurd h0 hn⟩
theorem cells_prefix {B k n q : Nat} {w : World} {A : Option Addr} {X : Nat → List Value} (h : CellsAt B w A k n X) (hq : q ≤ n) : CellsAt B w A k q X := by
  intro h0
  obtain ⟨b, off, e, hb, hc⟩ := h (by omega)
  exact ⟨b, off, e, hb, fun j hj => hc j (by omega)⟩
theorem lectsE_end {d sl b m n : Int} {ls : List Lect} {j N : Nat} {e : Int} (h0 : lectsE d sl b m n ls j = 0) (he : lectE d sl b m n ls j = e) (hne : e ≠ 0) (hj : j < N) : lectsE d sl b m n ls N = e := by
  have h1 : lectsE d sl b m n ls (j + 1) = e := by rw [lectsE, if_neg (by simp [h0]), he]
  rw [lectsE_hit (by rw [h1]; exact hne) N (by omega), h1]
end Go.Proofs.YtnbcaklnpflihaaGreatDoor

namespace Go.Proofs.YtnbcaklnpflihaaGreatDoor
set_option maxRecDepth 100000

/-- The text of a time, where it fits; the text of times. -/
def fmtB (d sl b m n : Int) (t : T4) : List UInt8 := (fmtT d sl b m n t.1 t.2.1 t.2.2.1 t.2.2.2).1
def timesL (d sl b m n : Int) (ts : List T4) : List UInt8 := Lib.join (ts.map (fmtB d sl b m n)) [59]
theorem fmtB_len (d sl b m n : Int) (t : T4) : (fmtB d sl b m n t).length ≤ 200 := by
  unfold fmtB fmtT
  by_cases h : fitsV d sl b m n t.1 t.2.1 t.2.2.1 t.2.2.2 = 0
  · rw [if_pos h]
    obtain ⟨-, hF⟩ := fits_parts h
    exact timeT_len (by have := hF.n2; omega)
  · rw [if_neg h]; exact Nat.zero_le _
theorem join_snoc59 (x : List UInt8) : ∀ (xs : List (List UInt8)), Lib.join (xs ++ [x]) [59] = if xs = [] then x else Lib.join xs [59] ++ 59 :: x
  | [] => by simp [Lib.join_one]
  | y :: r => by
    rw [if_neg (by simp), ← join_two (y :: r) [x] 59 (by simp) (by simp), Lib.join_one]
theorem lens59 (m : Nat) : ∀ (l : List (List UInt8)), (∀ x ∈ l, x.length ≤ m) → (Lib.join l [59]).length ≤ (m + 1) * l.length
  | [], _ => by simp [Lib.join_nil]
  | [x], h => by
    rw [Lib.join_one]
    have := h x (by simp)
    simp; omega
  | x :: y :: r, h => by
    have ih := lens59 m (y :: r) (fun z hz => h z (by simp [hz]))
    have h1 := h x (by simp)
    have : Lib.join (x :: y :: r) [59] = x ++ 59 :: Lib.join (y :: r) [59] := by simp [Lib.join, List.intercalate]
    rw [this]
    simp only [List.length_append, List.length_cons, Nat.mul_add] at ih ⊢
    omega
theorem timesL_len (d sl b m n : Int) (ts : List T4) : (timesL d sl b m n ts).length ≤ 201 * ts.length := by
  have := lens59 200 (ts.map (fmtB d sl b m n)) (fun x hx => by obtain ⟨t, -, rfl⟩ := List.mem_map.1 hx; exact fmtB_len d sl b m n t)
  rw [List.length_map] at this
  exact this
theorem timesL_snoc (d sl b m n : Int) (ts : List T4) (t : T4) : timesL d sl b m n (ts ++ [t]) = if ts = [] then fmtB d sl b m n t else timesL d sl b m n ts ++ 59 :: fmtB d sl b m n t := by
  unfold timesL
  rw [List.map_append, List.map_singleton, join_snoc59]
  by_cases h : ts = []
  · simp [h]
  · rw [if_neg (by simpa using h), if_neg h]
/-! What it is read as. -/
theorem dec2_no59 : ∀ k : Nat, k < 30 → 59 ∉ dec2 k := by decide +kernel
theorem dayB_no59 : ∀ k : Nat, k < 7 → 59 ∉ (dayB k).data.toList := by decide
theorem wordName_no59 : ∀ k : Nat, k < 5 → 59 ∉ wordName k := by decide
theorem runT_no59 {a b : Nat} (h2 : a < 30) (h4 : b < 30) : 59 ∉ runT (a, b) := by
  have ha := dec2_no59 a h2
  have hb := dec2_no59 b h4
  unfold runT
  split
  · exact ha
  · simp only [List.mem_append, List.mem_cons, not_or]
    exact ⟨ha, by decide, hb⟩
theorem formatL_no59 {s n : Nat} (hn : n ≤ 20) : 59 ∉ formatL s n := by
  unfold formatL
  refine join_notin 59 _ (by decide) (fun x hx => ?_)
  unfold itemsT at hx
  by_cases h : nameIdx s n < 5
  · rw [if_pos h] at hx
    obtain rfl := List.mem_singleton.1 hx
    exact wordName_no59 _ h
  · rw [if_neg h] at hx
    obtain ⟨⟨a, b⟩, hr, rfl⟩ := List.mem_map.1 hx
    have := (runs_facts s.testBit n _ 1 (Nat.le_refl _) (Nat.le_refl _)).1 _ hr
    dsimp only at this
    exact runT_no59 (by omega) (by omega)
theorem timeT_no59 {n a k p q : Nat} (hn : n ≤ 20) (hk : k < 7) (hpq : p + q ≤ 24) (hq : 1 ≤ q) : 59 ∉ timeT n a k p q := by
  have h1 := dayB_no59 k hk
  have h2 := dec2_no59 (p + 1) (by omega)
  have h3 := dec2_no59 (p + q) (by omega)
  have h4 := formatL_no59 (s := a) hn
  unfold timeT slotT
  split <;> split <;> simp only [List.mem_append, List.mem_cons, not_or, List.append_nil] <;> simp [h1, h2, h3, h4]
theorem timeT_ne (n a k p q : Nat) : timeT n a k p q ≠ [] := by unfold timeT; simp
theorem fmt_piece {d s b m n : Int} {t : T4} (h : fitsV d s b m n t.1 t.2.1 t.2.2.1 t.2.2.2 = 0) :
    59 ∉ fmtB d s b m n t ∧ fmtB d s b m n t ≠ [] ∧ pieceT d s b m n ⟨(fmtB d s b m n t).toArray⟩ = (t.1, t.2.1, t.2.2.1, t.2.2.2, 0) := by
  have hf : fmtB d s b m n t = timeT n.toNat t.1.toNat t.2.1.toNat t.2.2.1.toNat t.2.2.2.toNat := by unfold fmtB fmtT; rw [if_pos h]
  rw [hf]
  obtain ⟨hwk, hF⟩ := fits_parts h
  obtain ⟨x1, x2, x3, x4⟩ := t
  dsimp only at *
  obtain ⟨n1, n2, hv, w1, d1, d2, d3, s1, l1, s2, s3⟩ := hF
  obtain ⟨N, rfl⟩ := Int.eq_ofNat_of_zero_le (by omega : 0 ≤ n)
  obtain ⟨a, rfl⟩ := Int.eq_ofNat_of_zero_le (by omega : 0 ≤ x1)
  obtain ⟨k, rfl⟩ := Int.eq_ofNat_of_zero_le d1
  obtain ⟨p, rfl⟩ := Int.eq_ofNat_of_zero_le s1
  obtain ⟨q, rfl⟩ := Int.eq_ofNat_of_zero_le (by omega : 0 ≤ x4)
  simp only [Int.toNat_natCast]
  have ha := validB_iff.1 hv
  have haN : a < 2 ^ N := by
    have h3 := ha.2.2.2
    rw [Int.toNat_natCast] at h3
    exact_mod_cast h3
  exact ⟨timeT_no59 (by omega) (by omega) (by omega) (by omega), timeT_ne _ _ _ _ _, parse_time hwk (by omega) (by omega) (by omega) haN (by omega) d3 (by omega) (by omega) s3⟩
theorem join59_ne : ∀ (xs : List (List UInt8)), xs ≠ [] → (∀ x ∈ xs, x ≠ []) → Lib.join xs [59] ≠ []
  | [], h, _ => absurd rfl h
  | [x], _, h => by rw [Lib.join_one]; exact h x (by simp)
  | x :: y :: r, _, _ => by
    have : Lib.join (x :: y :: r) [59] = x ++ 59 :: Lib.join (y :: r) [59] := by simp [Lib.join, List.intercalate]
    rw [this]; simp
theorem parts_join (xs : List ByteArray) (h59 : ∀ x ∈ xs, 59 ∉ x.data.toList) (h0 : ∀ x ∈ xs, x.data.toList ≠ []) : partsOf ⟨(Lib.join (xs.map (·.data.toList)) [59]).toArray⟩ = xs := by
  by_cases hx : xs = []
  · subst hx; rfl
  · have hne : Lib.join (xs.map (·.data.toList)) [59] ≠ [] := join59_ne _ (by simpa using hx) (fun x hm => by obtain ⟨y, hy, rfl⟩ := List.mem_map.1 hm; exact h0 y hy)
    have hs : (⟨(Lib.join (xs.map (·.data.toList)) [59]).toArray⟩ : ByteArray).size ≠ 0 := by
      intro e
      exact hne (List.eq_nil_of_length_eq_zero (by simpa [ByteArray.size] using e))
    refine map_data_inj ?_
    unfold partsOf
    rw [if_neg hs, splitB_one]
    exact splitOn1_of_join 59 _ (by simpa using hx) (fun x hm => by obtain ⟨y, hy, rfl⟩ := List.mem_map.1 hm; exact h59 y hy)
theorem times_parts {d s b m n : Int} {ts : List T4} (h : ∀ t ∈ ts, fitsV d s b m n t.1 t.2.1 t.2.2.1 t.2.2.2 = 0) :
    partsOf ⟨(timesL d s b m n ts).toArray⟩ = ts.map fun t => ⟨(fmtB d s b m n t).toArray⟩ := by
  have := parts_join (ts.map fun t => ⟨(fmtB d s b m n t).toArray⟩) (fun x hx => by obtain ⟨t, ht, rfl⟩ := List.mem_map.1 hx; exact (fmt_piece (h t ht)).1) (fun x hx => by obtain ⟨t, ht, rfl⟩ := List.mem_map.1 hx; exact (fmt_piece (h t ht)).2.1)
  rw [List.map_map] at this
  exact this
theorem firstE_zero {f : ByteArray → Int} : ∀ {l : List ByteArray}, (∀ z ∈ l, f z = 0) → firstE f l = 0
  | [], _ => rfl
  | z :: r, h => by rw [firstE, if_pos (h z (by simp))]; exact firstE_zero fun y hy => h y (by simp [hy])
/-- Times that fit are read as they were written. -/
theorem times_back {d s b m n : Int} {ts : List T4} (h : ∀ t ∈ ts, fitsV d s b m n t.1 t.2.1 t.2.2.1 t.2.2.2 = 0) (hl : ts.length ≤ 24) :
    (partsOf ⟨(timesL d s b m n ts).toArray⟩).map (pieceV d s b m n) = ts ∧ timesE d s b m n (partsOf ⟨(timesL d s b m n ts).toArray⟩) = 0 := by
  rw [times_parts h]
  constructor
  · rw [List.map_map]
    refine (List.map_congr_left (g := id) fun t ht => ?_).trans (List.map_id ts)
    have := (fmt_piece (h t ht)).2.2
    show pieceV d s b m n ⟨(fmtB d s b m n t).toArray⟩ = t
    unfold pieceV
    rw [this]
  · have h0 : firstE (pieceE d s b m n) (ts.map fun t => ⟨(fmtB d s b m n t).toArray⟩) = 0 := firstE_zero fun z hz => by
      obtain ⟨t, ht, rfl⟩ := List.mem_map.1 hz
      unfold pieceE
      rw [(fmt_piece (h t ht)).2.2]
    unfold timesE
    rw [if_pos h0, List.length_map, if_neg (by omega)]
end Go.Proofs.YtnbcaklnpflihaaGreatDoor

namespace Go.Proofs.YtnbcaklnpflihaaGreatDoor
open Go.RowKit
set_option maxRecDepth 100000

/-- t2 is the type of slices of t, of k cells and so many bytes. -/
structure Apd (P : Program) (t2 t : TypeId) (k bytes : Nat) : Prop where
  u : P.underlying t2 = some (.slice t)
  i : ∃ i z, P.info? t = some i ∧ i.zero = some z ∧ i.size = k ∧ i.bytes = bytes ∧ z.cells.size = k
theorem apd {P : Program} {t2 t : TypeId} {z : Value} {k bytes : Nat} (hu : P.underlying t2 = some (.slice t)) (hi : (P.info? t).map (fun i => (i.zero, i.size, i.bytes)) = some (some z, k, bytes)) (hz : z.cells.size = k) : Apd P t2 t k bytes := by
  obtain ⟨i, h1, h2, h3, h4⟩ := info_parts hi
  exact ⟨hu, i, z, h1, h2, h3, h4, hz⟩
section
variable {α : Type} {P : Program} {K : Kind α} {t2 t : TypeId} {ts : List TypeId} {B0 B bytes : Nat} {w : World} {v : Value} {l : List α}
theorem wpList_own {ops : Array Oper} {rest : List Oper} {o : Oper} {a : Act} {Q : Exit → Act → World → Prop} (hgd : o.guard = none) (s x : Operand)
    (ho : o.op = .call { callee := .builtin .append, args := #[s, x], argTypes := #[t2, t2] }) (hA : Apd P t2 t K.k bytes) (hk0 : 0 < K.k) (hs : a.eval s = v) (h : Own K t ts B0 B w v l)
    (hl : l.length ≤ 4000000000) (hby : bytes ≤ 1000) (ad : Addr) (c : Nat) (hx : a.eval x = .slice (some ad) 1 c) (e : α) (vs : List Value) (hrep : K.rep (Ty ts B0 B w) w e vs) (hnews : ∀ j u, vs[j]? = some u → w.cell? (ad.add j) = some u)
    (ht : t ∉ ts) (hB0 : B0 ≤ B) (hB : B ≤ w.heap.size)
    (hk : ∀ v' w', Own K t ts B0 B w' v' (l ++ [e]) → w.grownBy w' v.ownBlock → wpList P ops Q rest (a.put o.dst v') w') : wpList P ops Q (o :: rest) a w := by
  obtain ⟨i, z, hi, hz, h1, h2, h3⟩ := hA.i
  obtain ⟨vss, e1, e2, e3⟩ := h
  refine wpList_append_own w hgd s x t2 ho B t i z K.k bytes hA.u hi hz h1 h2 h3 hk0 v l.length vss.flatten hs e2 ad 1 c vs hx (by rw [K.len hrep]; omega) hnews (K.one hrep) (by unfold maxLen; omega) ?_ hB fun v' w' hn hg _ => hk v' w' (Own.snoc vss e1 e2 e3 hrep ht hB0 hg hn) hg
  exact Nat.le_trans (Nat.mul_le_mul (Nat.succ_le_succ hl) hby) (by decide)
theorem step_own {ops : Array Oper} {o : Oper} {a : Act} {K' : Act → World → Prop} {Q : Exit → Act → World → Prop} {E : Prop} {S : World → Prop} (hgd : o.guard = none) (s x : Operand)
    (ho : o.op = .call { callee := .builtin .append, args := #[s, x], argTypes := #[t2, t2] }) (hA : Apd P t2 t K.k bytes) (hk0 : 0 < K.k) (hs : a.eval s = v) (h : Own K t ts B0 B w v l)
    (hl : l.length ≤ 4000000000) (hby : bytes ≤ 1000) (ad : Addr) (c : Nat) (hx : a.eval x = .slice (some ad) 1 c) (e : α) (vs : List Value) (hrep : K.rep (Ty ts B0 B w) w e vs) (hnews : ∀ j u, vs[j]? = some u → w.cell? (ad.add j) = some u)
    (ht : t ∉ ts) (hB0 : B0 ≤ B) (hB : B ≤ w.heap.size) (hS : ∀ w', w.grownBy w' v.ownBlock → S w')
    (hk : ∀ g cap w', Own K t ts B0 B w' (.slice (some ⟨g, 0, none⟩) (l.length + 1) cap) (l ++ [e]) → w.grownBy w' v.ownBlock → S w' → K' (a.put o.dst (.slice (some ⟨g, 0, none⟩) (l.length + 1) cap)) w') :
    if Region.wanted o (yielded ops a.tmps) = true then Oper.wp P o a w K' Q else E := by
  obtain ⟨i, z, hi, hz, h1, h2, h3⟩ := hA.i
  obtain ⟨vss, e1, e2, e3⟩ := h
  refine step_append_lies w hgd s x t2 ho B t i z K.k bytes hA.u hi hz h1 h2 h3 hk0 v l.length vss.flatten hs e2 ad 1 c vs hx (by rw [K.len hrep]; omega) hnews (K.one hrep) (by omega) (by unfold maxLen; omega) ?_ hB w.heap.size rfl fun g cap w' hn hg _ _ => hk g cap w' (Own.snoc vss e1 e2 e3 hrep ht hB0 hg hn) hg (hS w' hg)
  exact Nat.le_trans (Nat.mul_le_mul (Nat.succ_le_succ hl) hby) (by decide)
theorem Own.high {C : Nat} (h : Own K t ts B0 B w v l) (hC : C ≤ B) : ∀ x, v.ownBlock = some x → C ≤ x := by obtain ⟨vss, -, h, -⟩ := h; exact own_high h hC
theorem Own.far {g : Nat} (h : Own K t ts B0 B w v l) (hg : g < B) : some g ≠ v.ownBlock := by obtain ⟨vss, -, h, -⟩ := h; exact own_far h hg
theorem Own.lt (h : Own K t ts B0 B w v l) : ∀ x, v.ownBlock = some x → B ≤ x ∧ x < w.heap.size := by obtain ⟨vss, -, h, -⟩ := h; exact h.lt
theorem Own.new {g : Nat} (h : Own K t ts B0 B w v l) (hg : w.heap.size ≤ g) : some g ≠ v.ownBlock := fun e => by have := (h.lt g e.symm).2; omega
/-- What was old is as it was when the row is grown. -/
theorem Own.below_grown {w0 w' : World} (h : Own K t ts B0 B w v l) (hb : Below w0.heap.size w0 w) (hB : w0.heap.size ≤ B) (hg : w.grownBy w' v.ownBlock) : Below w0.heap.size w0 w' :=
  Below.grown hb hg hb.size (fun y hy => Nat.le_trans hB (h.lt y hy).1)
end
theorem below_grown {w0 w w' : World} {v : Value} (hb : Below w0.heap.size w0 w) (hg : w.grownBy w' v.ownBlock) (hv : ∀ y, v.ownBlock = some y → w0.heap.size ≤ y) : Below w0.heap.size w0 w' := Below.grown hb hg hb.size hv
theorem block_after {w : World} {g : Nat} {o x : Obj} (h : w.heap[g]? = some x) : (w.alloc o).heap[g]? = some x := (Below.heap_alloc _ _ _ (blk_lt h)).trans h
/-- Strings that were just laid, as data. -/
theorem rep_lit_strs {t : TypeId} {ts : List TypeId} {B0 B g n : Nat} {w : World} {cs : Array Value} (zs : List ByteArray) (h : w.heap[g]? = some (.cells cs t (0, 0))) (hc : cs.toList = zs.map Value.string) (hn : zs.length = n) (hB : B ≤ g) (ht : t ∈ ts) :
    (kSlice kStr).rep (Ty ts B0 B w) w zs [.slice (some ⟨g, 0, none⟩) n n] := by
  subst hn
  refine ⟨some ⟨g, 0, none⟩, zs.length, rfl, Nat.le_refl _, fun _ => ⟨g, 0, rfl, .inr ⟨hB, cs, t, h, ht⟩, blk_lt h, fun j x hx => ⟨[.string x], rfl, fun i u hu => ?_⟩⟩⟩
  match i, hu with
  | 0, hu =>
    simp at hu
    subst hu
    rw [cell_of_row w g _ cs t (0, 0) h]
    have : cs.toList[j]? = some (.string x) := by rw [hc, List.getElem?_map, hx]; rfl
    simpa [kStr] using this
  | i + 1, hu => simp at hu
theorem apd_lists : Apd Tryz.prog 36 44 1 24 := apd Tryz.underlying36 (z := .slice none 0 0) (by kernel_rfl) rfl
end Go.Proofs.YtnbcaklnpflihaaGreatDoor
