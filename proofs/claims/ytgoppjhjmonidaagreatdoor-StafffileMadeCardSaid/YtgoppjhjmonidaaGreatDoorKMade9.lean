/- Made lecturers are valid (plain); timetableref09.Same of equal lecturers (a walk). Conditions: the cells. -/
import Derived.Test.YtgoppjhjmonidaaGreatDoorKDiceU
import Derived.Test.YtgoppjhjmonidaaGreatDoorKWriteT
import Derived.Test.YtgoppjhjmonidaaGreatDoorKLawTR
import Derived.Test.YtgoppjhjmonidaaGreatDoorKValC
namespace Go.Proofs.YtgoppjhjmonidaaGreatDoor
open Go.RowKit
set_option maxRecDepth 100000

theorem people_facts : ∀ j : Nat, j < 3 → codeB (peopleL.getD j ⟨#[]⟩) = true ∧ ∀ i : Nat, i < j → sameS (peopleL.getD i ⟨#[]⟩) (peopleL.getD j ⟨#[]⟩) = false := by decide +kernel
theorem lectsE_all {d sl b m n : Int} {ls : List Lect} : ∀ {k : Nat}, (∀ j, j < k → lectE d sl b m n ls j = 0) → lectsE d sl b m n ls k = 0
  | 0, _ => rfl
  | k + 1, h => by
    have h0 := lectsE_all (k := k) fun j hj => h j (by omega)
    rw [lectsE, if_neg (by simp [h0]), h k (by omega)]
theorem valid_made {N : Nat} {d s b m : Int} {ls : List Lect} (hw : weekB d s b m N = true) (h : StaffMade N d s ls) (hn1 : 1 ≤ N) (hn : N ≤ 20) (hd : d ≤ 5) (hs : s ≤ 8) : validV d s b m N ls = 0 := by
  obtain ⟨hl, hp⟩ := h
  unfold validV
  rw [if_neg (by rw [hw]; simp), if_neg (by omega)]
  refine lectsE_all fun j hj => ?_
  obtain ⟨l, hlj⟩ : ∃ l, ls[j]? = some l := ⟨_, List.getElem?_eq_getElem hj⟩
  obtain ⟨hc, ht1, ht2⟩ := hp j l hlj
  have hget : ls.getD j (⟨#[]⟩, []) = l := by rw [List.getD_eq_getElem?_getD, hlj]; rfl
  have hpe : peopleL.getD j ⟨#[]⟩ = l.1 := by rw [List.getD_eq_getElem?_getD, hc]; rfl
  have hcode : codesOf ls j = l.1 := by unfold codesOf; rw [hget]
  obtain ⟨c1, c2⟩ := people_facts j (by omega)
  rw [hpe] at c1 c2
  unfold lectE
  rw [hget, hcode, if_neg (by simp [c1]), if_neg (by omega)]
  rw [orTo_none (n := l.2.length) fun k hk => by
    have hx : l.2[k]? = some (l.2.getD k (0, 0, 0, 0)) := by rw [List.getD_eq_getElem?_getD, List.getElem?_eq_getElem hk]; rfl
    have := fits_made hw (ht2 _ (List.mem_of_getElem? hx)) hn1 hn hd hs
    simpa using this]
  rw [if_neg (by simp)]
  rw [orTo_none (n := j) fun i hi => by
    have hil : ls[i]? = some (ls[i]'(by omega)) := List.getElem?_eq_getElem (by omega)
    have hi1 := (hp i _ hil).1
    have : codesOf ls i = peopleL.getD i ⟨#[]⟩ := by
      unfold codesOf
      rw [List.getD_eq_getElem?_getD, hil, List.getD_eq_getElem?_getD, hi1]; rfl
    rw [this]; exact c2 i hi]
  rfl
/-! Rows of times and of lecturers, as data. -/
theorem at_of_times {B q c : Nat} {w : World} {A : Option Addr} {ts : List T4} (h : TimesOwn B w (.slice A q c) ts) : At kTime (· < w.heap.size) w A ts := by
  intro hn
  obtain ⟨b, off, e, hb, hc⟩ := times_cells h hn
  refine ⟨b, off, e, hb, hb, fun j t ht => ?_⟩
  have hj := (List.getElem?_eq_some_iff.1 ht).1
  have hg : ts.getD j (0, 0, 0, 0) = t := by rw [List.getD_eq_getElem?_getD, ht]; rfl
  obtain ⟨x1, x2, x3, x4⟩ := t
  refine ⟨[.int .i64 x1, .int .i64 x2, .int .i64 x3, .int .i64 x4], rep_of_time x1 x2 x3 x4, fun i u hu => hc j hj i u ?_⟩
  show (encT (ts.getD j (0, 0, 0, 0)))[i]? = some u
  rw [hg]; exact hu
theorem own_capn {w : World} {B k n m c : Nat} {e : TypeId} {A : Option Addr} {xs : List Value} (h : w.ownsRow B e k (.slice A m c) n xs) : m ≤ c := by
  rcases h.2 with ⟨e, h0⟩ | ⟨g, cap, cur, e, -, -, hn, -⟩
  · injection e; omega
  · injection e; omega
theorem at_of_lects {B q c : Nat} {w : World} {A : Option Addr} {ls : List Lect} (h : LectsOwn B w (.slice A q c) ls) : At kLect (· < w.heap.size) w A ls := by
  intro hn
  obtain ⟨g, -, -, rfl, k0, -⟩ := lect_at h 0 _ (List.getElem?_eq_getElem hn)
  have hlt := World.block_lt_of_cell? _ _ k0
  refine ⟨g, 0, rfl, hlt, hlt, fun j l hl => ?_⟩
  obtain ⟨g', A', c', e, q0, q1, ht⟩ := lect_at h j l hl
  injection e with e
  injection e with e
  subst e
  refine ⟨[.string l.1, .slice A' l.2.length c'], ⟨[_], [_], rfl, rfl, A', c', rfl, own_capn ht, at_of_times ht⟩, fun i u hu => ?_⟩
  match i, hu with
  | 0, hu => simp at hu; subst hu; rw [Nat.zero_add]; exact q0
  | 1, hu => simp at hu; subst hu; rw [Nat.zero_add]; exact q1
  | i + 2, hu => simp at hu
theorem lect_get {S : Nat → Prop} {w : World} {A : Option Addr} {ls : List Lect} (h : At kLect S w A ls) {j : Nat} {l : Lect} (hj : ls[j]? = some l) :
    ∃ b off T c, A = some ⟨b, off, none⟩ ∧ S b ∧ b < w.heap.size ∧ w.cell? ⟨b, off + j * 2, none⟩ = some (.string l.1) ∧ w.cell? ⟨b, off + j * 2 + 1, none⟩ = some (.slice T l.2.length c) ∧ l.2.length ≤ c ∧ At kTime S w T l.2 := by
  obtain ⟨b, off, vs, e, hs, hlt, ⟨us, ts, rfl, h1, T, c, rfl, hc, hT⟩, hcell⟩ := h.get hj
  rw [rep_str] at h1
  subst h1
  exact ⟨b, off, T, c, e, hs, hlt, hcell 0 _ rfl, hcell 1 _ rfl, hc, hT⟩
set_option maxHeartbeats 8000000 in
theorem r9SameK_walk (A A' : Option Addr) (ls : List Lect) (c c' : Nat) (w : World) (hn : ls.length ≤ 9223372036854775807) (hm : ∀ l ∈ ls, l.2.length ≤ 9223372036854775807) (h1 : At kLect AnyB w A ls) (h2 : At kLect AnyB w A' ls) :
    Calls Tryz.prog 32 #[.slice A ls.length c, .slice A' ls.length c'] w fun e w' => e = .returned (.bool true) ∧ Below w.heap.size w w' := by
  obtain ⟨n, hnn⟩ : ∃ n, ls.length = n := ⟨_, rfl⟩
  rw [hnn] at hn ⊢
  replace hnn := hide hnn
  replace hm := hide hm
  go_enter Tryz.func32, Tryz.ntmps32
  go_wp2
  go_loopw [5] (fun i wr => ∃ j : Nat, j ≤ n ∧ i = .int .i64 j ∧ Below w.heap.size w wr) (fun i _ => n - (intOf i).toNat)
  case atStart => exact ⟨0, Nat.zero_le _, rfl, Below.refl _ _⟩
  case round =>
    obtain ⟨j, hj, rfl, hb⟩ := hrel
    by_cases hlt : j < n
    · obtain ⟨l, hl⟩ : ∃ l, ls[j]? = some l := ⟨_, List.getElem?_eq_getElem (by rw [hnn.out]; exact hlt)⟩
      have hll := hm.out l (List.mem_of_getElem? hl)
      obtain ⟨b1, o1, P, cP, rfl, -, hb1, a0, a1, -, tX⟩ := lect_get (h1.later hb) hl
      obtain ⟨b2, o2, Q, cQ, rfl, -, hb2, e0, e1, -, tY⟩ := lect_get (h2.later hb) hl
      obtain ⟨code, ts⟩ := l
      dsimp only at a0 a1 e0 e1 tX tY hll
      have htX := cells_of_at tX.lo
      have htY := cells_of_at tY.lo
      obtain ⟨k, hk⟩ : ∃ k, ts.length = k := ⟨_, rfl⟩
      rw [hk] at a1 e1 htX htY hll
      have hj0 : (0 : Int) ≤ (j : Int) := by omega
      have hj1 : (j : Int) < (n : Int) := by omega
      have hSC : Cn4 b1 (o1 + j * 2) (.string code) b1 (o1 + j * 2 + 1) (.slice P k cP) b2 (o2 + j * 2) (.string code) b2 (o2 + j * 2 + 1) (.slice Q k cQ) wr := ⟨a0, a1, e0, e1⟩
      have hcall := hide (fun (W : World) (hW : Below wr.heap.size wr W) => (r7Same_walk P Q k cP cQ (fun j => ts.getD j (0, 0, 0, 0)) W hll ((htX.below hW).more hW.size) ((htY.below hW).more hW.size)).mono fun _ _ ⟨he, hb⟩ => (⟨he, ext_trans hW hb, hSC.later (ext_trans hW hb)⟩ : _ ∧ Below wr.heap.size wr _ ∧ Cn4 b1 (o1 + j * 2) (.string code) b1 (o1 + j * 2 + 1) (.slice P k cP) b2 (o2 + j * 2) (.string code) b2 (o2 + j * 2 + 1) (.slice Q k cQ) _))
      have hSd := hSC.drew
      have hrefl := Below.refl wr.heap.size wr
      clear h1 h2 hl tX tY htX htY hk
      go_wp2_with fail
      go_region_held3 (fun W' => W'.cell? ⟨b1, o1 + j * 2, none⟩ = some (.string code) ∧ W'.cell? ⟨b1, o1 + j * 2 + 1, none⟩ = some (.slice P k cP) ∧ W'.cell? ⟨b2, o2 + j * 2, none⟩ = some (.string code) ∧ W'.cell? ⟨b2, o2 + j * 2 + 1, none⟩ = some (.slice Q k cQ)) (first | ((repeat (first | (with_reducible assumption) | (with_reducible refine Cn4.alloc ?_ _) | (with_reducible refine Cn4.drew ?_) | (with_reducible refine Cn4.set ?_ ?_ ?_ ?_ ?_ _) | omega)); done)) (first | (go_at_call 72; refine (hcall.out _ (by repeat (first | (with_reducible assumption) | (with_reducible refine ext_alloc ?_ _) | (with_reducible refine ext_drew ?_)))).mono ?_; rintro e w2 ⟨rfl, hb2, hx2⟩))
      all_goals
        have hbn := ext_trans hb hb2
        go_wp2
        go_roundw
        case rel => exact ⟨j + 1, by omega, by go_num, by first | exact ext_drew hbn | exact hbn⟩
        case measure => simp [intOf]; omega
    · obtain rfl : j = n := by omega
      go_wp2
      go_ret
      exact ⟨rfl, hb⟩
end Go.Proofs.YtgoppjhjmonidaaGreatDoor
