/- The statement StafffileReturns: its walk. Conditions: the numbers can be read; what the program's variables hold. -/
import Derived.Test.YtgoppjhjmonidaaGreatDoorKMade9
import Derived.Test.YtgoppjhjmonidaaGreatDoorKWrite9
import Derived.Test.YtgoppjhjmonidaaGreatDoorKAwake9
namespace Go.Proofs.YtgoppjhjmonidaaGreatDoor
open Go.RowKit
set_option maxRecDepth 100000

theorem lists_in_of_at {B : Nat} {w : World} {A : Option Addr} {xs : List (List ByteArray)} (h : At (kSlice kStr) (· < B) w A xs) : ListsIn B w A xs := by
  intro hn
  obtain ⟨b, off, e, hb, -, hc⟩ := h hn
  refine ⟨b, off, e, hb, fun j x hx => ?_⟩
  obtain ⟨vs, ⟨F, c, rfl, -, hF⟩, hcell⟩ := hc j x hx
  refine ⟨F, c, by simpa [kSlice] using hcell 0 _ rfl, fun hn' => ?_⟩
  obtain ⟨b', off', e', hb', -, hc'⟩ := hF hn'
  refine ⟨b', off', e', hb', fun k z hz => ?_⟩
  obtain ⟨us, rfl, hcell'⟩ := hc' k z hz
  simpa [kStr] using hcell' 0 _ rfl
theorem plainF_mem {f : Fld} : ∀ {l : List ByteArray} {col : Int}, f ∈ plainF col l → f.1 ∈ l
  | [], _, h => by simp [plainF] at h
  | t :: r, col, h => by
    simp only [plainF, List.mem_cons] at h
    rcases h with rfl | h
    · simp
    · exact List.mem_cons_of_mem _ (plainF_mem h)
theorem plainR_mem {r : Rec} : ∀ {xs : List (List ByteArray)} {n : Int}, r ∈ plainR n xs → ∃ x ∈ xs, r.2 = plainF 1 x
  | [], _, h => by simp [plainR] at h
  | t :: q, n, h => by
    simp only [plainR, List.mem_cons] at h
    rcases h with rfl | h
    · exact ⟨t, by simp, rfl⟩
    · obtain ⟨x, hx, e⟩ := plainR_mem h
      exact ⟨x, List.mem_cons_of_mem _ hx, e⟩
theorem plainR_sizes {S : Nat} {xs : List (List ByteArray)} {n : Int} (h : ∀ x ∈ xs, ∀ z ∈ x, z.size ≤ S) : ∀ r ∈ plainR n xs, ∀ f ∈ r.2, f.1.size ≤ S := by
  intro r hr f hf
  obtain ⟨x, hx, e⟩ := plainR_mem hr
  rw [e] at hf
  exact h x hx _ (plainF_mem hf)
/-- Records laid, behind what was there. -/
def PlainSt (wx : World) (A : Option Addr) (rs : List Rec) (V : World) : Prop := Below wx.heap.size wx V ∧ RecsAt V.heap.size V A rs
theorem PlainSt.later {wx V V' : World} {A : Option Addr} {rs : List Rec} (h : PlainSt wx A rs V) (hb : Below V.heap.size V V') : PlainSt wx A rs V' := ⟨ext_trans h.1 hb, (h.2.below hb).more hb.size⟩
theorem PlainSt.alloc {wx V : World} {A : Option Addr} {rs : List Rec} (h : PlainSt wx A rs V) (o : Obj) : PlainSt wx A rs (V.alloc o) := h.later (ext_alloc (Below.refl _ _) _)
theorem PlainSt.drew {wx V : World} {A : Option Addr} {rs : List Rec} (h : PlainSt wx A rs V) : PlainSt wx A rs V.drew := h.later (ext_drew (Below.refl _ _))
theorem made_rows {N : Nat} {d s b m : Int} {D S : Int} {ls : List Lect} (h : StaffMade N D S ls) : ∀ x ∈ ls.map (rowOf d s b m N), x.length ≤ 1000 ∧ ∀ z ∈ x, z.size ≤ 1000 := by
  intro x hx
  obtain ⟨l, hl, rfl⟩ := List.mem_map.1 hx
  refine ⟨by simp [rowOf], fun z hz => ?_⟩
  obtain ⟨j, hj⟩ := List.getElem?_of_mem hl
  obtain ⟨hc, ht, -⟩ := h.2 j l hj
  have h3 := h.1
  have hjl := (List.getElem?_eq_some_iff.1 hj).1
  simp only [rowOf, List.mem_cons, List.not_mem_nil, or_false] at hz
  rcases hz with rfl | rfl
  · have : ∀ z ∈ peopleL, z.size ≤ 1000 := by decide
    exact this _ (List.mem_of_getElem? hc)
  · have := timesL_len d s b m N l.2
    simp only [ByteArray.size, List.size_toArray]
    omega
def ReadSt (wx : World) (gk : Nat) (d s b m : Int) (ls : List Lect) (n : Nat) (e : Ending) (V : World) : Prop :=
  ∃ A9 c9 A10 c10, e = .returned (.tuple #[.slice A9 n c9, .slice A10 0 c10]) ∧ LectsOwn wx.heap.size V (.slice A9 n c9) ls ∧ Below wx.heap.size wx V ∧ Cn4 gk 0 (.int .i64 d) gk 1 (.int .i64 s) gk 2 (.int .i64 b) gk 3 (.int .i64 m) V
def PlainSt2 (wx : World) (gk : Nat) (d s b m : Int) (rs : List Rec) (n : Nat) (e : Ending) (V : World) : Prop :=
  ∃ A8 c8, e = .returned (.slice A8 n c8) ∧ Cn4 gk 0 (.int .i64 d) gk 1 (.int .i64 s) gk 2 (.int .i64 b) gk 3 (.int .i64 m) V ∧ PlainSt wx A8 rs V
set_option maxHeartbeats 8000000 in
theorem ret9_walk (A : Option Addr) (n c : Nat) (w : World) (hS : Std w) (hP : StrsVar w.heap.size 0 peopleL w) (hA : 0 < n → ∃ b off, A = some ⟨b, off, none⟩ ∧ ∀ j, j < n → ∃ x : Int, w.cell? ⟨b, off + j, none⟩ = some (.int .i64 x)) :
    Calls Tryz.prog 6 #[.slice A n c] w fun e w' => e = .returned (.bool true) ∧ Below w.heap.size w w' := by
  by_cases hn : n ≤ 400
  · have hd400 : decide (n ≤ 400) = true := by simpa using hn
    have D0 := dice_new (c := c) hn hA
    have hS0 := hS.big
    obtain ⟨g, hgw⟩ : ∃ g, w.heap.size = g := ⟨_, rfl⟩
    obtain ⟨W1, hW1⟩ : ∃ W1, w.alloc (.cells #[.slice A n c, .int .i64 0] 109) = W1 := ⟨_, rfl⟩
    have hb1 : Below w.heap.size w W1 := by rw [← hW1]; exact (by repeat (first | exact Below.refl _ _ | refine ext_alloc ?_ _ | refine ext_drewN ?_ _ | refine ext_drew ?_ | refine ext_trans ?_ (by assumption)))
    have hS1 := hS.after hb1
    have hP1 := hP.below hb1
    rw [hW1] at D0
    have hg : w.heap.size ≤ g := Nat.le_of_eq hgw
    have D1 : DiceOk w.heap.size W1 g := by rw [← hgw]; exact D0
    replace hW1 := hide hW1
    replace hgw := hide hgw
    clear D0 hA hP
    go_enter Tryz.func6, Tryz.ntmps6
    go_wp2_with (go_at_call 20; refine (light_walk _ _ _ _).mono ?_; rintro e w' ⟨rfl, rfl⟩)
    refine (roll_walk _ _ _ _).mono ?_
    rintro e w' ⟨rfl, rfl⟩
    rw [hW1.out, hgw.out]
    clear hW1 hgw
    go_wp2_with fail
    refine (grid_walk w.heap.size g W1 D1).mono ?_
    rintro e w2 ⟨d, s, b, m, rfl, ⟨d1, d2, s1, s2, z1, z2, z3, z4⟩, T2⟩
    go_wp2_with fail
    refine (next_walk w.heap.size g 8 (by omega) _ T2.dice).mono ?_
    rintro e w3 ⟨v, rfl, p3, q3, -, T3, -⟩
    have q3 := q3 (by omega)
    have T := T2.trans T3
    have hS3 := T.std hS1 (by omega)
    have hb3 := T.ext hb1 hg
    have hP3 := hP1.below (T.below hg)
    have hB := Box4.new w3 39 (.int .i64 d) (.int .i64 s) (.int .i64 b) (.int .i64 m)
    have hk : g < w3.heap.size := T.dice.lt
    have hxx : Below w3.heap.size w3 (w3.alloc (.cells #[.int .i64 d, .int .i64 s, .int .i64 b, .int .i64 m] 39)) := ext_alloc (Below.refl _ _) _
    have hD3 := T.dice.later hxx
    have hS4 := hS3.after hxx
    have hP4 := hP3.below (hxx.mono (by have := hb3.size; omega))
    have hb4 := ext_trans hb3 hxx
    obtain ⟨v, rfl⟩ := Int.eq_ofNat_of_zero_le p3
    obtain ⟨N, hN⟩ : ∃ N : Nat, 1 + v = N := ⟨_, rfl⟩
    have hN1 : 1 ≤ N := by omega
    have hN8 : N ≤ 8 := by omega
    have hw := week_made d1 d2 s1 s2 z1 z2 z3 z4 (by omega : 1 ≤ (N : Int)) (by omega : (N : Int) ≤ 20)
    go_wp2_with fail
    rw [show ((1 : Int) + (v : Int)) = (N : Int) from by omega]
    obtain ⟨gk, hgk⟩ : ∃ gk, w3.heap.size = gk := ⟨_, rfl⟩
    obtain ⟨W4, hW4⟩ : ∃ W4, w3.alloc (.cells #[.int .i64 d, .int .i64 s, .int .i64 b, .int .i64 m] 39) = W4 := ⟨_, rfl⟩
    rw [hW4] at hB hD3 hS4 hP4 hb4 ⊢
    rw [hgk] at hB hk ⊢
    have hkl := hB.lt
    clear hN T T2 T3 D1 hS1 hb1 z1 z2 z3 z4 p3 q3 hxx hgk hW4 hP1 hP3 hS3 hb3
    refine (dstaff_walk w.heap.size g d s b m N (by omega) (by omega) hN1 (by omega) W4 hD3 hP4).mono ?_
    rintro e w5 ⟨v6, ls, rfl, hmade, hown, T5⟩
    obtain ⟨A6, c6, rfl, hcap, hAt⟩ := hown.any
    have hval := valid_made hw hmade hN1 (by omega) d2 s2
    have hrb := hide (read_back hval)
    have hS5 := T5.std hS4 (by omega)
    have hb5 := T5.ext hb4 hg
    have hB5 := T5.box (by omega) hB
    have hrows := hide (made_rows (d := d) (s := s) (b := b) (m := m) hmade)
    have hl3 := hmade.1
    have hl2 : ∀ l ∈ ls, l.2.length ≤ 2 := fun l hl => by obtain ⟨j, hj⟩ := List.getElem?_of_mem hl; exact (hmade.2 j l hj).2.1
    have hrw : rowsOf d s b m N ls = ls.map (rowOf d s b m N) := if_pos hval
    obtain ⟨L, hL⟩ : ∃ L, ls.length = L := ⟨_, rfl⟩
    have hwr := sfWrite_walk A6 ls c6 d s b m N w5 hcap (lects_of_at hAt)
    unfold WriteGives at hwr
    rw [hval, hrw, hL] at hwr
    rw [hL] at hl3 ⊢
    obtain ⟨k0, k1, k2, k3⟩ := hB5
    have hgr : gk < w5.heap.size := World.block_lt_of_cell? _ _ k0
    replace hL := hide hL
    replace hl2 := hide hl2
    clear hmade hown hval hrw hw hB hS4 hP4 hb4 T5 hD3 hcap
    go_wp2_with fail
    refine hwr.mono ?_
    rintro e w6 ⟨v7, rfl, hof, hb6⟩
    obtain ⟨A7, c7, rfl, -, hXt⟩ := hof.any
    rw [List.length_map, hL.out]
    have hX := lists_in_of_at hXt
    have hC : Cn4 gk 0 (.int .i64 d) gk 1 (.int .i64 s) gk 2 (.int .i64 b) gk 3 (.int .i64 m) w6 := ⟨cell_later hb6 k0, cell_later hb6 k1, cell_later hb6 k2, cell_later hb6 k3⟩
    have hAt6 := hAt.later hb6
    have hS6 := hS5.after hb6
    have hbw := ext_trans hb5 hb6
    have hg6 : gk < w6.heap.size := World.block_lt_of_cell? _ _ hC.1
    obtain ⟨xs, hxs⟩ : ∃ xs, ls.map (rowOf d s b m N) = xs := ⟨_, rfl⟩
    rw [hxs] at hX hrb hrows
    have hxl : xs.length = L := by rw [← hxs, List.length_map]; exact hL.out
    have hplain := hide (fun (V : World) (hV : Below w6.heap.size w6 V) => (plain_walk A7 xs c7 V (by
        have := hX.below hV; intro hn'; obtain ⟨b', off', e', hb', hc'⟩ := this hn'; refine ⟨b', off', e', Nat.lt_of_lt_of_le hb' hV.size, fun j x hx => ?_⟩; obtain ⟨F, c, h1, h2⟩ := hc' j x hx; exact ⟨F, c, h1, fun hn'' => by obtain ⟨b2, o2, e2, hb2, h3⟩ := h2 hn''; exact ⟨b2, o2, e2, Nat.lt_of_lt_of_le hb2 hV.size, h3⟩⟩) (by omega) (fun x hx => ⟨(hrows.out x hx).1, fun z hz => by have := (hrows.out x hx).2 z hz; omega⟩)).mono fun e V' ⟨v, he, hR, hb⟩ => (by
        obtain ⟨A8, c8, rfl⟩ : ∃ A8 c8, v = .slice A8 xs.length c8 := by obtain ⟨us, -, h, -⟩ := hR; have := owns_form h; rw [plainR_len] at this; exact this
        exact ⟨A8, c8, he.trans (by rw [hxl]), hC.later (ext_trans hV hb), ext_trans hV hb, recs_at hR⟩ : PlainSt2 w6 gk d s b m (plainR 1 xs) L e V'))
    rw [hxl] at hplain
    have hrl : (plainR 1 xs).length = L := by rw [plainR_len]; exact hxl
    have hread := hide (fun (A8 : Option Addr) (c8 : Nat) (V : World) (hV : PlainSt w6 A8 (plainR 1 xs) V) => (sread_walk d s b m N A8 (plainR 1 xs) c8 V (hS6.after hV.1) hV.2 (by omega) (fun r hr f hf => by have := plainR_sizes (fun x hx => (hrows.out x hx).2) r hr f hf; omega)).mono fun e V' ⟨v6, v8, he, hL', hP', hb⟩ => (by
        rw [hrb.out] at hL' hP'
        obtain ⟨A9, c9, rfl⟩ : ∃ A9 c9, v6 = .slice A9 ls.length c9 := by obtain ⟨us, -, h, -⟩ := hL'; exact owns_form h
        obtain ⟨A10, c10, rfl⟩ : ∃ A10 c10, v8 = .slice A10 0 c10 := owns_form hP'
        rw [hL.out] at hL' he
        exact ⟨A9, c9, A10, c10, he, hL'.lower hV.1.size, ext_trans hV.1 hb, hC.later (ext_trans hV.1 hb)⟩ : ReadSt w6 gk d s b m ls L e V'))
    rw [hrl] at hread
    have hCd := hC.drew
    have hrefl := Below.refl w6.heap.size w6
    obtain ⟨q0, q1, q2, q3⟩ := id hC
    clear hwr hof hX hxs hxl hrl hXt k0 k1 k2 k3 hrb hrows hS5 hb5 hAt
    go_wp2_with fail
    go_region_held3 (fun W' => W'.cell? ⟨gk, 0, none⟩ = some (.int .i64 d) ∧ W'.cell? ⟨gk, 1, none⟩ = some (.int .i64 s) ∧ W'.cell? ⟨gk, 2, none⟩ = some (.int .i64 b) ∧ W'.cell? ⟨gk, 3, none⟩ = some (.int .i64 m)) (first | ((repeat (first | (with_reducible assumption) | (with_reducible refine Cn4.alloc ?_ _) | (with_reducible refine Cn4.drew ?_) | (with_reducible refine Cn4.set ?_ ?_ ?_ ?_ ?_ _) | omega)); done)) (first | (go_at_call 30; refine (hplain.out _ (by repeat (first | (with_reducible assumption) | (with_reducible refine ext_alloc ?_ _) | (with_reducible refine ext_drew ?_)))).mono ?_; rintro e w7 ⟨A8, c8, rfl, hx7, hs7⟩) | (go_at_call 31; (with_reducible refine (hread.out A8 c8 _ ?_).mono ?_); (repeat (first | (with_reducible assumption) | (with_reducible refine PlainSt.alloc ?_ _) | (with_reducible refine PlainSt.drew ?_))); rintro e w8 ⟨A9, c9, A10, c10, rfl, hL8, hb8, hx8⟩))
    all_goals
      clear hplain hread hC hCd hrefl hx7 hs7 hx8
      go_wp2_with fail
      refine (awake09_walk _ (by first | exact hS6.after hb8 | exact hS6.after (ext_drew hb8))).mono ?_
      rintro e w9 ⟨rfl, hb9⟩
      have hb9' : Below w6.heap.size w6 w9 := by first | (with_reducible exact ext_trans hb8 hb9) | (with_reducible exact ext_trans (ext_drew hb8) hb9)
      have hL9 : LectsOwn w6.heap.size w9 (.slice A9 L c9) ls := by first | (with_reducible exact hL8.later hb9) | (with_reducible exact (hL8.later (ext_drew (Below.refl _ _))).later hb9)
      have hsame := r9SameK_walk A6 A9 ls c6 c9 w9 (by rw [hL.out]; omega) (fun l hl => by have := hl2.out l hl; omega) (hAt6.later hb9').any (at_of_lects hL9).any
      rw [hL.out] at hsame
      have hbf := ext_trans hbw hb9'
      clear hb8 hb9 hb9' hL8 hL9 hS6 hbw hAt6
      go_wp2_with fail
      refine hsame.mono ?_
      rintro e w10 ⟨rfl, hb10⟩
      clear hsame
      go_wp2
      go_ret
      exact ⟨rfl, ext_trans hbf hb10⟩
  · have hd400 : decide (n ≤ 400) = false := by simpa using hn
    go_enter Tryz.func6, Tryz.ntmps6
    go_wp2_with (go_at_call 20; refine (light_walk _ _ _ _).mono ?_; rintro e w' ⟨rfl, rfl⟩)
    refine (awake09_walk w hS).mono ?_
    rintro e w1 ⟨rfl, hb1⟩
    go_wp2
    go_ret
    exact ⟨rfl, hb1⟩
end Go.Proofs.YtgoppjhjmonidaaGreatDoor
