/- Walk of timetableref07.Valid. Conditions: the rooms' cells. -/
import Derived.Test.YtnbcaklnpflihaaGreatDoorKRWrite
namespace Go.Proofs.YtnbcaklnpflihaaGreatDoor
open Go.RowKit
set_option maxRecDepth 100000

/-- The cells that the region of Fits loads. -/
abbrev FCr (gb rb tb o1 o2 : Nat) (d sl b m : Int) (u : Value) (x1 x2 x3 x4 : Int) (W : World) : Prop := W.cell? ⟨gb, 0, none⟩ = some (.int .i64 d) ∧ W.cell? ⟨gb, 1, none⟩ = some (.int .i64 sl) ∧ W.cell? ⟨gb, 2, none⟩ = some (.int .i64 b) ∧ W.cell? ⟨gb, 3, none⟩ = some (.int .i64 m) ∧ W.cell? ⟨rb, o1, none⟩ = some u ∧ W.cell? ⟨tb, o2, none⟩ = some (.int .i64 x1) ∧ W.cell? ⟨tb, o2 + 1, none⟩ = some (.int .i64 x2) ∧ W.cell? ⟨tb, o2 + 2, none⟩ = some (.int .i64 x3) ∧ W.cell? ⟨tb, o2 + 3, none⟩ = some (.int .i64 x4)
section
variable {gb rb tb o1 o2 : Nat} {d sl b m : Int} {u : Value} {x1 x2 x3 x4 : Int} {W W' : World}
theorem FCr.drew (h : FCr gb rb tb o1 o2 d sl b m u x1 x2 x3 x4 W) : FCr gb rb tb o1 o2 d sl b m u x1 x2 x3 x4 W.drew := h
theorem FCr.later (h : FCr gb rb tb o1 o2 d sl b m u x1 x2 x3 x4 W) (hb : Below W.heap.size W W') : FCr gb rb tb o1 o2 d sl b m u x1 x2 x3 x4 W' :=
  ⟨cell_later hb h.1, cell_later hb h.2.1, cell_later hb h.2.2.1, cell_later hb h.2.2.2.1, cell_later hb h.2.2.2.2.1, cell_later hb h.2.2.2.2.2.1, cell_later hb h.2.2.2.2.2.2.1, cell_later hb h.2.2.2.2.2.2.2.1, cell_later hb h.2.2.2.2.2.2.2.2⟩
end
theorem idx_memR {z : ByteArray} {xs : List ByteArray} : 0 ≤ idxS z xs ↔ z ∈ xs := by
  constructor
  · intro h
    apply Classical.byContradiction
    intro hz
    rw [idxS_none (fun y hy => by rw [toList_dataL, toList_dataL]; exact beq_false_of_ne fun e => hz (dat_inj e ▸ hy))] at h
    exact absurd h (by decide)
  · intro hz
    apply Classical.byContradiction
    intro h
    have hall : ∀ n, n ≤ xs.length → ∀ y ∈ xs.take n, (y.toList == z.toList) = false := by
      intro n
      induction n with
      | zero => intro _ y hy; simp at hy
      | succ n ih =>
        intro hn y hy
        have hx : xs[n]? = some xs[n] := List.getElem?_eq_getElem (by omega)
        cases hq : (xs[n].toList == z.toList) with
        | false => exact take_miss hx (ih (by omega)) hq y hy
        | true => rw [idxS_hit hx (ih (by omega)) hq] at h; exact absurd (by omega) h
    have := hall xs.length (Nat.le_refl _) z (by rw [List.take_length]; exact hz)
    simp at this
set_option maxHeartbeats 8000000 in
theorem r7Valid_walk (A : Option Addr) (l : List Room) (cap : Nat) (d sl b m n : Int) (w : World) (hL : At kRoom AnyB w A l) :
    Calls Tryz.prog 13 #[.slice A l.length cap, .agg #[.int .i64 d, .int .i64 sl, .int .i64 b, .int .i64 m], .int .i64 n] w fun e w' => e = .returned (.int .i64 (validR d sl b m n l)) ∧ Below w.heap.size w w' := by
  have hb0 : Below w.heap.size w (w.alloc (.cells #[.int .i64 d, .int .i64 sl, .int .i64 b, .int .i64 m] 24)) := (by repeat (first | exact Below.refl _ _ | refine ext_alloc ?_ _ | refine ext_drewN ?_ _ | refine ext_drew ?_ | refine ext_trans ?_ (by assumption)))
  cases hw : weekB d sl b m n
  · have hv : validR d sl b m n l = 1 := by unfold validR; rw [if_pos hw]
    rw [hv]
    clear hv hL
    go_enter Tryz.func13, Tryz.ntmps13
    go_wp2_with fail
    refine (r6Usable_walk d sl b m n _).mono ?_
    rintro e w1 ⟨rfl, hb1⟩
    rw [hw]
    have hb := ext_trans hb0 hb1
    clear hb0 hb1
    go_wp2
    go_ret
    exact ⟨rfl, hb⟩
  · have hv : validR d sl b m n l = if 16 < l.length then 2 else roomErr d sl b m n l l.length := by unfold validR; rw [if_neg (by rw [hw]; simp)]
    obtain ⟨N, hN⟩ : ∃ N, l.length = N := ⟨_, rfl⟩
    rw [hv]
    rw [hN]
    by_cases h16 : 16 < N
    · rw [if_pos h16]
      clear hv hL
      go_enter Tryz.func13, Tryz.ntmps13
      go_wp2_with fail
      refine (r6Usable_walk d sl b m n _).mono ?_
      rintro e w1 ⟨rfl, hb1⟩
      rw [hw]
      have hb := ext_trans hb0 hb1
      clear hb0 hb1
      go_wp2
      go_ret
      exact ⟨rfl, hb⟩
    · rw [if_neg h16]
      replace hN := hide hN
      clear hv
      go_enter Tryz.func13, Tryz.ntmps13
      go_wp2_with fail
      refine (r6Usable_walk d sl b m n _).mono ?_
      rintro e w1 ⟨rfl, hb1⟩
      rw [hw]
      have hb := ext_trans hb0 hb1
      have hL1 := hL.later hb
      obtain ⟨g0, g1, g2, g3⟩ := (Box4.new w 24 (.int .i64 d) (.int .i64 sl) (.int .i64 b) (.int .i64 m)).later hb1
      have hgl : w.heap.size < w1.heap.size := World.block_lt_of_cell? _ _ g0
      obtain ⟨gb, hgb⟩ : ∃ gb, w.heap.size = gb := ⟨_, rfl⟩
      rw [hgb] at g0 g1 g2 g3 hgl
      replace hgb := hide hgb
      clear hb0 hb1 hL
      go_wp2_with fail
      rw [hgb.out]
      go_loopw [7] (fun i wr => ∃ j : Nat, j ≤ N ∧ i = .int .i64 j ∧ Hid (roomErr d sl b m n l j = 0) ∧ Below w1.heap.size w1 wr) (fun i _ => N - (intOf i).toNat)
      case atStart => exact ⟨0, Nat.zero_le _, rfl, hide rfl, Below.refl _ _⟩
      case round =>
        obtain ⟨j, hj, rfl, ho, hbr⟩ := hrel
        by_cases hlt : j < N
        · obtain ⟨x, hx⟩ : ∃ x, l[j]? = some x := ⟨_, List.getElem?_eq_getElem (by rw [hN.out]; exact hlt)⟩
          obtain ⟨rb, off, A3, c3, A4, c4, rfl, -, hrb, ⟨q0, q1, q2, q3, q4⟩, l3, l4, a3, a4⟩ := (hL1.later hbr).room hx
          have hsn := codesR_snoc hx
          obtain ⟨z, bl, sn, fs, ts⟩ := x
          dsimp only at q0 q1 q2 q3 q4 l3 l4 a3 a4 hsn
          have hz := hbr.size
          have r0 := cell_later hbr g0
          have r1 := cell_later hbr g1
          have r2 := cell_later hbr g2
          have r3 := cell_later hbr g3
          have hbw := ext_trans hb hbr
          have hgr : gb < wr.heap.size := by omega
          have hbx : Below wr.heap.size wr (wr.alloc (.cells #[.string z, .string bl, .int .i64 sn, .slice A3 fs.length c3, .slice A4 ts.length c4] 47)) := ext_alloc (Below.refl _ _) _
          have hfa := fun (hl : fs.length ≤ 9223372036854775807) (V : World) (hV : Below wr.heap.size wr V) => r7codes_walk A3 fs c3 V hl (a3.later hV)
          have hex : roomEx d sl b m n (z, bl, sn, fs, ts) ((codesR l).take j) = if codeB z = false then 10 else if codeB bl = false then 10 else if sn < 1 then 3 else if 9999 < sn then 3 else if 8 < fs.length then 2 else if 24 < ts.length then 2 else if ascTo fs fs.length = false then 10 else if orTo (fun j => fitsV d sl b m n (ts.getD j (0, 0, 0, 0)).1 (ts.getD j (0, 0, 0, 0)).2.1 (ts.getD j (0, 0, 0, 0)).2.2.1 (ts.getD j (0, 0, 0, 0)).2.2.2 != 0) ts.length = true then 14 else if 0 ≤ idxS z ((codesR l).take j) then 11 else 0 := rfl
          obtain ⟨fa, hfae⟩ : ∃ fa, ascTo fs fs.length = fa := ⟨_, rfl⟩
          obtain ⟨p, hp⟩ : ∃ p : Nat → Bool, (fun k => fitsV d sl b m n (ts.getD k (0, 0, 0, 0)).1 (ts.getD k (0, 0, 0, 0)).2.1 (ts.getD k (0, 0, 0, 0)).2.2.1 (ts.getD k (0, 0, 0, 0)).2.2.2 != 0) = p := ⟨_, rfl⟩
          have hex2 := hex
          rw [hp] at hex2
          replace hex := hex2
          clear hex2
          rw [hfae] at hfa hex
          obtain ⟨nf, hnf⟩ : ∃ nf, fs.length = nf := ⟨_, rfl⟩
          obtain ⟨nt, hnt⟩ : ∃ nt, ts.length = nt := ⟨_, rfl⟩
          rw [hnf] at hfa hex l3 q3 hbx
          rw [hnt] at hex l4 q4 hbx
          have hj0 : (0 : Int) ≤ (j : Int) := by omega
          have hj1 : (j : Int) < (N : Int) := by omega
          have cv := hide (fun (s : ByteArray) (V : World) => r3valid_walk s V)
          replace hfa := hide hfa
          replace hex := hide hex
          replace hsn := hide hsn
          replace hbx := hide hbx
          replace hp := hide hp
          replace a4 := a4.lo
          clear a3 hfae hnf l3 l4
          cases hc1 : codeB z with
          | false =>
            have hend : Hid (roomErr d sl b m n l N = 10) := hide (room_end hx ho.out (by rw [hex.out, if_pos hc1]) (by decide) hlt)
            clear hx hex hfa
            go_wp2_with (go_at_call 33; (with_reducible refine (cv.out _ _).mono ?_); rintro e w7 ⟨rfl, rfl⟩; rw [hc1])
            go_ret
            exact ⟨by rw [hend.out]; rfl, ext_trans hbw (by repeat (first | exact Below.refl _ _ | refine ext_alloc ?_ _ | refine ext_drewN ?_ _ | refine ext_drew ?_ | refine ext_trans ?_ (by assumption)))⟩
          | true =>
          cases hc2 : codeB bl with
          | false =>
            have hend : Hid (roomErr d sl b m n l N = 10) := hide (room_end hx ho.out (by rw [hex.out, if_neg (by simp [hc1]), if_pos hc2]) (by decide) hlt)
            clear hx hex hfa
            go_wp2_with (go_at_call 33; (with_reducible refine (cv.out _ _).mono ?_); rintro e w7 ⟨rfl, rfl⟩; first | rw [hc1] | rw [hc2])
            go_ret
            exact ⟨by rw [hend.out]; rfl, ext_trans hbw (by repeat (first | exact Below.refl _ _ | refine ext_alloc ?_ _ | refine ext_drewN ?_ _ | refine ext_drew ?_ | refine ext_trans ?_ (by assumption)))⟩
          | true =>
          by_cases h1 : sn < 1
          · have hend : Hid (roomErr d sl b m n l N = 3) := hide (room_end hx ho.out (by rw [hex.out, if_neg (by simp [hc1]), if_neg (by simp [hc2]), if_pos (by omega)]) (by decide) hlt)
            clear hx hex hfa
            go_wp2_with (go_at_call 33; (with_reducible refine (cv.out _ _).mono ?_); rintro e w7 ⟨rfl, rfl⟩; first | rw [hc1] | rw [hc2])
            go_ret
            exact ⟨by rw [hend.out]; rfl, ext_trans hbw (by repeat (first | exact Below.refl _ _ | refine ext_alloc ?_ _ | refine ext_drewN ?_ _ | refine ext_drew ?_ | refine ext_trans ?_ (by assumption)))⟩
          · by_cases h2 : 9999 < sn
            · have hend : Hid (roomErr d sl b m n l N = 3) := hide (room_end hx ho.out (by rw [hex.out, if_neg (by simp [hc1]), if_neg (by simp [hc2]), if_neg (by omega), if_pos (by omega)]) (by decide) hlt)
              clear hx hex hfa
              go_wp2_with (go_at_call 33; (with_reducible refine (cv.out _ _).mono ?_); rintro e w7 ⟨rfl, rfl⟩; first | rw [hc1] | rw [hc2])
              go_ret
              exact ⟨by rw [hend.out]; rfl, ext_trans hbw (by repeat (first | exact Below.refl _ _ | refine ext_alloc ?_ _ | refine ext_drewN ?_ _ | refine ext_drew ?_ | refine ext_trans ?_ (by assumption)))⟩
            · by_cases h3 : 8 < nf
              · have h3i : (8 : Int) < (nf : Int) := by omega
                have hend : Hid (roomErr d sl b m n l N = 2) := hide (room_end hx ho.out (by rw [hex.out, if_neg (by simp [hc1]), if_neg (by simp [hc2]), if_neg (by omega), if_neg (by omega), if_pos (by omega)]) (by decide) hlt)
                clear hx hex hfa
                go_wp2_with (go_at_call 33; (with_reducible refine (cv.out _ _).mono ?_); rintro e w7 ⟨rfl, rfl⟩; first | rw [hc1] | rw [hc2])
                go_ret
                exact ⟨by rw [hend.out]; rfl, ext_trans hbw (by repeat (first | exact Below.refl _ _ | refine ext_alloc ?_ _ | refine ext_drewN ?_ _ | refine ext_drew ?_ | refine ext_trans ?_ (by assumption)))⟩
              · have h3i : ¬ (8 : Int) < (nf : Int) := by omega
                by_cases h4 : 24 < nt
                · have h4i : (24 : Int) < (nt : Int) := by omega
                  have hend : Hid (roomErr d sl b m n l N = 2) := hide (room_end hx ho.out (by rw [hex.out, if_neg (by simp [hc1]), if_neg (by simp [hc2]), if_neg (by omega), if_neg (by omega), if_neg (by omega), if_pos (by omega)]) (by decide) hlt)
                  clear hx hex hfa
                  go_wp2_with (go_at_call 33; (with_reducible refine (cv.out _ _).mono ?_); rintro e w7 ⟨rfl, rfl⟩; first | rw [hc1] | rw [hc2])
                  go_ret
                  exact ⟨by rw [hend.out]; rfl, ext_trans hbw (by repeat (first | exact Below.refl _ _ | refine ext_alloc ?_ _ | refine ext_drewN ?_ _ | refine ext_drew ?_ | refine ext_trans ?_ (by assumption)))⟩
                · have h4i : ¬ (24 : Int) < (nt : Int) := by omega
                  replace hfa := hide (hfa.out (by omega))
                  have x0 : (wr.alloc (.cells #[.string z, .string bl, .int .i64 sn, .slice A3 nf c3, .slice A4 nt c4] 47)).cell? ⟨wr.heap.size, 0, none⟩ = some (.string z) := by simp
                  cases fa with
                  | false =>
                    have hend : Hid (roomErr d sl b m n l N = 10) := hide (room_end hx ho.out (by rw [hex.out, if_neg (by simp [hc1]), if_neg (by simp [hc2]), if_neg (by omega), if_neg (by omega), if_neg (by omega), if_neg (by omega), if_pos rfl]) (by decide) hlt)
                    clear hx hex x0
                    go_wp2_with (first | (go_at_call 33; (with_reducible refine (cv.out _ _).mono ?_); rintro e w7 ⟨rfl, rfl⟩; first | rw [hc1] | rw [hc2]) | (go_at_call 34; (with_reducible refine (hfa.out _ hbx.out).mono ?_); rintro e w8 ⟨rfl, hb8⟩))
                    all_goals first | (exfalso; omega) | (go_ret; exact ⟨by rw [hend.out]; rfl, ext_trans hbw (ext_trans hbx.out hb8)⟩)
                  | true =>
                    have hgr1 : gb < wr.heap.size + 1 := by omega
                    go_wp2_with (first | (go_at_call 33; (with_reducible refine (cv.out _ _).mono ?_); rintro e w7 ⟨rfl, rfl⟩; first | rw [hc1] | rw [hc2]) | (go_at_call 34; (with_reducible refine (hfa.out _ hbx.out).mono ?_); rintro e w8 ⟨rfl, hb8⟩))
                    all_goals try (exfalso; omega)
                    have hb18 := ext_trans hbx.out hb8
                    have x9 := cell_later hb8 x0
                    have x4 : (wr.alloc (.cells #[.string z, .string bl, .int .i64 sn, .slice A3 nf c3, .slice A4 nt c4] 47)).cell? ⟨wr.heap.size, 4, none⟩ = some (.slice A4 nt c4) := by simp
                    replace x4 := cell_later hb8 x4
                    have y0 := cell_later hb18 r0
                    have y1 := cell_later hb18 r1
                    have y2 := cell_later hb18 r2
                    have y3 := cell_later hb18 r3
                    have ht := cells_of_at (a4.later hb18).lo
                    rw [hnt] at ht
                    have hz8 := hb18.size
                    have hxl : wr.heap.size < w8.heap.size := World.block_lt_of_cell? _ _ x9
                    have hgl8 : gb < w8.heap.size := by omega
                    obtain ⟨xb, hxb⟩ : ∃ xb, wr.heap.size = xb := ⟨_, rfl⟩
                    rw [hxb] at x9 x4 hxl
                    clear hfa cv x0 q0 q1 q2 q3 q4 r0 r1 r2 r3 hbx hb8 a4
                    rename World => w2
                    go_wp2_with fail
                    rw [hxb]
                    clear hxb
                    go_loopw [9] (fun v wx => ∃ q : Nat, q ≤ nt ∧ v = .int .i64 q ∧ Hid (orTo p q = false) ∧ Below w2.heap.size w2 wx) (fun v _ => nt - (intOf v).toNat)
                    case atStart => exact ⟨0, Nat.zero_le _, rfl, hide rfl, Below.refl _ _⟩
                    case round =>
                      obtain ⟨q, hq, rfl, hof, hbq⟩ := hrel
                      rename World => w3
                      have s4 := cell_later hbq x4
                      have t0 := cell_later hbq y0
                      have t1 := cell_later hbq y1
                      have t2 := cell_later hbq y2
                      have t3 := cell_later hbq y3
                      have hzq := hbq.size
                      have hxq : xb < w3.heap.size := by omega
                      have hgq : gb < w3.heap.size := by omega
                      by_cases hqk : q < nt
                      · obtain ⟨tb, tof, rfl, htb, tc⟩ := (ht.below hbq) (by omega)
                        have a0 := tc q hqk 0 _ rfl
                        have a1 := tc q hqk 1 _ rfl
                        have a2 := tc q hqk 2 _ rfl
                        have a3 := tc q hqk 3 _ rfl
                        rw [Nat.add_zero] at a0
                        have hpq : Hid (p q = (fitsV d sl b m n (ts.getD q (0, 0, 0, 0)).1 (ts.getD q (0, 0, 0, 0)).2.1 (ts.getD q (0, 0, 0, 0)).2.2.1 (ts.getD q (0, 0, 0, 0)).2.2.2 != 0)) := hide (by rw [← hp.out])
                        obtain ⟨⟨x1, x2, x3, x5⟩, hxx⟩ : ∃ y, ts.getD q (0, 0, 0, 0) = y := ⟨_, rfl⟩
                        rw [hxx] at a0 a1 a2 a3 hpq
                        dsimp only at hpq a0 a1 a2 a3
                        have htbr : tb < w3.heap.size := by omega
                        have hq0 : (0 : Int) ≤ (q : Int) := by omega
                        have hq1 : (q : Int) < (nt : Int) := by omega
                        have hF : FCr gb xb tb 4 (tof + q * 4) d sl b m (.slice (some ⟨tb, tof, none⟩) nt c4) x1 x2 x3 x5 w3 := ⟨t0, t1, t2, t3, s4, a0, a1, a2, a3⟩
                        have hFd := hF.drew
                        have hrefl := Below.refl w3.heap.size w3
                        obtain ⟨v, hv⟩ : ∃ v, fitsV d sl b m n x1 x2 x3 x5 = v := ⟨_, rfl⟩
                        have hcall := fun (V : World) (hV : Below w3.heap.size w3 V) => (r6Fits_walk d sl b m n x1 x2 x3 x5 V).mono fun _ _ ⟨he, hb⟩ => (⟨he, ext_trans hV hb, hF.later (ext_trans hV hb)⟩ : _ ∧ Below w3.heap.size w3 _ ∧ FCr gb xb tb 4 (tof + q * 4) d sl b m (.slice (some ⟨tb, tof, none⟩) nt c4) x1 x2 x3 x5 _)
                        rw [hv] at hcall hpq
                        replace hcall := hide hcall
                        clear tc hxx hv ht
                        go_wp2_with fail
                        go_region_held3 (fun W' => W'.cell? ⟨gb, 0, none⟩ = some (.int .i64 d) ∧ W'.cell? ⟨gb, 1, none⟩ = some (.int .i64 sl) ∧ W'.cell? ⟨gb, 2, none⟩ = some (.int .i64 b) ∧ W'.cell? ⟨gb, 3, none⟩ = some (.int .i64 m) ∧ W'.cell? ⟨xb, 4, none⟩ = some (.slice (some ⟨tb, tof, none⟩) nt c4) ∧ W'.cell? ⟨tb, tof + q * 4, none⟩ = some (.int .i64 x1) ∧ W'.cell? ⟨tb, tof + q * 4 + 1, none⟩ = some (.int .i64 x2) ∧ W'.cell? ⟨tb, tof + q * 4 + 2, none⟩ = some (.int .i64 x3) ∧ W'.cell? ⟨tb, tof + q * 4 + 3, none⟩ = some (.int .i64 x5)) (first | ((repeat (first | (with_reducible assumption) | (with_reducible refine FCr.drew ?_))); done)) (first | (go_at_call 35; refine (hcall.out _ (by repeat (first | (with_reducible assumption) | (with_reducible refine ext_drew ?_)))).mono ?_; rintro e w4 ⟨rfl, hb4, hc4⟩))
                        all_goals
                          have hbq4 := ext_trans hbq hb4
                          clear hcall hF hFd hrefl s4 t0 t1 t2 t3 a0 a1 a2 a3 hc4
                          by_cases hv0 : v = 0
                          · subst hv0
                            have hnext : Hid (orTo p (q + 1) = false) := hide (by rw [orTo, hof.out, hpq.out]; rfl)
                            go_wp2
                            go_roundw
                            case rel => exact ⟨q + 1, by omega, by go_num, hnext, by first | exact ext_drew hbq4 | exact hbq4⟩
                            case measure => first | (simp [intOf]; done) | (simp [intOf]; omega)
                          · have hv1 : (v != 0) = true := by simpa using hv0
                            have hend : Hid (roomErr d sl b m n l N = 14) := hide (room_end hx ho.out (by rw [hex.out, if_neg (by simp [hc1]), if_neg (by simp [hc2]), if_neg (by omega), if_neg (by omega), if_neg (by omega), if_neg (by omega), if_neg (by simp), if_pos (orTo_hit (k := q) (by rw [hpq.out]; exact hv1) nt hqk)]) (by decide) hlt)
                            replace hv0 := hide hv0
                            go_wp2
                            go_ret
                            exact ⟨by rw [hend.out]; rfl, by first | exact ext_trans hbw (ext_trans hb18 (ext_drew hbq4)) | exact ext_trans hbw (ext_trans hb18 hbq4)⟩
                      · obtain rfl : q = nt := by omega
                        have x8 := cell_later hbq x9
                        have hb28 := ext_trans hb18 hbq
                        have hbw8 := ext_trans hbw hb28
                        have hLr := hL1.later (ext_trans hbr hb28)
                        clear ht y0 y1 y2 y3 x9 x4 t0 t1 t2 t3 hbq hb18
                        go_wp2_with fail
                        clear s4
                        go_loopw [10] (fun v wx => ∃ k : Nat, k ≤ j ∧ v = .int .i64 k ∧ Hid (¬ z ∈ (codesR l).take k) ∧ Below w3.heap.size w3 wx) (fun v _ => j - (intOf v).toNat)
                        case atStart => exact ⟨0, Nat.zero_le _, rfl, hide (by simp), Below.refl _ _⟩
                        case round =>
                          obtain ⟨k, hk, rfl, hnm, hbk⟩ := hrel
                          rename World => w4
                          have u8 := cell_later hbk x8
                          have hxk : xb < w4.heap.size := World.block_lt_of_cell? _ _ u8
                          by_cases hkj : k < j
                          · obtain ⟨y, hy⟩ : ∃ y, l[k]? = some y := ⟨_, List.getElem?_eq_getElem (by rw [hN.out]; omega)⟩
                            obtain ⟨rb', off', _, _, _, _, e', -, -, ⟨k0, -⟩, -⟩ := (hLr.later hbk).room hy
                            injection e' with e'
                            injection e' with e1 e2
                            subst e1 e2
                            have hsy := codesR_snoc hy
                            have hk0 : (0 : Int) ≤ (k : Int) := by omega
                            have hk1 : (k : Int) < (N : Int) := by omega
                            have hk2 : (k : Int) < (j : Int) := by omega
                            dsimp only at k0
                            obtain ⟨yz, hyz⟩ : ∃ yz, y.1 = yz := ⟨_, rfl⟩
                            rw [hyz] at k0 hsy
                            clear hy hyz
                            by_cases hzy : yz.toList = z.toList
                            · have hbe : (yz.toList == z.toList) = true := by rw [hzy]; simp
                              have hmem : z ∈ (codesR l).take j := by
                                have e : yz = z := met_inj (by rw [← toList_dataL, ← toList_dataL]; exact hzy)
                                have h1 : z ∈ (codesR l).take (k + 1) := by rw [hsy, e]; simp
                                have h2 : (codesR l).take (k + 1) = ((codesR l).take j).take (k + 1) := by rw [List.take_take]; congr 1; omega
                                rw [h2] at h1
                                exact List.mem_of_mem_take h1
                              have hend : Hid (roomErr d sl b m n l N = 11) := hide (room_end hx ho.out (by rw [hex.out, if_neg (by simp [hc1]), if_neg (by simp [hc2]), if_neg (by omega), if_neg (by omega), if_neg (by omega), if_neg (by omega), if_neg (by simp), if_neg (by rw [hof.out]; simp), if_pos (idx_memR.2 hmem)]) (by decide) hlt)
                              clear hx hex hsy hmem hzy
                              go_upto_region 25 with fail
                              go_quiet (fail)
                              go_wp2_with fail
                              go_ret
                              exact ⟨by rw [hend.out]; rfl, ext_trans hbw8 (ext_drewN hbk _)⟩
                            · have hbe : (yz.toList == z.toList) = false := by simp [hzy]
                              have hnm2 : Hid (¬ z ∈ (codesR l).take (k + 1)) := hide (by
                                rw [hsy, List.mem_append]
                                rintro (h | h)
                                · exact hnm.out h
                                · simp at h; exact hzy (by rw [h]))
                              clear hsy
                              go_upto_region 25 with fail
                              go_quiet (fail)
                              go_wp2_with fail
                              go_roundw
                              case rel => exact ⟨k + 1, by omega, by go_num, hnm2, ext_drewN hbk _⟩
                              case measure => first | (simp [intOf]; done) | (simp [intOf]; omega)
                          · obtain rfl : k = j := by omega
                            have hnx : Hid (roomErr d sl b m n l (k + 1) = 0) := hide (room_on hx ho.out (by rw [hex.out, if_neg (by simp [hc1]), if_neg (by simp [hc2]), if_neg (by omega), if_neg (by omega), if_neg (by omega), if_neg (by omega), if_neg (by simp), if_neg (by rw [hof.out]; simp), if_neg (fun h => hnm.out (idx_memR.1 h))]))
                            clear hx hex hsn
                            go_wp2_with fail
                            go_roundw
                            case rel => exact ⟨k + 1, by omega, by go_num, hnx, ext_trans hbr (ext_trans hb28 hbk)⟩
                            case measure => first | (simp [intOf]; done) | (simp [intOf]; omega)
        · obtain rfl : j = N := by omega
          go_wp2
          go_ret
          exact ⟨by rw [ho.out]; rfl, ext_trans hb hbr⟩
end Go.Proofs.YtnbcaklnpflihaaGreatDoor
