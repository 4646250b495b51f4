/- Walk of roomfile.Valid. Conditions: the rooms' cells. Walk of slices.ContainsFunc at rooms, with the closure of roomfile.Lines' reading. Conditions: the rooms' cells. -/
import Derived.Test.YtnbcaklnpflihaaGreatDoorKROneP
import Derived.Test.YtnbcaklnpflihaaGreatDoorKMetP
import Derived.Test.YtnbcaklnpflihaaGreatDoorKValB
import Derived.Test.YtnbcaklnpflihaaGreatDoorKStaffB
namespace Go.Proofs.YtnbcaklnpflihaaGreatDoor
open Go.RowKit
set_option maxRecDepth 100000

theorem room_end {d sl b m n : Int} {l : List Room} {j N e : Nat} {x : Room} (hx : l[j]? = some x) (h0 : roomErr d sl b m n l j = 0) (he : roomEx d sl b m n x ((codesR l).take j) = e) (hne : e ≠ 0) (hj : j < N) : roomErr d sl b m n l N = e := by
  have hE : roomE d sl b m n l j = e := by unfold roomE; rw [hx]; exact he
  rw [roomErr_hit h0 (by rw [hE]; exact hne) N hj, hE]
theorem room_on {d sl b m n : Int} {l : List Room} {j : Nat} {x : Room} (hx : l[j]? = some x) (h0 : roomErr d sl b m n l j = 0) (he : roomEx d sl b m n x ((codesR l).take j) = 0) : roomErr d sl b m n l (j + 1) = 0 := by
  have hE : roomE d sl b m n l j = 0 := by unfold roomE; rw [hx]; exact he
  rw [roomErr_next h0, hE]
theorem codesR_snoc {l : List Room} {j : Nat} {x : Room} (hx : l[j]? = some x) : (codesR l).take (j + 1) = (codesR l).take j ++ [x.1] := by
  have e : (codesR l)[j]? = some x.1 := by unfold codesR; rw [List.getElem?_map, hx]; rfl
  rw [List.take_add_one, e]; rfl
set_option maxHeartbeats 8000000 in
theorem rfValid_walk (A : Option Addr) (l : List Room) (cap : Nat) (d sl b m n : Int) (w : World) (hL : At kRoom AnyB w A l) :
    Calls Tryz.prog 12 #[.slice A l.length cap, .agg #[.int .i64 d, .int .i64 sl, .int .i64 b, .int .i64 m], .int .i64 n] w fun e w' => e = .returned (.int .i64 (validR d sl b m n l)) ∧ Below w.heap.size w w' := by
  have hb0 : Below w.heap.size w (w.alloc (.cells #[.int .i64 d, .int .i64 sl, .int .i64 b, .int .i64 m] 24)) := (by repeat (first | exact Below.refl _ _ | refine ext_alloc ?_ _ | refine ext_drewN ?_ _ | refine ext_drew ?_ | refine ext_trans ?_ (by assumption)))
  cases hw : weekB d sl b m n
  · have hv : validR d sl b m n l = 1 := by unfold validR; rw [if_pos hw]
    rw [hv]
    clear hv hL
    go_enter Tryz.func12, Tryz.ntmps12
    go_wp2_with fail
    refine (tgWeek_walk d sl b m n _).mono ?_
    rintro e w1 ⟨rfl, hb1⟩
    rw [hw]
    have hb := ext_trans hb0 hb1
    clear hb0 hb1
    go_wp2
    go_ret
    exact ⟨rfl, hb⟩
  · have hv : validR d sl b m n l = if 16 < l.length then 2 else roomErr d sl b m n l l.length := by unfold validR; rw [if_neg (by rw [hw]; simp)]
    obtain ⟨N, hN⟩ : ∃ N, l.length = N := ⟨_, rfl⟩
    rw [hv]
    rw [hN]
    by_cases h16 : 16 < N
    · rw [if_pos h16]
      clear hv hL
      go_enter Tryz.func12, Tryz.ntmps12
      go_wp2_with fail
      refine (tgWeek_walk d sl b m n _).mono ?_
      rintro e w1 ⟨rfl, hb1⟩
      rw [hw]
      have hb := ext_trans hb0 hb1
      clear hb0 hb1
      go_wp2
      go_ret
      exact ⟨rfl, hb⟩
    · rw [if_neg h16]
      replace hN := hide hN
      clear hv
      have hmm := @run_makeMap Tryz.prog
      go_enter Tryz.func12, Tryz.ntmps12
      go_wp2_with fail
      refine (tgWeek_walk d sl b m n _).mono ?_
      rintro e w1 ⟨rfl, hb1⟩
      rw [hw]
      have hb := ext_trans hb0 hb1
      have hL1 := hL.later hb
      obtain ⟨g0, g1, g2, g3⟩ := (Box4.new w 24 (.int .i64 d) (.int .i64 sl) (.int .i64 b) (.int .i64 m)).later hb1
      have hgl : w.heap.size < w1.heap.size := World.block_lt_of_cell? _ _ g0
      obtain ⟨gb, hgb⟩ : ∃ gb, w.heap.size = gb := ⟨_, rfl⟩
      rw [hgb] at g0 g1 g2 g3 hgl
      replace hgb := hide hgb
      clear hb0 hb1 hL
      go_wp2_with fail
      rw [hgb.out]
      have hm1 := met_made w1
      clear hmm
      go_loopw [22] (fun i wr => ∃ j : Nat, j ≤ N ∧ i = .int .i64 j ∧ Hid (roomErr d sl b m n l j = 0) ∧ MetAt wr w1.heap.size ((codesR l).take j) ∧ Below w1.heap.size w1 wr) (fun i _ => N - (intOf i).toNat)
      case atStart => exact ⟨0, Nat.zero_le _, rfl, hide rfl, hm1, ext_alloc (Below.refl _ _) _⟩
      case round =>
        obtain ⟨j, hj, rfl, ho, hmet, hbr⟩ := hrel
        by_cases hlt : j < N
        · obtain ⟨x, hx⟩ : ∃ x, l[j]? = some x := ⟨_, List.getElem?_eq_getElem (by rw [hN.out]; exact hlt)⟩
          obtain ⟨rb, off, A3, c3, A4, c4, rfl, -, hrb, ⟨q0, q1, q2, q3, q4⟩, l3, l4, a3, a4⟩ := (hL1.later hbr).room hx
          have hsn := codesR_snoc hx
          obtain ⟨z, bl, sn, fs, ts⟩ := x
          dsimp only at q0 q1 q2 q3 q4 l3 l4 a3 a4 hsn
          have hz := hbr.size
          have r0 := cell_later hbr g0
          have r1 := cell_later hbr g1
          have r2 := cell_later hbr g2
          have r3 := cell_later hbr g3
          have hbw := ext_trans hb hbr
          have hgr : gb < wr.heap.size := by omega
          have hbx : Below wr.heap.size wr (wr.alloc (.cells #[.string z, .string bl, .int .i64 sn, .slice A3 fs.length c3, .slice A4 ts.length c4] 47)) := ext_alloc (Below.refl _ _) _
          have hfa := fun (hl : fs.length ≤ 9223372036854775807) (V : World) (hV : Below wr.heap.size wr V) => fasc_walk A3 fs c3 V hl (a3.later hV)
          have hfit := fun (hl : ts.length ≤ 9223372036854775807) (V : World) (hV : Below wr.heap.size wr V) => fit_walk A4 ts.length c4 (fun q => ts.getD q (0, 0, 0, 0)) d sl b m n V hl ((cells_of_at (a4.later hV).lo))
          have hex : roomEx d sl b m n (z, bl, sn, fs, ts) ((codesR l).take j) = if codeB z = false then 10 else if codeB bl = false then 10 else if sn < 1 then 3 else if 9999 < sn then 3 else if 8 < fs.length then 2 else if 24 < ts.length then 2 else if ascTo fs fs.length = false then 10 else if orTo (fun j => fitsV d sl b m n (ts.getD j (0, 0, 0, 0)).1 (ts.getD j (0, 0, 0, 0)).2.1 (ts.getD j (0, 0, 0, 0)).2.2.1 (ts.getD j (0, 0, 0, 0)).2.2.2 != 0) ts.length = true then 14 else if 0 ≤ idxS z ((codesR l).take j) then 11 else 0 := rfl
          obtain ⟨fa, hfae⟩ : ∃ fa, ascTo fs fs.length = fa := ⟨_, rfl⟩
          obtain ⟨ff, hffe⟩ : ∃ ff, orTo (fun k => fitsV d sl b m n (ts.getD k (0, 0, 0, 0)).1 (ts.getD k (0, 0, 0, 0)).2.1 (ts.getD k (0, 0, 0, 0)).2.2.1 (ts.getD k (0, 0, 0, 0)).2.2.2 != 0) ts.length = ff := ⟨_, rfl⟩
          rw [hfae] at hfa hex
          rw [hffe] at hfit hex
          obtain ⟨nf, hnf⟩ : ∃ nf, fs.length = nf := ⟨_, rfl⟩
          obtain ⟨nt, hnt⟩ : ∃ nt, ts.length = nt := ⟨_, rfl⟩
          rw [hnf] at hfa hex l3 q3 hbx
          rw [hnt] at hfit hex l4 q4 hbx
          have hj0 : (0 : Int) ≤ (j : Int) := by omega
          have hj1 : (j : Int) < (N : Int) := by omega
          have cv := hide (fun (s : ByteArray) (V : World) => cvalid_walk s V)
          replace hfa := hide hfa
          replace hfit := hide hfit
          replace hex := hide hex
          replace hsn := hide hsn
          replace hbx := hide hbx
          clear a3 a4 hfae hffe hnf hnt l3 l4
          cases hc1 : codeB z with
          | false =>
            have hend : Hid (roomErr d sl b m n l N = 10) := hide (room_end hx ho.out (by rw [hex.out, if_pos hc1]) (by decide) hlt)
            clear hx hex hfa hfit
            go_wp2_with (go_at_call 30; (with_reducible refine (cv.out _ _).mono ?_); rintro e w7 ⟨rfl, rfl⟩; rw [hc1])
            go_ret
            exact ⟨by rw [hend.out]; rfl, ext_trans hbw (by repeat (first | exact Below.refl _ _ | refine ext_alloc ?_ _ | refine ext_drewN ?_ _ | refine ext_drew ?_ | refine ext_trans ?_ (by assumption)))⟩
          | true =>
          cases hc2 : codeB bl with
          | false =>
            have hend : Hid (roomErr d sl b m n l N = 10) := hide (room_end hx ho.out (by rw [hex.out, if_neg (by simp [hc1]), if_pos hc2]) (by decide) hlt)
            clear hx hex hfa hfit
            go_wp2_with (go_at_call 30; (with_reducible refine (cv.out _ _).mono ?_); rintro e w7 ⟨rfl, rfl⟩; first | rw [hc1] | rw [hc2])
            go_ret
            exact ⟨by rw [hend.out]; rfl, ext_trans hbw (by repeat (first | exact Below.refl _ _ | refine ext_alloc ?_ _ | refine ext_drewN ?_ _ | refine ext_drew ?_ | refine ext_trans ?_ (by assumption)))⟩
          | true =>
          by_cases h1 : sn < 1
          · have hend : Hid (roomErr d sl b m n l N = 3) := hide (room_end hx ho.out (by rw [hex.out, if_neg (by simp [hc1]), if_neg (by simp [hc2]), if_pos (by omega)]) (by decide) hlt)
            clear hx hex hfa hfit
            go_wp2_with (go_at_call 30; (with_reducible refine (cv.out _ _).mono ?_); rintro e w7 ⟨rfl, rfl⟩; first | rw [hc1] | rw [hc2])
            go_ret
            exact ⟨by rw [hend.out]; rfl, ext_trans hbw (by repeat (first | exact Below.refl _ _ | refine ext_alloc ?_ _ | refine ext_drewN ?_ _ | refine ext_drew ?_ | refine ext_trans ?_ (by assumption)))⟩
          · by_cases h2 : 9999 < sn
            · have hend : Hid (roomErr d sl b m n l N = 3) := hide (room_end hx ho.out (by rw [hex.out, if_neg (by simp [hc1]), if_neg (by simp [hc2]), if_neg (by omega), if_pos (by omega)]) (by decide) hlt)
              clear hx hex hfa hfit
              go_wp2_with (go_at_call 30; (with_reducible refine (cv.out _ _).mono ?_); rintro e w7 ⟨rfl, rfl⟩; first | rw [hc1] | rw [hc2])
              go_ret
              exact ⟨by rw [hend.out]; rfl, ext_trans hbw (by repeat (first | exact Below.refl _ _ | refine ext_alloc ?_ _ | refine ext_drewN ?_ _ | refine ext_drew ?_ | refine ext_trans ?_ (by assumption)))⟩
            · by_cases h3 : 8 < nf
              · have h3i : (8 : Int) < (nf : Int) := by omega
                have hend : Hid (roomErr d sl b m n l N = 2) := hide (room_end hx ho.out (by rw [hex.out, if_neg (by simp [hc1]), if_neg (by simp [hc2]), if_neg (by omega), if_neg (by omega), if_pos (by omega)]) (by decide) hlt)
                clear hx hex hfa hfit
                go_wp2_with (go_at_call 30; (with_reducible refine (cv.out _ _).mono ?_); rintro e w7 ⟨rfl, rfl⟩; first | rw [hc1] | rw [hc2])
                go_ret
                exact ⟨by rw [hend.out]; rfl, ext_trans hbw (by repeat (first | exact Below.refl _ _ | refine ext_alloc ?_ _ | refine ext_drewN ?_ _ | refine ext_drew ?_ | refine ext_trans ?_ (by assumption)))⟩
              · have h3i : ¬ (8 : Int) < (nf : Int) := by omega
                by_cases h4 : 24 < nt
                · have h4i : (24 : Int) < (nt : Int) := by omega
                  have hend : Hid (roomErr d sl b m n l N = 2) := hide (room_end hx ho.out (by rw [hex.out, if_neg (by simp [hc1]), if_neg (by simp [hc2]), if_neg (by omega), if_neg (by omega), if_neg (by omega), if_pos (by omega)]) (by decide) hlt)
                  clear hx hex hfa hfit
                  go_wp2_with (go_at_call 30; (with_reducible refine (cv.out _ _).mono ?_); rintro e w7 ⟨rfl, rfl⟩; first | rw [hc1] | rw [hc2])
                  go_ret
                  exact ⟨by rw [hend.out]; rfl, ext_trans hbw (by repeat (first | exact Below.refl _ _ | refine ext_alloc ?_ _ | refine ext_drewN ?_ _ | refine ext_drew ?_ | refine ext_trans ?_ (by assumption)))⟩
                · have h4i : ¬ (24 : Int) < (nt : Int) := by omega
                  replace hfa := hide (hfa.out (by omega))
                  replace hfit := hide (hfit.out (by omega))
                  have x0 : (wr.alloc (.cells #[.string z, .string bl, .int .i64 sn, .slice A3 nf c3, .slice A4 nt c4] 47)).cell? ⟨wr.heap.size, 0, none⟩ = some (.string z) := by simp
                  cases fa with
                  | false =>
                    have hend : Hid (roomErr d sl b m n l N = 10) := hide (room_end hx ho.out (by rw [hex.out, if_neg (by simp [hc1]), if_neg (by simp [hc2]), if_neg (by omega), if_neg (by omega), if_neg (by omega), if_neg (by omega), if_pos rfl]) (by decide) hlt)
                    clear hx hex hfit x0
                    go_wp2_with (first | (go_at_call 30; (with_reducible refine (cv.out _ _).mono ?_); rintro e w7 ⟨rfl, rfl⟩; first | rw [hc1] | rw [hc2]) | (go_at_call 31; (with_reducible refine (hfa.out _ hbx.out).mono ?_); rintro e w8 ⟨rfl, rfl⟩))
                    all_goals first | (exfalso; omega) | (go_ret; exact ⟨by rw [hend.out]; rfl, ext_trans hbw (by repeat (first | exact Below.refl _ _ | refine ext_alloc ?_ _ | refine ext_drewN ?_ _ | refine ext_drew ?_ | refine ext_trans ?_ (by assumption)))⟩)
                  | true =>
                    have hgr1 : gb < wr.heap.size + 1 := by omega
                    go_wp2_with (first | (go_at_call 30; (with_reducible refine (cv.out _ _).mono ?_); rintro e w7 ⟨rfl, rfl⟩; first | rw [hc1] | rw [hc2]) | (go_at_call 31; (with_reducible refine (hfa.out _ hbx.out).mono ?_); rintro e w8 ⟨rfl, rfl⟩))
                    all_goals try (exfalso; omega)
                    refine (hfit.out _ hbx.out).mono ?_
                    rintro e w9 ⟨rfl, hb9⟩
                    have hb19 := ext_trans hbx.out hb9
                    have x9 := cell_later hb9 x0
                    have hm9 := hmet.later hb19
                    have hsz := code_size hc1
                    clear hfit hfa cv x0 q0 q1 q2 q3 q4 r0 r1 r2 r3 hbx
                    cases ff with
                    | true =>
                      have hend : Hid (roomErr d sl b m n l N = 14) := hide (room_end hx ho.out (by rw [hex.out, if_neg (by simp [hc1]), if_neg (by simp [hc2]), if_neg (by omega), if_neg (by omega), if_neg (by omega), if_neg (by omega), if_neg (by simp), if_pos rfl]) (by decide) hlt)
                      clear hx hex
                      go_wp2
                      go_ret
                      exact ⟨by rw [hend.out]; rfl, ext_trans hbw hb19⟩
                    | false =>
                      have hlk := met_look hm9 z (by omega)
                      by_cases hid : 0 ≤ idxS z ((codesR l).take j)
                      · have hend : Hid (roomErr d sl b m n l N = 11) := hide (room_end hx ho.out (by rw [hex.out, if_neg (by simp [hc1]), if_neg (by simp [hc2]), if_neg (by omega), if_neg (by omega), if_neg (by omega), if_neg (by omega), if_neg (by simp), if_neg (by simp), if_pos hid]) (by decide) hlt)
                        rw [decide_eq_true hid] at hlk
                        clear hx hex hid
                        go_wp2
                        go_ret
                        exact ⟨by rw [hend.out]; rfl, ext_trans hbw hb19⟩
                      · have hnx : Hid (roomErr d sl b m n l (j + 1) = 0) := hide (room_on hx ho.out (by rw [hex.out, if_neg (by simp [hc1]), if_neg (by simp [hc2]), if_neg (by omega), if_neg (by omega), if_neg (by omega), if_neg (by omega), if_neg (by simp), if_neg (by simp), if_neg hid]))
                        have hml : ((codesR l).take j).length ≤ 1000 := by rw [List.length_take]; omega
                        rw [decide_eq_false hid] at hlk
                        clear hx hex hid
                        go_wp2_with (at_mapUpdate; refine wpList_met rfl _ _ _ rfl rfl hm9 hml rfl (by omega) rfl ?_; intro w10 hm10 hg10)
                        have hb10 : Below w1.heap.size w1 w10 := Below.grown (ext_trans hbr hb19) hg10 (ext_trans hbr hb19).size (fun y e => by injection e with e; omega)
                        rw [← hsn.out] at hm10
                        go_roundw
                        case rel => exact ⟨j + 1, by omega, by go_num, hnx, hm10, hb10⟩
                        case measure => first | (simp [intOf]; done) | (simp [intOf]; omega)
        · obtain rfl : j = N := by omega
          go_wp2
          go_ret
          exact ⟨by rw [ho.out]; rfl, ext_trans hb hbr⟩
end Go.Proofs.YtnbcaklnpflihaaGreatDoor

namespace Go.Proofs.YtnbcaklnpflihaaGreatDoor
open Go.RowKit
set_option maxRecDepth 100000

theorem idx_memS {z : ByteArray} {xs : List ByteArray} : 0 ≤ idxS z xs ↔ z ∈ xs := by
  constructor
  · intro h
    apply Classical.byContradiction
    intro hz
    rw [idxS_none (fun y hy => by rw [toList_dataL, toList_dataL]; exact beq_false_of_ne fun e => hz (dat_inj e ▸ hy))] at h
    exact absurd h (by decide)
  · intro hz
    apply Classical.byContradiction
    intro h
    have hall : ∀ n, n ≤ xs.length → ∀ y ∈ xs.take n, (y.toList == z.toList) = false := by
      intro n
      induction n with
      | zero => intro _ y hy; simp at hy
      | succ n ih =>
        intro hn y hy
        have hx : xs[n]? = some xs[n] := List.getElem?_eq_getElem (by omega)
        cases hq : (xs[n].toList == z.toList) with
        | false => exact take_miss hx (ih (by omega)) hq y hy
        | true => rw [idxS_hit hx (ih (by omega)) hq] at h; exact absurd (by omega) h
    have := hall xs.length (Nat.le_refl _) z (by rw [List.take_length]; exact hz)
    simp at this
set_option maxHeartbeats 1000000 in
theorem rhas1_walk (q : Five) (t : ByteArray) (x : Nat) (w : World) (hc : w.cell? ⟨x, 0, none⟩ = some (.string t)) :
    Calls Tryz.prog 47 #[.agg #[.string q.z, .string q.bl, .int .i64 q.n, .slice q.A3 q.n3 q.c3, .slice q.A4 q.n4 q.c4], .pointer (some ⟨x, 0, none⟩)] w fun e w' => e = .returned (.bool (q.z.toList == t.toList)) ∧ Below w.heap.size w w' := by
  have hlt := World.block_lt_of_cell? _ _ hc
  go_enter Tryz.func47, Tryz.ntmps47
  go_wp2
  go_ret
  exact ⟨rfl, (by repeat (first | exact Below.refl _ _ | refine ext_alloc ?_ _ | refine ext_drewN ?_ _ | refine ext_drew ?_ | refine ext_trans ?_ (by assumption)))⟩
def IdxRm (l : List Room) (t : ByteArray) (w : World) (e : Ending) (w' : World) : Prop := ∃ r : Int, e = .returned (.int .i64 r) ∧ decide (0 ≤ r) = decide (0 ≤ idxS t (codesR l)) ∧ Below w.heap.size w w'
set_option maxHeartbeats 2000000 in
theorem idxRm_walk (A : Option Addr) (l : List Room) (c : Nat) (t : ByteArray) (x : Nat) (w : World) (hn : l.length ≤ 9223372036854775807) (hL : At kRoom AnyB w A l) (hc : w.cell? ⟨x, 0, none⟩ = some (.string t)) :
    Calls Tryz.prog 83 #[.slice A l.length c, .func (.func 47) #[] #[.pointer (some ⟨x, 0, none⟩)]] w fun e w' => IdxRm l t w e w' := by
  have eg : ∀ args w, (callFunc 47 args).run Tryz.prog w = .ok (.enter 47 args) w := enters_of Tryz.func47 (by kernel_rfl) rfl
  obtain ⟨n, hnn⟩ : ∃ n, l.length = n := ⟨_, rfl⟩
  rw [hnn] at hn ⊢
  replace hnn := hide hnn
  go_enter Tryz.func83, Tryz.ntmps83
  go_wp2
  go_loopw [5, 8] (fun _ i wr => ∃ j : Nat, j ≤ n ∧ i = .int .i64 j ∧ Hid (¬ t ∈ (codesR l).take j) ∧ Below w.heap.size w wr) (fun _ i _ => n - (intOf i).toNat)
  case atStart => exact ⟨0, Nat.zero_le _, rfl, hide (by simp), Below.refl _ _⟩
  case round =>
    obtain ⟨j, hj, rfl, ho, hb⟩ := hrel
    by_cases hlt : j < n
    · obtain ⟨y, hy⟩ : ∃ y, l[j]? = some y := ⟨_, List.getElem?_eq_getElem (by rw [hnn.out]; exact hlt)⟩
      have hsn := codesR_snoc hy
      obtain ⟨rb, off, A3, c3, A4, c4, rfl, -, hrb, ⟨q0, q1, q2, q3, q4⟩, -, -, -, -⟩ := (hL.later hb).room hy
      have hcall := rhas1_walk ⟨y.1, y.2.1, y.2.2.1, A3, y.2.2.2.1.length, c3, A4, y.2.2.2.2.length, c4⟩ t x wr (cell_later hb hc)
      obtain ⟨z, bl, sn, fs, ts⟩ := y
      dsimp only at q0 q1 q2 q3 q4 hsn hcall
      obtain ⟨nf, hnf⟩ : ∃ nf, fs.length = nf := ⟨_, rfl⟩
      obtain ⟨nt, hnt⟩ : ∃ nt, ts.length = nt := ⟨_, rfl⟩
      rw [hnf] at q3 hcall
      rw [hnt] at q4 hcall
      have hj0 : (0 : Int) ≤ (j : Int) := by omega
      have hj1 : (j : Int) < (n : Int) := by omega
      clear hy hnf hnt hc
      by_cases hzt : z.toList = t.toList
      · have hbe : (z.toList == t.toList) = true := by rw [hzt]; simp
        rw [hbe] at hcall
        have hmem : Hid (0 ≤ idxS t (codesR l)) := hide (idx_memS.2 (by
          have e : z = t := met_inj (by rw [← toList_dataL, ← toList_dataL]; exact hzt)
          have h1 : t ∈ (codesR l).take (j + 1) := by rw [hsn, e]; simp
          exact List.mem_of_mem_take h1))
        clear hzt hsn hbe
        go_wp2_with (go_at_fn 47; refine hcall.mono ?_; rintro e w' ⟨rfl, hb'⟩)
        go_ret
        exact ⟨j, rfl, by rw [decide_eq_true hmem.out]; simp, ext_trans hb hb'⟩
      · have hbe : (z.toList == t.toList) = false := by simp [hzt]
        rw [hbe] at hcall
        have hnm : Hid (¬ t ∈ (codesR l).take (j + 1)) := hide (by
          rw [hsn, List.mem_append]
          rintro (h | h)
          · exact ho.out h
          · simp at h; exact hzt (by rw [h]))
        clear hzt hsn hbe
        go_wp2_with (go_at_fn 47; refine hcall.mono ?_; rintro e w' ⟨rfl, hb'⟩)
        go_roundw
        case rel => exact ⟨j + 1, by omega, by go_num, hnm, ext_trans hb hb'⟩
        case measure => simp [intOf]; omega
    · obtain rfl : j = n := by omega
      have hno : Hid (¬ 0 ≤ idxS t (codesR l)) := hide (fun h => ho.out (by
        have e : (codesR l).take j = codesR l := List.take_of_length_le (by unfold codesR; rw [List.length_map, hnn.out]; exact Nat.le_refl _)
        rw [e]; exact idx_memS.1 h))
      go_wp2
      go_ret
      exact ⟨-1, rfl, by have := hno.out; simp; omega, hb⟩
set_option maxHeartbeats 2000000 in
theorem rhas_walk (A : Option Addr) (l : List Room) (c : Nat) (t : ByteArray) (x : Nat) (w : World) (hn : l.length ≤ 9223372036854775807) (hL : At kRoom AnyB w A l) (hc : w.cell? ⟨x, 0, none⟩ = some (.string t)) :
    Calls Tryz.prog 46 #[.slice A l.length c, .func (.func 47) #[] #[.pointer (some ⟨x, 0, none⟩)]] w fun e w' => e = .returned (.bool (decide (0 ≤ idxS t (codesR l)))) ∧ Below w.heap.size w w' := by
  have hcall := idxRm_walk A l c t x w hn hL hc
  obtain ⟨n, hnn⟩ : ∃ n, l.length = n := ⟨_, rfl⟩
  rw [hnn] at hcall ⊢
  clear hL hc hnn
  go_enter Tryz.func46, Tryz.ntmps46
  go_wp2_with fail
  refine hcall.mono ?_
  rintro e w' ⟨r, rfl, hr, hb⟩
  replace hr := hide hr
  go_wp2
  go_ret
  exact ⟨ret_bool hr.out, hb⟩
end Go.Proofs.YtnbcaklnpflihaaGreatDoor
