/- Walk of roomfile.Valid. Conditions: the rooms' cells. Walk of roomfile.Write. Conditions: the rooms' cells; what the program's variables hold. -/
import Derived.Test.YtnbcaklnpflihaaGreatDoorKROneP
import Derived.Test.YtnbcaklnpflihaaGreatDoorKMetP
import Derived.Test.YtnbcaklnpflihaaGreatDoorKValB
import Derived.Test.YtnbcaklnpflihaaGreatDoorKDecN
import Derived.Test.YtnbcaklnpflihaaGreatDoorKWriteT
import Derived.Test.YtnbcaklnpflihaaGreatDoorKTimA
namespace Go.Proofs.YtnbcaklnpflihaaGreatDoor
open Go.RowKit
set_option maxRecDepth 100000

theorem room_end {d sl b m n : Int} {l : List Room} {j N e : Nat} {x : Room} (hx : l[j]? = some x) (h0 : roomErr d sl b m n l j = 0) (he : roomEx d sl b m n x ((codesR l).take j) = e) (hne : e ≠ 0) (hj : j < N) : roomErr d sl b m n l N = e := by
  have hE : roomE d sl b m n l j = e := by unfold roomE; rw [hx]; exact he
  rw [roomErr_hit h0 (by rw [hE]; exact hne) N hj, hE]
theorem room_on {d sl b m n : Int} {l : List Room} {j : Nat} {x : Room} (hx : l[j]? = some x) (h0 : roomErr d sl b m n l j = 0) (he : roomEx d sl b m n x ((codesR l).take j) = 0) : roomErr d sl b m n l (j + 1) = 0 := by
  have hE : roomE d sl b m n l j = 0 := by unfold roomE; rw [hx]; exact he
  rw [roomErr_next h0, hE]
theorem codesR_snoc {l : List Room} {j : Nat} {x : Room} (hx : l[j]? = some x) : (codesR l).take (j + 1) = (codesR l).take j ++ [x.1] := by
  have e : (codesR l)[j]? = some x.1 := by unfold codesR; rw [List.getElem?_map, hx]; rfl
  rw [List.take_add_one, e]; rfl
set_option maxHeartbeats 8000000 in
theorem rfValid_walk (A : Option Addr) (l : List Room) (cap : Nat) (d sl b m n : Int) (w : World) (hL : At kRoom AnyB w A l) :
    Calls Tryz.prog 12 #[.slice A l.length cap, .agg #[.int .i64 d, .int .i64 sl, .int .i64 b, .int .i64 m], .int .i64 n] w fun e w' => e = .returned (.int .i64 (validR d sl b m n l)) ∧ Below w.heap.size w w' := by
  have hb0 : Below w.heap.size w (w.alloc (.cells #[.int .i64 d, .int .i64 sl, .int .i64 b, .int .i64 m] 24)) := (by repeat (first | exact Below.refl _ _ | refine ext_alloc ?_ _ | refine ext_drewN ?_ _ | refine ext_drew ?_ | refine ext_trans ?_ (by assumption)))
  cases hw : weekB d sl b m n
  · have hv : validR d sl b m n l = 1 := by unfold validR; rw [if_pos hw]
    rw [hv]
    clear hv hL
    go_enter Tryz.func12, Tryz.ntmps12
    go_wp2_with fail
    refine (tgWeek_walk d sl b m n _).mono ?_
    rintro e w1 ⟨rfl, hb1⟩
    rw [hw]
    have hb := ext_trans hb0 hb1
    clear hb0 hb1
    go_wp2
    go_ret
    exact ⟨rfl, hb⟩
  · have hv : validR d sl b m n l = if 16 < l.length then 2 else roomErr d sl b m n l l.length := by unfold validR; rw [if_neg (by rw [hw]; simp)]
    obtain ⟨N, hN⟩ : ∃ N, l.length = N := ⟨_, rfl⟩
    rw [hv]
    rw [hN]
    by_cases h16 : 16 < N
    · rw [if_pos h16]
      clear hv hL
      go_enter Tryz.func12, Tryz.ntmps12
      go_wp2_with fail
      refine (tgWeek_walk d sl b m n _).mono ?_
      rintro e w1 ⟨rfl, hb1⟩
      rw [hw]
      have hb := ext_trans hb0 hb1
      clear hb0 hb1
      go_wp2
      go_ret
      exact ⟨rfl, hb⟩
    · rw [if_neg h16]
      replace hN := hide hN
      clear hv
      have hmm := @run_makeMap Tryz.prog
      go_enter Tryz.func12, Tryz.ntmps12
      go_wp2_with fail
      refine (tgWeek_walk d sl b m n _).mono ?_
      rintro e w1 ⟨rfl, hb1⟩
      rw [hw]
      have hb := ext_trans hb0 hb1
      have hL1 := hL.later hb
      obtain ⟨g0, g1, g2, g3⟩ := (Box4.new w 24 (.int .i64 d) (.int .i64 sl) (.int .i64 b) (.int .i64 m)).later hb1
      have hgl : w.heap.size < w1.heap.size := World.block_lt_of_cell? _ _ g0
      obtain ⟨gb, hgb⟩ : ∃ gb, w.heap.size = gb := ⟨_, rfl⟩
      rw [hgb] at g0 g1 g2 g3 hgl
      replace hgb := hide hgb
      clear hb0 hb1 hL
      go_wp2_with fail
      rw [hgb.out]
      have hm1 := met_made w1
      clear hmm
      go_loopw [22] (fun i wr => ∃ j : Nat, j ≤ N ∧ i = .int .i64 j ∧ Hid (roomErr d sl b m n l j = 0) ∧ MetAt wr w1.heap.size ((codesR l).take j) ∧ Below w1.heap.size w1 wr) (fun i _ => N - (intOf i).toNat)
      case atStart => exact ⟨0, Nat.zero_le _, rfl, hide rfl, hm1, ext_alloc (Below.refl _ _) _⟩
      case round =>
        obtain ⟨j, hj, rfl, ho, hmet, hbr⟩ := hrel
        by_cases hlt : j < N
        · obtain ⟨x, hx⟩ : ∃ x, l[j]? = some x := ⟨_, List.getElem?_eq_getElem (by rw [hN.out]; exact hlt)⟩
          obtain ⟨rb, off, A3, c3, A4, c4, rfl, -, hrb, ⟨q0, q1, q2, q3, q4⟩, l3, l4, a3, a4⟩ := (hL1.later hbr).room hx
          have hsn := codesR_snoc hx
          obtain ⟨z, bl, sn, fs, ts⟩ := x
          dsimp only at q0 q1 q2 q3 q4 l3 l4 a3 a4 hsn
          have hz := hbr.size
          have r0 := cell_later hbr g0
          have r1 := cell_later hbr g1
          have r2 := cell_later hbr g2
          have r3 := cell_later hbr g3
          have hbw := ext_trans hb hbr
          have hgr : gb < wr.heap.size := by omega
          have hbx : Below wr.heap.size wr (wr.alloc (.cells #[.string z, .string bl, .int .i64 sn, .slice A3 fs.length c3, .slice A4 ts.length c4] 47)) := ext_alloc (Below.refl _ _) _
          have hfa := fun (hl : fs.length ≤ 9223372036854775807) (V : World) (hV : Below wr.heap.size wr V) => fasc_walk A3 fs c3 V hl (a3.later hV)
          have hfit := fun (hl : ts.length ≤ 9223372036854775807) (V : World) (hV : Below wr.heap.size wr V) => fit_walk A4 ts.length c4 (fun q => ts.getD q (0, 0, 0, 0)) d sl b m n V hl ((cells_of_at (a4.later hV).lo))
          have hex : roomEx d sl b m n (z, bl, sn, fs, ts) ((codesR l).take j) = if codeB z = false then 10 else if codeB bl = false then 10 else if sn < 1 then 3 else if 9999 < sn then 3 else if 8 < fs.length then 2 else if 24 < ts.length then 2 else if ascTo fs fs.length = false then 10 else if orTo (fun j => fitsV d sl b m n (ts.getD j (0, 0, 0, 0)).1 (ts.getD j (0, 0, 0, 0)).2.1 (ts.getD j (0, 0, 0, 0)).2.2.1 (ts.getD j (0, 0, 0, 0)).2.2.2 != 0) ts.length = true then 14 else if 0 ≤ idxS z ((codesR l).take j) then 11 else 0 := rfl
          obtain ⟨fa, hfae⟩ : ∃ fa, ascTo fs fs.length = fa := ⟨_, rfl⟩
          obtain ⟨ff, hffe⟩ : ∃ ff, orTo (fun k => fitsV d sl b m n (ts.getD k (0, 0, 0, 0)).1 (ts.getD k (0, 0, 0, 0)).2.1 (ts.getD k (0, 0, 0, 0)).2.2.1 (ts.getD k (0, 0, 0, 0)).2.2.2 != 0) ts.length = ff := ⟨_, rfl⟩
          rw [hfae] at hfa hex
          rw [hffe] at hfit hex
          obtain ⟨nf, hnf⟩ : ∃ nf, fs.length = nf := ⟨_, rfl⟩
          obtain ⟨nt, hnt⟩ : ∃ nt, ts.length = nt := ⟨_, rfl⟩
          rw [hnf] at hfa hex l3 q3 hbx
          rw [hnt] at hfit hex l4 q4 hbx
          have hj0 : (0 : Int) ≤ (j : Int) := by omega
          have hj1 : (j : Int) < (N : Int) := by omega
          have cv := hide (fun (s : ByteArray) (V : World) => cvalid_walk s V)
          replace hfa := hide hfa
          replace hfit := hide hfit
          replace hex := hide hex
          replace hsn := hide hsn
          replace hbx := hide hbx
          clear a3 a4 hfae hffe hnf hnt l3 l4
          cases hc1 : codeB z with
          | false =>
            have hend : Hid (roomErr d sl b m n l N = 10) := hide (room_end hx ho.out (by rw [hex.out, if_pos hc1]) (by decide) hlt)
            clear hx hex hfa hfit
            go_wp2_with (go_at_call 30; (with_reducible refine (cv.out _ _).mono ?_); rintro e w7 ⟨rfl, rfl⟩; rw [hc1])
            go_ret
            exact ⟨by rw [hend.out]; rfl, ext_trans hbw (by repeat (first | exact Below.refl _ _ | refine ext_alloc ?_ _ | refine ext_drewN ?_ _ | refine ext_drew ?_ | refine ext_trans ?_ (by assumption)))⟩
          | true =>
          cases hc2 : codeB bl with
          | false =>
            have hend : Hid (roomErr d sl b m n l N = 10) := hide (room_end hx ho.out (by rw [hex.out, if_neg (by simp [hc1]), if_pos hc2]) (by decide) hlt)
            clear hx hex hfa hfit
            go_wp2_with (go_at_call 30; (with_reducible refine (cv.out _ _).mono ?_); rintro e w7 ⟨rfl, rfl⟩; first | rw [hc1] | rw [hc2])
            go_ret
            exact ⟨by rw [hend.out]; rfl, ext_trans hbw (by repeat (first | exact Below.refl _ _ | refine ext_alloc ?_ _ | refine ext_drewN ?_ _ | refine ext_drew ?_ | refine ext_trans ?_ (by assumption)))⟩
          | true =>
          by_cases h1 : sn < 1
          · have hend : Hid (roomErr d sl b m n l N = 3) := hide (room_end hx ho.out (by rw [hex.out, if_neg (by simp [hc1]), if_neg (by simp [hc2]), if_pos (by omega)]) (by decide) hlt)
            clear hx hex hfa hfit
            go_wp2_with (go_at_call 30; (with_reducible refine (cv.out _ _).mono ?_); rintro e w7 ⟨rfl, rfl⟩; first | rw [hc1] | rw [hc2])
            go_ret
            exact ⟨by rw [hend.out]; rfl, ext_trans hbw (by repeat (first | exact Below.refl _ _ | refine ext_alloc ?_ _ | refine ext_drewN ?_ _ | refine ext_drew ?_ | refine ext_trans ?_ (by assumption)))⟩
          · by_cases h2 : 9999 < sn
            · have hend : Hid (roomErr d sl b m n l N = 3) := hide (room_end hx ho.out (by rw [hex.out, if_neg (by simp [hc1]), if_neg (by simp [hc2]), if_neg (by omega), if_pos (by omega)]) (by decide) hlt)
              clear hx hex hfa hfit
              go_wp2_with (go_at_call 30; (with_reducible refine (cv.out _ _).mono ?_); rintro e w7 ⟨rfl, rfl⟩; first | rw [hc1] | rw [hc2])
              go_ret
              exact ⟨by rw [hend.out]; rfl, ext_trans hbw (by repeat (first | exact Below.refl _ _ | refine ext_alloc ?_ _ | refine ext_drewN ?_ _ | refine ext_drew ?_ | refine ext_trans ?_ (by assumption)))⟩
            · by_cases h3 : 8 < nf
              · have h3i : (8 : Int) < (nf : Int) := by omega
                have hend : Hid (roomErr d sl b m n l N = 2) := hide (room_end hx ho.out (by rw [hex.out, if_neg (by simp [hc1]), if_neg (by simp [hc2]), if_neg (by omega), if_neg (by omega), if_pos (by omega)]) (by decide) hlt)
                clear hx hex hfa hfit
                go_wp2_with (go_at_call 30; (with_reducible refine (cv.out _ _).mono ?_); rintro e w7 ⟨rfl, rfl⟩; first | rw [hc1] | rw [hc2])
                go_ret
                exact ⟨by rw [hend.out]; rfl, ext_trans hbw (by repeat (first | exact Below.refl _ _ | refine ext_alloc ?_ _ | refine ext_drewN ?_ _ | refine ext_drew ?_ | refine ext_trans ?_ (by assumption)))⟩
              · have h3i : ¬ (8 : Int) < (nf : Int) := by omega
                by_cases h4 : 24 < nt
                · have h4i : (24 : Int) < (nt : Int) := by omega
                  have hend : Hid (roomErr d sl b m n l N = 2) := hide (room_end hx ho.out (by rw [hex.out, if_neg (by simp [hc1]), if_neg (by simp [hc2]), if_neg (by omega), if_neg (by omega), if_neg (by omega), if_pos (by omega)]) (by decide) hlt)
                  clear hx hex hfa hfit
                  go_wp2_with (go_at_call 30; (with_reducible refine (cv.out _ _).mono ?_); rintro e w7 ⟨rfl, rfl⟩; first | rw [hc1] | rw [hc2])
                  go_ret
                  exact ⟨by rw [hend.out]; rfl, ext_trans hbw (by repeat (first | exact Below.refl _ _ | refine ext_alloc ?_ _ | refine ext_drewN ?_ _ | refine ext_drew ?_ | refine ext_trans ?_ (by assumption)))⟩
                · have h4i : ¬ (24 : Int) < (nt : Int) := by omega
                  replace hfa := hide (hfa.out (by omega))
                  replace hfit := hide (hfit.out (by omega))
                  have x0 : (wr.alloc (.cells #[.string z, .string bl, .int .i64 sn, .slice A3 nf c3, .slice A4 nt c4] 47)).cell? ⟨wr.heap.size, 0, none⟩ = some (.string z) := by simp
                  cases fa with
                  | false =>
                    have hend : Hid (roomErr d sl b m n l N = 10) := hide (room_end hx ho.out (by rw [hex.out, if_neg (by simp [hc1]), if_neg (by simp [hc2]), if_neg (by omega), if_neg (by omega), if_neg (by omega), if_neg (by omega), if_pos rfl]) (by decide) hlt)
                    clear hx hex hfit x0
                    go_wp2_with (first | (go_at_call 30; (with_reducible refine (cv.out _ _).mono ?_); rintro e w7 ⟨rfl, rfl⟩; first | rw [hc1] | rw [hc2]) | (go_at_call 31; (with_reducible refine (hfa.out _ hbx.out).mono ?_); rintro e w8 ⟨rfl, rfl⟩))
                    all_goals first | (exfalso; omega) | (go_ret; exact ⟨by rw [hend.out]; rfl, ext_trans hbw (by repeat (first | exact Below.refl _ _ | refine ext_alloc ?_ _ | refine ext_drewN ?_ _ | refine ext_drew ?_ | refine ext_trans ?_ (by assumption)))⟩)
                  | true =>
                    have hgr1 : gb < wr.heap.size + 1 := by omega
                    go_wp2_with (first | (go_at_call 30; (with_reducible refine (cv.out _ _).mono ?_); rintro e w7 ⟨rfl, rfl⟩; first | rw [hc1] | rw [hc2]) | (go_at_call 31; (with_reducible refine (hfa.out _ hbx.out).mono ?_); rintro e w8 ⟨rfl, rfl⟩))
                    all_goals try (exfalso; omega)
                    refine (hfit.out _ hbx.out).mono ?_
                    rintro e w9 ⟨rfl, hb9⟩
                    have hb19 := ext_trans hbx.out hb9
                    have x9 := cell_later hb9 x0
                    have hm9 := hmet.later hb19
                    have hsz := code_size hc1
                    clear hfit hfa cv x0 q0 q1 q2 q3 q4 r0 r1 r2 r3 hbx
                    cases ff with
                    | true =>
                      have hend : Hid (roomErr d sl b m n l N = 14) := hide (room_end hx ho.out (by rw [hex.out, if_neg (by simp [hc1]), if_neg (by simp [hc2]), if_neg (by omega), if_neg (by omega), if_neg (by omega), if_neg (by omega), if_neg (by simp), if_pos rfl]) (by decide) hlt)
                      clear hx hex
                      go_wp2
                      go_ret
                      exact ⟨by rw [hend.out]; rfl, ext_trans hbw hb19⟩
                    | false =>
                      have hlk := met_look hm9 z (by omega)
                      by_cases hid : 0 ≤ idxS z ((codesR l).take j)
                      · have hend : Hid (roomErr d sl b m n l N = 11) := hide (room_end hx ho.out (by rw [hex.out, if_neg (by simp [hc1]), if_neg (by simp [hc2]), if_neg (by omega), if_neg (by omega), if_neg (by omega), if_neg (by omega), if_neg (by simp), if_neg (by simp), if_pos hid]) (by decide) hlt)
                        rw [decide_eq_true hid] at hlk
                        clear hx hex hid
                        go_wp2
                        go_ret
                        exact ⟨by rw [hend.out]; rfl, ext_trans hbw hb19⟩
                      · have hnx : Hid (roomErr d sl b m n l (j + 1) = 0) := hide (room_on hx ho.out (by rw [hex.out, if_neg (by simp [hc1]), if_neg (by simp [hc2]), if_neg (by omega), if_neg (by omega), if_neg (by omega), if_neg (by omega), if_neg (by simp), if_neg (by simp), if_neg hid]))
                        have hml : ((codesR l).take j).length ≤ 1000 := by rw [List.length_take]; omega
                        rw [decide_eq_false hid] at hlk
                        clear hx hex hid
                        go_wp2_with (at_mapUpdate; refine wpList_met rfl _ _ _ rfl rfl hm9 hml rfl (by omega) rfl ?_; intro w10 hm10 hg10)
                        have hb10 : Below w1.heap.size w1 w10 := Below.grown (ext_trans hbr hb19) hg10 (ext_trans hbr hb19).size (fun y e => by injection e with e; omega)
                        rw [← hsn.out] at hm10
                        go_roundw
                        case rel => exact ⟨j + 1, by omega, by go_num, hnx, hm10, hb10⟩
                        case measure => first | (simp [intOf]; done) | (simp [intOf]; omega)
        · obtain rfl : j = N := by omega
          go_wp2
          go_ret
          exact ⟨by rw [ho.out]; rfl, ext_trans hb hbr⟩
end Go.Proofs.YtnbcaklnpflihaaGreatDoor

namespace Go.Proofs.YtnbcaklnpflihaaGreatDoor
open Go.RowKit
set_option maxRecDepth 100000

/-- The record of a room. -/
def rowR (d sl b m n : Int) (x : Room) : List ByteArray := [x.1, x.2.1, decB x.2.2.1.toNat, (joinV x.2.2.2.1).2, ⟨(timesL d sl b m n x.2.2.2.2).toArray⟩]
def rowsR (d sl b m n : Int) (l : List Room) : List (List ByteArray) := if validR d sl b m n l = 0 then l.map (rowR d sl b m n) else []
def RWriteIs (d sl b m n : Int) (l : List Room) (w : World) (e : Ending) (w' : World) : Prop :=
  ∃ v, e = .returned (.tuple #[v, .int .i64 (validR d sl b m n l)]) ∧ Own (kSlice kStr) 44 [9] 0 w.heap.size w' v (rowsR d sl b m n l) ∧ Below w.heap.size w w'
theorem roomEx_parts {d sl b m n : Int} {x : Room} {met : List ByteArray} (h : roomEx d sl b m n x met = 0) : codeB x.1 = true ∧ codeB x.2.1 = true ∧ 1 ≤ x.2.2.1 ∧ x.2.2.1 ≤ 9999 ∧ x.2.2.2.1.length ≤ 8 ∧ x.2.2.2.2.length ≤ 24 ∧ ascTo x.2.2.2.1 x.2.2.2.1.length = true ∧ unfitB d sl b m n x.2.2.2.2 = false ∧ ¬ 0 ≤ idxS x.1 met := by
  unfold roomEx at h
  repeat' split at h
  all_goals first | omega | skip
  refine ⟨by simp_all, by simp_all, by omega, by omega, by omega, by omega, by simp_all, by simp_all, by assumption⟩
theorem roomErr_all {d sl b m n : Int} {l : List Room} {N : Nat} (h : roomErr d sl b m n l N = 0) : ∀ j, j < N → roomE d sl b m n l j = 0 := by
  intro j
  induction N with
  | zero => intro hj; omega
  | succ N ih =>
    intro hj
    by_cases h0 : roomErr d sl b m n l N = 0
    · rw [roomErr_next h0] at h
      by_cases e : j = N
      · rw [e]; exact h
      · exact ih h0 (by omega)
    · rw [roomErr, if_pos h0] at h
      exact absurd h h0
theorem validR_parts {d sl b m n : Int} {l : List Room} (h : validR d sl b m n l = 0) : weekB d sl b m n = true ∧ l.length ≤ 16 ∧ ∀ (j : Nat) (x : Room), l[j]? = some x → roomEx d sl b m n x ((codesR l).take j) = 0 := by
  unfold validR at h
  cases hw : weekB d sl b m n with
  | false => rw [if_pos hw] at h; omega
  | true =>
    rw [if_neg (by rw [hw]; simp)] at h
    by_cases h16 : 16 < l.length
    · rw [if_pos h16] at h; omega
    · rw [if_neg h16] at h
      refine ⟨rfl, by omega, fun j x hx => ?_⟩
      have hj := (List.getElem?_eq_some_iff.1 hx).1
      have := roomErr_all h j hj
      unfold roomE at this
      rw [hx] at this
      exact this
set_option maxHeartbeats 8000000 in
theorem rfWrite_walk (A : Option Addr) (l : List Room) (cap : Nat) (d sl b m n : Int) (w : World) (hS : Std w) (hL : At kRoom AnyB w A l) :
    Calls Tryz.prog 10 #[.slice A l.length cap, .agg #[.int .i64 d, .int .i64 sl, .int .i64 b, .int .i64 m], .int .i64 n] w fun e w' => RWriteIs d sl b m n l w e w' := by
  have hb0 : Below w.heap.size w (w.alloc (.cells #[.int .i64 d, .int .i64 sl, .int .i64 b, .int .i64 m] 24)) := (by repeat (first | exact Below.refl _ _ | refine ext_alloc ?_ _ | refine ext_drewN ?_ _ | refine ext_drew ?_ | refine ext_trans ?_ (by assumption)))
  have bG := Box4.new w 24 (.int .i64 d) (.int .i64 sl) (.int .i64 b) (.int .i64 m)
  have hval := rfValid_walk A l cap d sl b m n _ (hL.later hb0)
  by_cases hv : validR d sl b m n l = 0
  · obtain ⟨hwk, h16, hpart⟩ := validR_parts hv
    have hr : Hid (rowsR d sl b m n l = l.map (rowR d sl b m n)) := hide (if_pos hv)
    obtain ⟨N, hN⟩ : ∃ N, l.length = N := ⟨_, rfl⟩
    rw [hv] at hval
    rw [hN] at hval h16 ⊢
    replace hN := hide hN
    replace hpart := hide hpart
    replace hv := hide hv
    obtain ⟨gb, hgb⟩ : ∃ gb, w.heap.size = gb := ⟨_, rfl⟩
    go_enter Tryz.func10, Tryz.ntmps10
    go_wp2_with fail
    refine hval.mono ?_
    rintro e w1 ⟨rfl, hb1⟩
    have hbw := ext_trans hb0 hb1
    have hL1 := hL.later hbw
    have hS1 := hS.after hbw
    rw [hgb] at bG
    obtain ⟨g0, g1, g2, g3⟩ := bG.later hb1
    have hgl : gb < w1.heap.size := World.block_lt_of_cell? _ _ g0
    replace hgb := hide hgb
    clear hval hL hb0 hb1 bG
    go_wp2_with fail
    try rw [hgb.out]
    go_loopw [9, 21] (fun v i wr => ∃ j : Nat, j ≤ N ∧ i = .int .i64 j ∧ Own (kSlice kStr) 44 [9] 0 w1.heap.size wr v ((l.take j).map (rowR d sl b m n)) ∧ Below w1.heap.size w1 wr) (fun _ i _ => N - (intOf i).toNat)
    case atStart => exact ⟨0, Nat.zero_le _, rfl, Own.nil, Below.refl _ _⟩
    case round =>
      obtain ⟨j, hj, rfl, hown, hb⟩ := hrel
      by_cases hlt : j < N
      · obtain ⟨x, hx⟩ : ∃ x, l[j]? = some x := ⟨_, List.getElem?_eq_getElem (by rw [hN.out]; exact hlt)⟩
        obtain ⟨-, -, hs1, hs2, hf8, ht24, -, -, -⟩ := roomEx_parts (hpart.out j x hx)
        obtain ⟨rb, off, A3, c3, A4, c4, rfl, -, hrb, ⟨q0, q1, q2, q3, q4⟩, l3, l4, a3, a4⟩ := (hL1.later hb).room hx
        have hsn : Hid ((l.take (j + 1)).map (rowR d sl b m n) = (l.take j).map (rowR d sl b m n) ++ [rowR d sl b m n x]) := by
          refine hide ?_
          rw [List.take_add_one, hx]; simp
        have hl9 : ((l.take j).map (rowR d sl b m n)).length ≤ 4000000000 := by rw [List.length_map, List.length_take]; omega
        obtain ⟨lists, hlists⟩ : ∃ lists, (l.take j).map (rowR d sl b m n) = lists := ⟨_, rfl⟩
        rw [hlists] at hown hsn hl9
        obtain ⟨z, bl, sn, fs, ts⟩ := x
        dsimp only at q0 q1 q2 q3 q4 l3 l4 a3 a4 hs1 hs2 hf8 ht24
        have hz := hb.size
        have hgr : gb < wr.heap.size := by omega
        have hu9 : Hid (∀ y, u9.ownBlock = some y → w1.heap.size ≤ y ∧ y < wr.heap.size) := hide hown.lt
        have hcI := fun (V : World) (hV : Below wr.heap.size wr V) => itoaD_walk sn (by omega) hs2 V (hS1.after (ext_trans hb hV))
        have hcC := fun (V : World) (hV : Below wr.heap.size wr V) => fcodesU_walk A3 fs c3 V (hS1.after (ext_trans hb hV)) (a3.later hV).any (by omega) l3
        have hcT := fun (V : World) (hV : Below wr.heap.size wr V) => ftimesW_walk A4 ts c4 d sl b m n V (by omega) (cells_of_at (a4.later hV).lo)
        obtain ⟨dn, hdn⟩ : ∃ dn, decB sn.toNat = dn := ⟨_, rfl⟩
        obtain ⟨tf, htf⟩ : ∃ tf, (joinV fs).2 = tf := ⟨_, rfl⟩
        obtain ⟨tt, htt⟩ : ∃ tt, (⟨(timesL d sl b m n ts).toArray⟩ : ByteArray) = tt := ⟨_, rfl⟩
        have hrow : Hid (rowR d sl b m n (z, bl, sn, fs, ts) = [z, bl, dn, tf, tt]) := by rw [← hdn, ← htf, ← htt]; exact hide rfl
        rw [hdn] at hcI
        rw [htf] at hcC
        rw [htt] at hcT
        obtain ⟨nf, hnf⟩ : ∃ nf, fs.length = nf := ⟨_, rfl⟩
        obtain ⟨nt, hnt⟩ : ∃ nt, ts.length = nt := ⟨_, rfl⟩
        rw [hnf] at hcC q3
        rw [hnt] at hcT q4
        replace hcI := hide hcI
        replace hcC := hide hcC
        replace hcT := hide hcT
        have hxx : Below wr.heap.size wr (wr.alloc (.cells #[.string z, .string bl, .int .i64 sn, .slice A3 nf c3, .slice A4 nt c4] 47)) := ext_alloc (Below.refl _ _) _
        have hC : Cn9 wr.heap.size 0 (.string z) wr.heap.size 1 (.string bl) wr.heap.size 2 (.int .i64 sn) wr.heap.size 3 (.slice A3 nf c3) wr.heap.size 4 (.slice A4 nt c4) gb 0 (.int .i64 d) gb 1 (.int .i64 sl) gb 2 (.int .i64 b) gb 3 (.int .i64 m) (wr.alloc (.cells #[.string z, .string bl, .int .i64 sn, .slice A3 nf c3, .slice A4 nt c4] 47)) := ⟨by simp, by simp, by simp, by simp, by simp, cell_alloc_of (cell_later hb g0) _, cell_alloc_of (cell_later hb g1) _, cell_alloc_of (cell_later hb g2) _, cell_alloc_of (cell_later hb g3) _⟩
        have hownx := hown.alloc (.cells #[.string z, .string bl, .int .i64 sn, .slice A3 nf c3, .slice A4 nt c4] 47)
        have hj0 : (0 : Int) ≤ (j : Int) := by omega
        have hj1 : (j : Int) < (N : Int) := by omega
        clear hx hlists hown hdn htf htt hnf hnt a3 a4 l3 l4
        go_upto_region 8 with fail
        obtain ⟨Wx, hWx⟩ : ∃ Wx, wr.alloc (.cells #[.string z, .string bl, .int .i64 sn, .slice A3 nf c3, .slice A4 nt c4] 47) = Wx := ⟨_, rfl⟩
        obtain ⟨xb, hxb⟩ : ∃ xb, wr.heap.size = xb := ⟨_, rfl⟩
        have hxl : xb < Wx.heap.size := by rw [← hWx, World.size_alloc]; omega
        have hgx : gb < Wx.heap.size := by rw [← hWx, World.size_alloc]; omega
        rw [hWx] at hC hownx hxx
        have hbx : Below w1.heap.size w1 Wx := ext_trans hb hxx
        have hI := hide (fun (V : World) (hV : Below Wx.heap.size Wx V) => (hcI.out V (ext_trans hxx hV)).mono fun _ _ ⟨he, hb⟩ => (⟨he, ext_trans hV hb, hC.later (ext_trans hV hb), hownx.later (ext_trans hV hb), ext_trans hbx (ext_trans hV hb)⟩ : _ = Ending.returned (.string dn) ∧ Below Wx.heap.size Wx _ ∧ Cn9 wr.heap.size 0 (.string z) wr.heap.size 1 (.string bl) wr.heap.size 2 (.int .i64 sn) wr.heap.size 3 (.slice A3 nf c3) wr.heap.size 4 (.slice A4 nt c4) gb 0 (.int .i64 d) gb 1 (.int .i64 sl) gb 2 (.int .i64 b) gb 3 (.int .i64 m) _ ∧ Own (kSlice kStr) 44 [9] 0 w1.heap.size _ u9 lists ∧ Below w1.heap.size w1 _))
        have hF := hide (fun (V : World) (hV : Below Wx.heap.size Wx V) => (hcC.out V (ext_trans hxx hV)).mono fun _ _ ⟨he, hb⟩ => (⟨he, ext_trans hV hb, hC.later (ext_trans hV hb), hownx.later (ext_trans hV hb), ext_trans hbx (ext_trans hV hb)⟩ : _ = Ending.returned (.string tf) ∧ Below Wx.heap.size Wx _ ∧ Cn9 wr.heap.size 0 (.string z) wr.heap.size 1 (.string bl) wr.heap.size 2 (.int .i64 sn) wr.heap.size 3 (.slice A3 nf c3) wr.heap.size 4 (.slice A4 nt c4) gb 0 (.int .i64 d) gb 1 (.int .i64 sl) gb 2 (.int .i64 b) gb 3 (.int .i64 m) _ ∧ Own (kSlice kStr) 44 [9] 0 w1.heap.size _ u9 lists ∧ Below w1.heap.size w1 _))
        have hT := hide (fun (V : World) (hV : Below Wx.heap.size Wx V) => (hcT.out V (ext_trans hxx hV)).mono fun _ _ ⟨he, hb⟩ => (⟨he, ext_trans hV hb, hC.later (ext_trans hV hb), hownx.later (ext_trans hV hb), ext_trans hbx (ext_trans hV hb)⟩ : _ = Ending.returned (.string tt) ∧ Below Wx.heap.size Wx _ ∧ Cn9 wr.heap.size 0 (.string z) wr.heap.size 1 (.string bl) wr.heap.size 2 (.int .i64 sn) wr.heap.size 3 (.slice A3 nf c3) wr.heap.size 4 (.slice A4 nt c4) gb 0 (.int .i64 d) gb 1 (.int .i64 sl) gb 2 (.int .i64 b) gb 3 (.int .i64 m) _ ∧ Own (kSlice kStr) 44 [9] 0 w1.heap.size _ u9 lists ∧ Below w1.heap.size w1 _))
        rw [hxb] at hC hI hF hT hu9
        rw [hWx, hxb]
        have nx : Hid (some xb ≠ u9.ownBlock) := hide fun e => by have := (hu9.out xb e.symm).2; omega
        have ng : Hid (some gb ≠ u9.ownBlock) := hide fun e => by have := (hu9.out gb e.symm).1; omega
        obtain ⟨p0, p1, p2, p3, p4, p5, p6, p7, p8⟩ := id hC
        have hCd := hC.drew
        have hrefl := Below.refl Wx.heap.size Wx
        clear hcI hcC hcT hWx hxb hxx q0 q1 q2 q3 q4
        go_region_held3 (fun W' => W'.cell? ⟨xb, 0, none⟩ = some (.string z) ∧ W'.cell? ⟨xb, 1, none⟩ = some (.string bl) ∧ W'.cell? ⟨xb, 2, none⟩ = some (.int .i64 sn) ∧ W'.cell? ⟨xb, 3, none⟩ = some (.slice A3 nf c3) ∧ W'.cell? ⟨xb, 4, none⟩ = some (.slice A4 nt c4) ∧ W'.cell? ⟨gb, 0, none⟩ = some (.int .i64 d) ∧ W'.cell? ⟨gb, 1, none⟩ = some (.int .i64 sl) ∧ W'.cell? ⟨gb, 2, none⟩ = some (.int .i64 b) ∧ W'.cell? ⟨gb, 3, none⟩ = some (.int .i64 m)) (first | ((repeat (first | (with_reducible assumption) | (with_reducible refine Cn9.alloc ?_ _) | (with_reducible refine Cn9.drew ?_) | (with_reducible refine Cn9.set ?_ ?_ ?_ ?_ ?_ ?_ ?_ ?_ ?_ ?_ _) | omega)); done)) (first | (go_at_call 23; refine (hI.out _ (by repeat (first | (with_reducible assumption) | (with_reducible refine ext_alloc ?_ _) | (with_reducible refine ext_drew ?_)))).mono ?_; rintro e w2 ⟨rfl, hb2, hx2, ho2, hbw2⟩) | (go_at_call 24; refine (hF.out _ (by repeat (first | (with_reducible assumption) | (with_reducible refine ext_alloc ?_ _) | (with_reducible refine ext_drew ?_)))).mono ?_; rintro e w3 ⟨rfl, hb3, hx3, ho3, hbw3⟩) | (go_at_call 25; refine (hT.out _ (by repeat (first | (with_reducible assumption) | (with_reducible refine ext_alloc ?_ _) | (with_reducible refine ext_drew ?_)))).mono ?_; rintro e w4 ⟨rfl, hb4, hx4, ho4, hbw4⟩) | (refine step_own (S := Cn9 xb 0 (.string z) xb 1 (.string bl) xb 2 (.int .i64 sn) xb 3 (.slice A3 nf c3) xb 4 (.slice A4 nt c4) gb 0 (.int .i64 d) gb 1 (.int .i64 sl) gb 2 (.int .i64 b) gb 3 (.int .i64 m)) (K := kSlice kStr) (t := 44) (ts := [9]) (B0 := 0) (B := w1.heap.size) (v := u9) (l := lists) rfl (.tmp 25) (.tmp 42) rfl apd_lists (by decide) (by rfl) (by repeat (first | (with_reducible assumption) | (with_reducible refine Own.alloc ?_ _) | (with_reducible refine Own.drew ?_))) hl9 (by decide) _ _ (by rfl) [z, bl, dn, tf, tt] [.slice (some ⟨_, 0, none⟩) 5 5] (rep_lit_strs (cs := #[.string z, .string bl, .string dn, .string tf, .string tt]) (t := 9) [z, bl, dn, tf, tt] (by first | exact heap_alloc_new _ _ | exact block_after (heap_alloc_new _ _) | exact block_after (block_after (heap_alloc_new _ _))) rfl rfl (Below.size (w := w1) (by repeat (first | (with_reducible assumption) | (with_reducible refine ext_alloc ?_ _) | (with_reducible refine ext_drew ?_)))) (by decide)) (World.news_of_block (cs := #[.slice (some ⟨_, 0, none⟩) 5 5]) (t := 44) (fr := (0, 0)) (by first | exact heap_alloc_new _ _ | exact heap_new2 _ _ _)) (by decide) (Nat.zero_le _) (Below.size (w := w1) (by repeat (first | (with_reducible assumption) | (with_reducible refine ext_alloc ?_ _) | (with_reducible refine ext_drew ?_)))) (fun W' hg => Cn9.grown (by repeat (first | (with_reducible assumption) | (with_reducible refine Cn9.alloc ?_ _) | (with_reducible refine Cn9.drew ?_))) hg nx.out nx.out nx.out nx.out nx.out ng.out ng.out ng.out ng.out) ?_; intro gA capA w5 ho5 hg5 hs5))
        all_goals
          have hb5 : Below w1.heap.size w1 w5 := below_grown (by repeat (first | (with_reducible assumption) | (with_reducible refine ext_alloc ?_ _) | (with_reducible refine ext_drew ?_))) hg5 (fun y hy => (hu9.out y hy).1)
          clear hI hF hT hC hCd hrefl hg5 hs5
          go_wp2
          go_roundw
          case rel => exact ⟨j + 1, by omega, by go_num, by rw [hsn.out, hrow.out]; exact ho5, hb5⟩
          case measure => simp [intOf]; omega
      · obtain rfl : j = N := by omega
        have hall : Hid (l.take j = l) := hide (by rw [← hN.out]; exact List.take_length)
        rw [hall.out] at hown
        have hfin := hide (hown.lower hbw.size)
        have hbn := ext_trans hbw hb
        clear hall hown g0 g1 g2 g3
        go_wp2
        go_ret2
        exact ⟨u9, by rw [hv.out]; rfl, by rw [hr.out]; exact hfin.out, hbn⟩
  · have hr : Hid (rowsR d sl b m n l = []) := hide (if_neg hv)
    obtain ⟨V, hV⟩ : ∃ V, validR d sl b m n l = V := ⟨_, rfl⟩
    rw [hV] at hval hv
    have hv2 : ((V : Int) != 0) = true := by simp; omega
    have hvi : ¬ (V : Int) = 0 := by omega
    replace hV := hide hV
    obtain ⟨N, hN⟩ : ∃ N, l.length = N := ⟨_, rfl⟩
    rw [hN] at hval ⊢
    clear hv hN hL
    go_enter Tryz.func10, Tryz.ntmps10
    go_wp2_with fail
    refine hval.mono ?_
    rintro e w1 ⟨rfl, hb1⟩
    clear hval
    go_wp2
    go_ret2
    exact ⟨_, by rw [hV.out]; rfl, by rw [hr.out]; exact Own.nil, ext_trans hb0 hb1⟩
end Go.Proofs.YtnbcaklnpflihaaGreatDoor
