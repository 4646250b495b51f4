/- Walk of timetableref08.Valid. Conditions: the cells. Walks of travel.Write and timetableref08.Write. Conditions: the cells. Walk of timetableref08.Write. Conditions: the cells. -/
import Derived.Test.YtjcfkbichmlgmaaDoorKAwake8
import Derived.Test.YtjcfkbichmlgmaaDoorKOwnB
import Derived.Test.YtjcfkbichmlgmaaDoorKTgH
import Derived.Test.YtjcfkbichmlgmaaDoorKTgN
namespace Go.Proofs.YtjcfkbichmlgmaaDoor
open Go.RowKit
set_option maxRecDepth 100000

theorem idxFrom_has2 {z : ByteArray} : ∀ {l : List ByteArray} (r : List ByteArray) (i : Int), hasS z l → idxFrom z (l ++ r) i = idxFrom z l i
  | [], _, _, h => by obtain ⟨y, hy, _⟩ := h; cases hy
  | x :: l, r, i, h => by
    rw [List.cons_append, idxFrom, idxFrom]
    split
    · rfl
    · rename_i hq
      obtain ⟨y, hy, e⟩ := h
      rcases List.mem_cons.1 hy with rfl | hy
      · exact absurd (by simpa using e) hq
      · exact idxFrom_has2 r (i + 1) ⟨y, hy, e⟩
/-- A name stands before place j, told in two ways. -/
theorem idx_take {bs : List ByteArray} {j : Nat} {z : ByteArray} (h : bs[j]? = some z) : idxS z bs < j ↔ 0 ≤ idxS z (bs.take j) := by
  have hjl := (List.getElem?_eq_some_iff.1 h).1
  rw [idx_has]
  by_cases hh : hasS z (bs.take j)
  · have e : idxS z bs = idxS z (bs.take j) := by
      unfold idxS
      conv => lhs; rw [← List.take_append_drop j bs]
      exact idxFrom_has2 _ _ hh
    have hl := idxS_lt z (bs.take j)
    rw [List.length_take, Nat.min_eq_left (by omega)] at hl
    exact ⟨fun _ => hh, fun _ => by omega⟩
  · have e : idxS z bs = j := idxS_hit h (fun y hy => by
      cases hq : (y.toList == z.toList) with
      | false => rfl
      | true => exact absurd ⟨y, hy, by simpa using hq⟩ hh) (by simp)
    exact ⟨fun hlt => by omega, fun hx => absurd hx hh⟩
set_option maxHeartbeats 8000000 in
theorem r8valid_walk (D A : Option Addr) (bs : List ByteArray) (xs : List (List Int)) (d c : Nat) (w : World) (hbl : bs.length ≤ 9223372036854775807) (_hxl : xs.length ≤ 9223372036854775807) (hrl : ∀ x ∈ xs, x.length ≤ 9223372036854775807) (hD : At kStr AnyB w D bs) (hA : At (kSlice kInt) AnyB w A xs) :
    Calls Tryd.prog 10 #[.agg #[.slice D bs.length d, .slice A xs.length c]] w fun e w' => e = .returned (.int .i64 (validT bs xs)) ∧ Below w.heap.size w w' := by
  obtain ⟨V, hV⟩ : ∃ V, validT bs xs = V := ⟨_, rfl⟩
  rw [hV]
  unfold validT at hV
  obtain ⟨n, hn⟩ : ∃ n, bs.length = n := ⟨_, rfl⟩
  have hplace := fun (z : ByteArray) (w : World) (h : At kStr AnyB w D bs) => r8place_walk D bs d z w hbl h
  rw [hn] at hbl hV hplace ⊢
  have hb0 : Below w.heap.size w (w.alloc (.cells #[.slice D n d, .slice A xs.length c] 25)) := (by repeat (first | exact Below.refl _ _ | refine ext_alloc ?_ _ | refine ext_drewN ?_ _ | refine ext_drew ?_ | refine ext_trans ?_ (by assumption)))
  have p0 : TBox (w.alloc (.cells #[.slice D n d, .slice A xs.length c] 25)) w.heap.size (.slice D n d) (.slice A xs.length c) := heap_alloc_new _ _
  obtain ⟨W, hW⟩ : ∃ W, w.alloc (.cells #[.slice D n d, .slice A xs.length c] 25) = W := ⟨_, rfl⟩
  obtain ⟨p, hp⟩ : ∃ p, w.heap.size = p := ⟨_, rfl⟩
  rw [hW] at hb0 p0
  rw [hp] at p0
  have hDW := hD.later hb0
  have hAW := hA.later hb0
  replace hV := hide hV
  replace hn := hide hn
  replace hW := hide hW
  replace hp := hide hp
  replace hrl := hide hrl
  replace hplace := hide hplace
  clear hD hA
  by_cases h8 : 8 < n
  · have hV2 : Hid (V = 2) := hide (hV.out.symm.trans (if_pos h8))
    go_enter Tryd.func10, Tryd.ntmps10
    go_wp2
    go_ret
    exact ⟨by rw [hV2.out]; rfl, by rw [hW.out]; exact hb0⟩
  · have hV2 : Hid ((if firstNZ (nameE bs) n ≠ 0 then firstNZ (nameE bs) n else if xs.length ≠ n then 1 else if rowsB n xs = true then 1 else if badAll xs n = true then 3 else 0) = V) := hide ((if_neg h8).symm.trans hV.out)
    clear hV
    go_enter Tryd.func10, Tryd.ntmps10
    go_wp2_with fail
    rw [hW.out, hp.out]
    go_loopw [3] (fun i wr => ∃ j : Nat, j ≤ n ∧ i = .int .i64 j ∧ firstNZ (nameE bs) j = 0 ∧ Below W.heap.size W wr) (fun i _ => n - (intOf i).toNat)
    case atStart => exact ⟨0, Nat.zero_le _, rfl, rfl, Below.refl _ _⟩
    case round =>
      obtain ⟨j, hj, rfl, ho, hb⟩ := hrel
      have q := tbox_later p0 hb
      obtain ⟨e0, e1, -, -⟩ := tbox_cells q
      have hpl := blk_lt q
      replace ho := hide ho
      by_cases hlt : j < n
      · obtain ⟨z, hz⟩ : ∃ z, bs[j]? = some z := ⟨_, List.getElem?_eq_getElem (by rw [hn.out]; exact hlt)⟩
        have hat := hDW.later hb
        obtain ⟨b, off, rfl, -, hbb, k0⟩ := hat.str hz
        have hj0 : (0 : Int) ≤ (j : Int) := by omega
        have hj1 : (j : Int) < (n : Int) := by omega
        have hcv := r3valid_walk z wr
        have hE : nameE bs j = if codeB z = false then 10 else if idxS z bs < j then 11 else 0 := by
          unfold nameE; rw [getD_of hz]
          by_cases h : idxS z bs < j
          · rw [if_pos h, if_pos ((idx_take hz).1 h)]
          · rw [if_neg h, if_neg (fun q => h ((idx_take hz).2 q))]
        have hSL : Cn2 p 0 ((.slice (some ⟨b, off, none⟩) n d)) b (off + j) ((.string z)) wr := ⟨e0, k0⟩
        obtain ⟨x, hx⟩ : ∃ x, idxS z bs = x := ⟨_, rfl⟩
        have hcon := hide (fun (U : World) (hU : Below wr.heap.size wr U) => (hplace.out z U (hat.later hU)).mono fun e w' ⟨he, hb⟩ => (⟨by rw [he, hx], hb ▸ hU, hSL.later (hb ▸ hU)⟩ : e = Ending.returned (.int .i64 x) ∧ Below wr.heap.size wr w' ∧ Cn2 p 0 ((.slice (some ⟨b, off, none⟩) n d)) b (off + j) ((.string z)) w'))
        rw [hx] at hE
        replace hE := hide hE
        clear hz hx hat hDW hAW q
        go_wp2_with fail
        refine hcv.mono ?_
        rintro e w2 ⟨rfl, rfl⟩
        cases hv : codeB z with
        | false =>
          have h10 : nameE bs j = 10 := by rw [hE.out, hv]; rfl
          have hVV : Hid (V = 10) := hide (by rw [← hV2.out, firstNZ_hit ho.out (by rw [h10]; decide) n hlt, h10]; rfl)
          clear hv hE hcv hcon hSL
          go_wp2
          go_ret
          exact ⟨by rw [hVV.out]; rfl, ext_trans hb0 hb⟩
        | true =>
          rw [hv] at hE
          clear hv hcv
          have hSd := hSL.drew
          have hrefl := Below.refl wr.heap.size wr
          go_upto_region 8 with fail
          go_region_held3 (fun W' => W'.cell? ⟨p, 0, none⟩ = some ((.slice (some ⟨b, off, none⟩) n d)) ∧ W'.cell? ⟨b, off + j, none⟩ = some ((.string z))) (first | ((repeat (first | (with_reducible assumption) | (with_reducible refine Cn2.alloc ?_ _) | (with_reducible refine Cn2.drew ?_) | (with_reducible refine Cn2.set ?_ ?_ ?_ _) | omega)); done)) (first | (go_at_call 27; (with_reducible refine (hcon.out _ ?_).mono ?_); (repeat (first | (with_reducible assumption) | (with_reducible refine ext_alloc ?_ _) | (with_reducible refine ext_drew ?_))); rintro e w6 ⟨rfl, hb6, hx6⟩))
          all_goals
            have hb7 := ext_trans hb hb6
            clear hcon hSL hSd hx6 hb6 hb e0 e1 k0
            by_cases hx : x < (j : Int)
            · have h11 : nameE bs j = 11 := hE.out.trans (if_pos hx)
              have hVV : Hid (V = 11) := hide (by rw [← hV2.out, firstNZ_hit ho.out (by rw [h11]; decide) n hlt, h11]; rfl)
              clear hE
              go_wp2
              go_ret
              exact ⟨by rw [hVV.out]; rfl, ext_trans hb0 hb7⟩
            · have h00 : Hid (firstNZ (nameE bs) (j + 1) = 0) := hide ((firstNZ_next ho.out).trans (hE.out.trans (if_neg hx)))
              clear hE
              go_wp2_with fail
              go_roundw
              case rel => exact ⟨j + 1, by omega, by go_num, h00.out, hb7⟩
              case measure => simp [intOf]; omega
      · obtain rfl : j = n := by omega
        have hV3 : Hid ((if xs.length ≠ j then 1 else if rowsB j xs = true then 1 else if badAll xs j = true then 3 else 0) = V) := hide ((if_neg (c := firstNZ (nameE bs) j ≠ 0) (fun h => h ho.out)).symm.trans hV2.out)
        have hAw := hAW.later hb
        have hbw := ext_trans hb0 hb
        clear hV2 ho hDW hAW hplace hb q
        by_cases hne : xs.length = j
        · have hV4 : Hid ((if rowsB j xs = true then 1 else if badAll xs j = true then 3 else 0) = V) := hide ((if_neg (c := xs.length ≠ j) (fun h => h hne)).symm.trans hV3.out)
          have hsq := hide (fun h => rowsB_sq (n := j) (xs := xs) h hne)
          have hall := hide (show xs.take j = xs from by rw [← hne]; exact List.take_length)
          have hne0 := hide hne
          rw [hne] at e1 ⊢
          have hne2 : ((j : Int) != (j : Int)) = false := by simp
          clear hV3 hne p0
          go_wp2_with fail
          go_loop [5] (fun i => ∃ i0 : Nat, i0 ≤ j ∧ i = .int .i64 i0 ∧ Hid (rowsB j (xs.take i0) = false)) (fun i => j - (intOf i).toNat)
          case atStart => exact ⟨0, Nat.zero_le _, rfl, hide rfl⟩
          case round =>
            obtain ⟨i, hi, rfl, ho1⟩ := hrel
            by_cases hil : i < j
            · obtain ⟨x, hx⟩ : ∃ x, xs[i]? = some x := ⟨_, List.getElem?_eq_getElem (by rw [hne0.out]; exact hil)⟩
              obtain ⟨b, off, F, c1, rfl, -, hbb, k0, -, -⟩ := hAw.slice hx
              have hi0 : (0 : Int) ≤ (i : Int) := by omega
              have hi1 : (i : Int) < (j : Int) := by omega
              have hrl2 := hrl.out x (List.mem_of_getElem? hx)
              by_cases hxn : (x.length : Int) ≠ (j : Int)
              · have hVV : Hid (V = 1) := hide (by rw [← hV4.out, rowsB_hit hx hxn]; rfl)
                have hxn2 : ((x.length : Int) != (j : Int)) = true := by simpa using hxn
                clear hx ho1 hAw
                go_wp2
                go_ret
                exact ⟨by rw [hVV.out]; rfl, hbw⟩
              · have hmiss := hide (rowsB_next hx hxn ho1.out)
                have hxn2 : x.length = j := by omega
                rw [hxn2] at k0
                clear hx ho1 hAw hxn hrl2
                go_wp2_with fail
                go_round
                case rel => exact ⟨i + 1, by omega, by go_num, hmiss⟩
                case measure => simp [intOf]; omega
            · obtain rfl : i = j := by omega
              rw [hall.out] at ho1
              replace hsq := hsq.out ho1.out
              have hV5 : Hid ((if badAll xs i = true then 3 else 0) = V) := hide (by rw [← hV4.out, ho1.out]; rfl)
              clear hV4 ho1 hall
              obtain ⟨sz, hsz⟩ : ∃ sz, i = sz := ⟨_, rfl⟩
              subst hsz
              go_wp2_with fail
              go_loop [6] (fun r => ∃ i0 : Nat, i0 ≤ i ∧ r = .int .i64 i0 ∧ Hid (orTo (fun r => orTo (badC xs r) i) i0 = false)) (fun r => i - (intOf r).toNat)
              case atStart => exact ⟨0, Nat.zero_le _, rfl, hide rfl⟩
              case round =>
                obtain ⟨r, hi, rfl, ho1⟩ := hrel
                by_cases hil : r < i
                · have hi0 : (0 : Int) ≤ (r : Int) := by omega
                  have hi1 : (r : Int) < (i : Int) := by omega
                  go_wp2_with fail
                  go_loop [7] (fun v => ∃ k0 : Nat, k0 ≤ i ∧ v = .int .i64 k0 ∧ Hid (orTo (badC xs r) k0 = false)) (fun v => i - (intOf v).toNat)
                  case atStart => exact ⟨0, Nat.zero_le _, rfl, hide rfl⟩
                  case round =>
                    obtain ⟨k, hk, rfl, ho2⟩ := hrel
                    by_cases hkl : k < i
                    · obtain ⟨b1, off1, F1, c2, fb, fo, u, hA1, -, k1, rfl, hfb, k2, hu⟩ := sq_two hsq hAw hil hkl
                      obtain ⟨b2, off2, F2, c3, gb, go, u2, hA2, -, k3, rfl, hgb, k4, hu2⟩ := sq_two hsq hAw hkl hil
                      subst hA1
                      injection hA2 with hA2
                      injection hA2 with a1 a2
                      subst a1 a2
                      have hbad : badC xs r k = (decide (u < -1) || (decide (24 < u) || ((decide (r = k) && decide (u ≠ 0)) || decide (u ≠ u2)))) := by unfold badC; rw [hu, hu2]
                      have hsame : r = k → u = u2 := fun e => by rw [hu, hu2, e]
                      have hhit : badC xs r k = true → Hid (V = 3) := fun h => hide (by rw [← hV5.out, show badAll xs i = true from orTo_hit (p := fun r => orTo (badC xs r) i) (k := r) (orTo_hit h i hkl) i hil]; rfl)
                      have hnx : badC xs r k = false → Hid (orTo (badC xs r) (k + 1) = false) := fun h => hide (by unfold orTo; rw [ho2.out, h]; rfl)
                      have hk0' : (0 : Int) ≤ (k : Int) := by omega
                      have hk1' : (k : Int) < (i : Int) := by omega
                      replace hhit := hide hhit
                      replace hnx := hide hnx
                      replace hbad := hide hbad
                      replace hsame := hide hsame
                      replace hV5 := hide hV5
                      clear hu hu2 ho2 hAw
                      by_cases q1 : u < -1
                      · have hVV := hhit.out (by rw [hbad.out, decide_eq_true q1]; rfl)
                        go_wp2
                        go_ret
                        exact ⟨by rw [hVV.out]; rfl, hbw⟩
                      · by_cases q2 : 24 < u
                        · have hVV := hhit.out (by rw [hbad.out, decide_eq_false q1, decide_eq_true q2]; rfl)
                          go_wp2
                          go_ret
                          exact ⟨by rw [hVV.out]; rfl, hbw⟩
                        · by_cases q3 : r = k
                          · have e := hsame.out q3
                            have hnb : badC xs r k = decide (u ≠ 0) := by rw [hbad.out, decide_eq_false q1, decide_eq_false q2, decide_eq_true q3, e]; simp
                            by_cases q4 : u = 0
                            · have hnn := hnx.out (by rw [hnb, q4]; rfl)
                              subst q3
                              subst q4
                              subst e
                              go_wp2_with fail
                              go_round
                              case rel => exact ⟨r + 1, by omega, by go_num, hnn⟩
                              case measure => simp [intOf]; omega
                            · have hVV := hhit.out (by rw [hnb, decide_eq_true q4])
                              subst q3
                              clear e
                              go_wp2
                              all_goals first | (exfalso; omega) | (go_ret; exact ⟨by rw [hVV.out]; rfl, hbw⟩)
                          · have q3' : ¬ (r : Int) = (k : Int) := by omega
                            have hnb : badC xs r k = decide (u ≠ u2) := by rw [hbad.out, decide_eq_false q1, decide_eq_false q2, decide_eq_false q3]; simp
                            by_cases q4 : u = u2
                            · have hnn := hnx.out (by rw [hnb, q4]; simp)
                              subst q4
                              go_wp2_with fail
                              go_round
                              case rel => exact ⟨k + 1, by omega, by go_num, hnn⟩
                              case measure => simp [intOf]; omega
                            · have hVV := hhit.out (by rw [hnb, decide_eq_true q4])
                              have q4' : (u != u2) = true := by simpa using q4
                              go_wp2
                              go_ret
                              exact ⟨by rw [hVV.out]; rfl, hbw⟩
                    · obtain rfl : k = i := by omega
                      have hnn : Hid (orTo (fun r => orTo (badC xs r) k) (r + 1) = false) := hide (by unfold orTo; rw [ho1.out, ho2.out]; rfl)
                      clear ho1 ho2
                      go_wp2_with fail
                      go_round
                      case rel => exact ⟨r + 1, by omega, by go_num, hnn⟩
                      case measure => simp [intOf]; omega
                · obtain rfl : r = i := by omega
                  have hVV : Hid (V = 0) := hide (by rw [← hV5.out, show badAll xs r = false from ho1.out]; rfl)
                  clear ho1
                  go_wp2
                  go_ret
                  exact ⟨by rw [hVV.out]; rfl, hbw⟩
        · have hVV : Hid (V = 1) := hide (by rw [← hV3.out, if_pos hne])
          have hne2 : ((xs.length : Int) != (j : Int)) = true := by simp; omega
          go_wp2
          go_ret
          exact ⟨by rw [hVV.out]; rfl, hbw⟩
end Go.Proofs.YtjcfkbichmlgmaaDoor

namespace Go.Proofs.YtjcfkbichmlgmaaDoor
open Go.RowKit
set_option maxRecDepth 100000

def wayRow (bs : List ByteArray) (xs : List (List Int)) (i k : Nat) : List ByteArray := [bs.getD i ⟨#[]⟩, bs.getD k ⟨#[]⟩, ⟨(dec2 (atM xs i k).toNat).toArray⟩]
def appW (bs : List ByteArray) (xs : List (List Int)) (i k : Nat) (l : List (List ByteArray)) : List (List ByteArray) := if atM xs i k = -1 then l else l ++ [wayRow bs xs i k]
def wrIn (bs : List ByteArray) (xs : List (List Int)) (i q : Nat) (l : List (List ByteArray)) : List (List ByteArray) := (List.range q).foldl (fun l t => appW bs xs i (i + 1 + t) l) l
def wrTo (bs : List ByteArray) (xs : List (List Int)) (n q : Nat) : List (List ByteArray) := (List.range q).foldl (fun l i => wrIn bs xs i (n - (i + 1)) l) []
def writeV (bs : List ByteArray) (xs : List (List Int)) : List (List ByteArray) := if validT bs xs = 0 then wrTo bs xs bs.length bs.length else []
theorem wrIn_next (bs : List ByteArray) (xs : List (List Int)) (i q : Nat) (l : List (List ByteArray)) : wrIn bs xs i (q + 1) l = appW bs xs i (i + 1 + q) (wrIn bs xs i q l) := by unfold wrIn; rw [List.range_succ, List.foldl_append]; rfl
theorem wrTo_next (bs : List ByteArray) (xs : List (List Int)) (n q : Nat) : wrTo bs xs n (q + 1) = wrIn bs xs q (n - (q + 1)) (wrTo bs xs n q) := by unfold wrTo; rw [List.range_succ, List.foldl_append]; rfl
theorem appW_len (bs : List ByteArray) (xs : List (List Int)) (i k : Nat) (l : List (List ByteArray)) : (appW bs xs i k l).length ≤ l.length + 1 := by unfold appW; split <;> simp
theorem wrIn_len (bs : List ByteArray) (xs : List (List Int)) (i : Nat) : ∀ (q : Nat) (l : List (List ByteArray)), (wrIn bs xs i q l).length ≤ l.length + q
  | 0, l => Nat.le_refl _
  | q + 1, l => by rw [wrIn_next]; have h1 := appW_len bs xs i (i + 1 + q) (wrIn bs xs i q l); have h2 := wrIn_len bs xs i q l; omega
theorem wrTo_len (bs : List ByteArray) (xs : List (List Int)) (n : Nat) : ∀ q : Nat, (wrTo bs xs n q).length ≤ q * n
  | 0 => Nat.zero_le _
  | q + 1 => by rw [wrTo_next, Nat.succ_mul]; have h1 := wrIn_len bs xs q (n - (q + 1)) (wrTo bs xs n q); have h2 := wrTo_len bs xs n q; omega
def Write8 (bs : List ByteArray) (xs : List (List Int)) (w : World) (e : Ending) (w' : World) : Prop :=
  ∃ v, e = .returned (.tuple #[v, .int .i64 (validT bs xs)]) ∧ Own (kSlice kStr) 22 [9] 0 w.heap.size w' v (writeV bs xs) ∧ Below w.heap.size w w'
def WrLoop (w1 : World) (f : Nat → List (List ByteArray)) (n : Nat) (v i : Value) (wr : World) : Prop :=
  ∃ j : Nat, j ≤ n ∧ i = .int .i64 j ∧ Own (kSlice kStr) 22 [9] 0 w1.heap.size wr v (f j) ∧ Below w1.heap.size w1 wr
def WrIn (w1 : World) (f : Nat → List (List ByteArray)) (i n : Nat) (v k : Value) (wr : World) : Prop :=
  ∃ q : Nat, q ≤ n - (i + 1) ∧ k = .int .i64 ((i + 1 + q : Nat) : Int) ∧ Own (kSlice kStr) 22 [9] 0 w1.heap.size wr v (f q) ∧ Below w1.heap.size w1 wr
set_option maxHeartbeats 8000000 in
theorem twrite_walk (D A : Option Addr) (bs : List ByteArray) (xs : List (List Int)) (d c : Nat) (w : World) (hbl : bs.length ≤ 9223372036854775807) (hxl : xs.length ≤ 9223372036854775807) (hd : bs.length ≤ d) (hD : At kStr (· < w.heap.size) w D bs) (hA : At (kSlice kInt) (· < w.heap.size) w A xs) :
    Calls Tryd.prog 5 #[.agg #[.slice D bs.length d, .slice A xs.length c]] w fun e w' => Write8 bs xs w e w' := by
  have hb0 : Below w.heap.size w (w.alloc (.cells #[.slice D bs.length d, .slice A xs.length c] 25)) := (by repeat (first | exact Below.refl _ _ | refine ext_alloc ?_ _ | refine ext_drewN ?_ _ | refine ext_drew ?_ | refine ext_trans ?_ (by assumption)))
  have p0 : TBox (w.alloc (.cells #[.slice D bs.length d, .slice A xs.length c] 25)) w.heap.size (.slice D bs.length d) (.slice A xs.length c) := heap_alloc_new _ _
  obtain ⟨W, hW⟩ : ∃ W, w.alloc (.cells #[.slice D bs.length d, .slice A xs.length c] 25) = W := ⟨_, rfl⟩
  obtain ⟨p, hp⟩ : ∃ p, w.heap.size = p := ⟨_, rfl⟩
  rw [hW] at hb0 p0
  have hDW := (hD.below hb0).up hb0.size
  have hAW := (hA.below hb0).up hb0.size
  have hval := tvalid_walk D A bs xs d c W hbl hxl hd hDW.any hAW.any
  have hfin : Hid (∀ e w', Write8 bs xs w e w' = (∃ v, e = .returned (.tuple #[v, .int .i64 (validT bs xs)]) ∧ Own (kSlice kStr) 22 [9] 0 w.heap.size w' v (writeV bs xs) ∧ Below w.heap.size w w')) := hide fun _ _ => rfl
  rw [hp] at p0
  replace hW := hide hW
  replace hp := hide hp
  clear hD hA
  by_cases hV : validT bs xs = 0
  · obtain ⟨hn8, hB⟩ := validT_ok hV
    have hwv : writeV bs xs = wrTo bs xs bs.length bs.length := if_pos hV
    have hxn := hB.sq.1
    rw [hV] at hval hfin
    rw [hwv] at hfin
    rw [hxn] at p0 hval hW ⊢
    obtain ⟨n, hnn⟩ : ∃ n, bs.length = n := ⟨_, rfl⟩
    rw [hnn] at p0 hval hW hfin hn8 hB hxn hd ⊢
    replace hnn := hide hnn
    replace hB := hide hB
    clear hV hwv
    go_enter Tryd.func5, Tryd.ntmps5
    go_wp2_with fail
    rw [hW.out, hp.out]
    refine hval.mono ?_
    rintro e w1 ⟨rfl, hb1⟩
    have hbw := ext_trans hb0 hb1
    replace p0 := tbox_later p0 hb1
    replace hDW := (hDW.below hb1).up hb1.size
    replace hAW := (hAW.below hb1).up hb1.size
    obtain ⟨e0, e1, -, -⟩ := tbox_cells p0
    have hpl := blk_lt p0
    clear hval hb0 hb1 hW
    go_wp2_with fail
    clear e0 e1
    go_loopw [5, 17] (fun v i wr => WrLoop w1 (fun q => wrTo bs xs n q) n v i wr) (fun _ i _ => n - (intOf i).toNat)
    case atStart => exact ⟨0, Nat.zero_le _, rfl, Own.nil, Below.refl _ _⟩
    case round =>
      obtain ⟨i, hi, rfl, hown, hb⟩ := hrel
      dsimp only at hown
      by_cases hil : i < n
      · obtain ⟨zi, hzi⟩ : ∃ z, bs[i]? = some z := ⟨_, List.getElem?_eq_getElem (by rw [hnn.out]; exact hil)⟩
        obtain ⟨db, doff, hDe, hdb, -, k0⟩ := (hDW.below hb).str hzi
        have hnx := hide (wrTo_next bs xs n i)
        have hlen := wrTo_len bs xs n i
        obtain ⟨L, hL⟩ : ∃ L, wrTo bs xs n i = L := ⟨_, rfl⟩
        rw [hL] at hown hnx hlen
        have hll : L.length ≤ 4000 := by have := Nat.mul_le_mul (show i ≤ 8 by omega) hn8; omega
        have hi0 : (0 : Int) ≤ (i : Int) := by omega
        have hi1 : (i : Int) < (n : Int) := by omega
        have hdb2 : db < wr.heap.size := by have := hb.size; omega
        have hpl2 : p < wr.heap.size := by have := hb.size; omega
        have q0 := tbox_later p0 hb
        obtain ⟨e0, e1, -, -⟩ := tbox_cells q0
        clear hL hlen q0
        subst hDe
        go_wp2_with fail
        clear e0 e1 k0
        go_loopw [5, 8] (fun v k wr => WrIn w1 (fun q => wrIn bs xs i q L) i n v k wr) (fun _ k _ => n - (intOf k).toNat)
        case atStart => exact ⟨0, Nat.zero_le _, by go_num, hown, hb⟩
        case round =>
          clear hown hb hdb2 hpl2
          obtain ⟨q, hq, rfl, hown, hb⟩ := hrel
          dsimp only at hown
          have hrl := wrIn_len bs xs i q L
          by_cases hkl : i + 1 + q < n
          · obtain ⟨k, hk⟩ : ∃ k, i + 1 + q = k := ⟨_, rfl⟩
            have hnx2 : wrIn bs xs i (q + 1) L = appW bs xs i k (wrIn bs xs i q L) := by rw [wrIn_next, hk]
            have hkq : ((i + 1 + (q + 1) : Nat) : Int) = ((k + 1 : Nat) : Int) := by omega
            have hq1 : q + 1 ≤ n - (i + 1) := by omega
            rw [hk] at hkl ⊢
            obtain ⟨lists, hlists⟩ : ∃ lists, wrIn bs xs i q L = lists := ⟨_, rfl⟩
            rw [hlists] at hown hnx2 hrl
            have hl9 : lists.length ≤ 4000000000 := by omega
            obtain ⟨zk, hzk⟩ : ∃ z, bs[k]? = some z := ⟨_, List.getElem?_eq_getElem (by rw [hnn.out]; exact hkl)⟩
            obtain ⟨db', doff', hDe, -, hdb, r0⟩ := hDW.str hzk
            injection hDe with hDe
            injection hDe with a1 a2
            subst a1 a2
            obtain ⟨ab, aoff, F, c1, fb, fo, x, rfl, hab, r1, rfl, hfb, r2, hx⟩ := sq_two hB.out.sq hAW.any hil hkl
            have hx0 := hB.out.lo i k hil hkl
            have hx1 := hB.out.hi i k hil hkl
            rw [← hx] at hx0 hx1
            have hrow : wayRow bs xs i k = [zi, zk, ⟨(dec2 x.toNat).toArray⟩] := by unfold wayRow; rw [getD_of hzi, getD_of hzk, ← hx]
            have q0 := tbox_later p0 hb
            obtain ⟨e0, e1, -, -⟩ := tbox_cells q0
            have hz := hb.size
            have hpl2 : p < wr.heap.size := by omega
            have hdb2 : db < wr.heap.size := by omega
            have hab2 : ab < wr.heap.size := by omega
            have hfb2 : fb < wr.heap.size := by omega
            replace r0 := cell_later hb r0
            replace r1 := cell_later hb r1
            replace r2 := cell_later hb r2
            have hk0 : (0 : Int) ≤ (k : Int) := by omega
            have hk1 : (k : Int) < (n : Int) := by omega
            have np := hide (hown.far hpl)
            have nd := hide (hown.far hdb)
            have na := hide (hown.far hab)
            have nf := hide (hown.far hfb)
            have happ : appW bs xs i k lists = if x = -1 then lists else lists ++ [wayRow bs xs i k] := by unfold appW; rw [← hx]
            rw [happ, hrow] at hnx2
            replace hkq := hide hkq
            clear hk hlists hzk hx hrow happ hrl q0
            by_cases hx2 : x = -1
            · have hs : Hid (wrIn bs xs i (q + 1) L = lists) := hide (hnx2.trans (if_pos hx2))
              subst hx2
              clear hnx2
              go_wp2_with fail
              go_roundw
              case rel => exact ⟨q + 1, hq1, by rw [hkq.out]; go_num, by dsimp only; rw [hs.out]; exact hown, hb⟩
              case measure => simp [intOf]; omega
            · obtain ⟨txt, htxt⟩ : ∃ txt, (⟨(dec2 x.toNat).toArray⟩ : ByteArray) = txt := ⟨_, rfl⟩
              have hs : Hid (wrIn bs xs i (q + 1) L = lists ++ [[zi, zk, txt]]) := hide ((hnx2.trans (if_neg hx2)).trans (by rw [htxt]))
              have hSL : Cn5 p 0 (.slice (some ⟨db, doff, none⟩) n d) p 1 (.slice (some ⟨ab, aoff, none⟩) n c) db (doff + k) (.string zk) ab (aoff + i) (.slice (some ⟨fb, fo, none⟩) n c1) fb (fo + k) (.int .i64 x) wr := ⟨e0, e1, r0, r1, r2⟩
              have hcall := hide (fun (V : World) (hV : Below wr.heap.size wr V) => (itoa_below x (by omega) (by omega) V).mono fun e w' ⟨he, hb'⟩ => (⟨by rw [he, htxt], ext_trans hV hb', hSL.later (ext_trans hV hb'), hown.later (ext_trans hV hb'), ext_trans hb (ext_trans hV hb')⟩ : e = Ending.returned (.string txt) ∧ Below wr.heap.size wr w' ∧ Cn5 p 0 (.slice (some ⟨db, doff, none⟩) n d) p 1 (.slice (some ⟨ab, aoff, none⟩) n c) db (doff + k) (.string zk) ab (aoff + i) (.slice (some ⟨fb, fo, none⟩) n c1) fb (fo + k) (.int .i64 x) w' ∧ Own (kSlice kStr) 22 [9] 0 w1.heap.size w' u5 lists ∧ Below w1.heap.size w1 w'))
              have hSd := hSL.drew
              have hrefl := Below.refl wr.heap.size wr
              have hx3 : (x != -1) = true := by simpa using hx2
              clear hnx2 htxt hDW hAW
              go_upto_region 12 with fail
              go_region_held3 (fun W' => W'.cell? ⟨p, 0, none⟩ = some (.slice (some ⟨db, doff, none⟩) n d) ∧ W'.cell? ⟨p, 1, none⟩ = some (.slice (some ⟨ab, aoff, none⟩) n c) ∧ W'.cell? ⟨db, doff + k, none⟩ = some (.string zk) ∧ W'.cell? ⟨ab, aoff + i, none⟩ = some (.slice (some ⟨fb, fo, none⟩) n c1) ∧ W'.cell? ⟨fb, fo + k, none⟩ = some (.int .i64 x)) (first | ((repeat (first | (with_reducible assumption) | (with_reducible refine Cn5.alloc ?_ _) | (with_reducible refine Cn5.drew ?_) | (with_reducible refine Cn5.set ?_ ?_ ?_ ?_ ?_ ?_ _) | omega)); done)) (first | (go_at_call 17; refine (hcall.out _ (by repeat (first | (with_reducible assumption) | (with_reducible refine ext_alloc ?_ _) | (with_reducible refine ext_drew ?_)))).mono ?_; rintro e w2 ⟨rfl, hb2, hx2, ho2, hbw2⟩) | (refine step_own (S := Cn5 p 0 (.slice (some ⟨db, doff, none⟩) n d) p 1 (.slice (some ⟨ab, aoff, none⟩) n c) db (doff + k) (.string zk) ab (aoff + i) (.slice (some ⟨fb, fo, none⟩) n c1) fb (fo + k) (.int .i64 x)) (K := kSlice kStr) (t := 22) (ts := [9]) (B0 := 0) (B := w1.heap.size) (v := u5) (l := lists) rfl (.tmp 40) (.tmp 57) rfl apd_lists (by decide) (by rfl) (by repeat (first | (with_reducible assumption) | (with_reducible refine Own.alloc ?_ _) | (with_reducible refine Own.drew ?_))) hl9 (by decide) _ _ (by rfl) [zi, zk, txt] [.slice (some ⟨_, 0, none⟩) 3 3] (rep_lit_strs (cs := #[.string zi, .string zk, .string txt]) (t := 9) [zi, zk, txt] (by first | exact heap_alloc_new _ _ | exact block_after (heap_alloc_new _ _) | exact block_after (block_after (heap_alloc_new _ _))) rfl rfl (Below.size (w := w1) (by repeat (first | (with_reducible assumption) | (with_reducible refine ext_alloc ?_ _) | (with_reducible refine ext_drew ?_)))) (by decide)) (World.news_of_block (cs := #[.slice (some ⟨_, 0, none⟩) 3 3]) (t := 22) (fr := (0, 0)) (by first | exact heap_alloc_new _ _ | exact heap_new2 _ _ _)) (by decide) (Nat.zero_le _) (Below.size (w := w1) (by repeat (first | (with_reducible assumption) | (with_reducible refine ext_alloc ?_ _) | (with_reducible refine ext_drew ?_)))) (fun W' hg => Cn5.grown (by repeat (first | (with_reducible assumption) | (with_reducible refine Cn5.alloc ?_ _) | (with_reducible refine Cn5.drew ?_))) hg np.out np.out nd.out na.out nf.out) ?_; intro gA capA w5 ho5 hg5 hs5))
              all_goals
                have hb5 : Below w1.heap.size w1 w5 := below_grown (by repeat (first | (with_reducible assumption) | (with_reducible refine ext_alloc ?_ _) | (with_reducible refine ext_drew ?_))) hg5 (fun y hy => (hown.lt y hy).1)
                clear hcall hSL hSd hrefl hg5 hs5
                go_wp2
                go_roundw
                case rel => exact ⟨q + 1, hq1, by rw [hkq.out]; go_num, by dsimp only; rw [hs.out]; exact ho5, hb5⟩
                case measure => simp [intOf]; omega
          · obtain rfl : q = n - (i + 1) := by omega
            have hkv : ((i + 1 + (n - (i + 1)) : Nat) : Int) = (n : Int) := by omega
            rw [← hnx.out] at hown
            have q0 := tbox_later p0 hb
            obtain ⟨e0, e1, -, -⟩ := tbox_cells q0
            have hpl2 : p < wr.heap.size := by have := hb.size; omega
            rw [hkv]
            clear q0
            go_wp2_with fail
            go_roundw
            case rel => exact ⟨i + 1, by omega, by go_num, hown, hb⟩
            case measure => simp [intOf]; omega
      · obtain rfl : i = n := by omega
        have hbn := ext_trans hbw hb
        have ho := hide (hown.lower hbw.size)
        go_wp2
        go_ret2
        rw [hfin.out]
        exact ⟨_, rfl, ho.out, hbn⟩
  · have hwv : writeV bs xs = [] := if_neg hV
    have hv2 : (validT bs xs != 0) = true := by simpa using hV
    rw [hwv] at hfin
    obtain ⟨V, hVV⟩ : ∃ V, validT bs xs = V := ⟨_, rfl⟩
    rw [hVV] at hval hv2 hfin
    clear hV hwv hVV hDW hAW p0
    go_enter Tryd.func5, Tryd.ntmps5
    go_wp2_with fail
    rw [hW.out]
    refine hval.mono ?_
    clear hval
    rintro e w1 ⟨rfl, hb1⟩
    go_wp2
    go_ret2
    rw [hfin.out]
    exact ⟨_, rfl, Own.nil, ext_trans hb0 hb1⟩
end Go.Proofs.YtjcfkbichmlgmaaDoor

namespace Go.Proofs.YtjcfkbichmlgmaaDoor
open Go.RowKit
set_option maxRecDepth 100000

set_option maxHeartbeats 8000000 in
theorem r8write_walk (D A : Option Addr) (bs : List ByteArray) (xs : List (List Int)) (d c : Nat) (w : World) (hbl : bs.length ≤ 9223372036854775807) (hxl : xs.length ≤ 9223372036854775807) (hrl : ∀ x ∈ xs, x.length ≤ 9223372036854775807) (hD : At kStr (· < w.heap.size) w D bs) (hA : At (kSlice kInt) (· < w.heap.size) w A xs) :
    Calls Tryd.prog 6 #[.agg #[.slice D bs.length d, .slice A xs.length c]] w fun e w' => Write8 bs xs w e w' := by
  have hb0 : Below w.heap.size w (w.alloc (.cells #[.slice D bs.length d, .slice A xs.length c] 25)) := (by repeat (first | exact Below.refl _ _ | refine ext_alloc ?_ _ | refine ext_drewN ?_ _ | refine ext_drew ?_ | refine ext_trans ?_ (by assumption)))
  have p0 : TBox (w.alloc (.cells #[.slice D bs.length d, .slice A xs.length c] 25)) w.heap.size (.slice D bs.length d) (.slice A xs.length c) := heap_alloc_new _ _
  obtain ⟨W, hW⟩ : ∃ W, w.alloc (.cells #[.slice D bs.length d, .slice A xs.length c] 25) = W := ⟨_, rfl⟩
  obtain ⟨p, hp⟩ : ∃ p, w.heap.size = p := ⟨_, rfl⟩
  rw [hW] at hb0 p0
  have hDW := (hD.below hb0).up hb0.size
  have hAW := (hA.below hb0).up hb0.size
  have hval := r8valid_walk D A bs xs d c W hbl hxl hrl hDW.any hAW.any
  have hfin : Hid (∀ e w', Write8 bs xs w e w' = (∃ v, e = .returned (.tuple #[v, .int .i64 (validT bs xs)]) ∧ Own (kSlice kStr) 22 [9] 0 w.heap.size w' v (writeV bs xs) ∧ Below w.heap.size w w')) := hide fun _ _ => rfl
  rw [hp] at p0
  replace hW := hide hW
  replace hp := hide hp
  clear hD hA
  by_cases hV : validT bs xs = 0
  · obtain ⟨hn8, hB⟩ := validT_ok hV
    have hwv : writeV bs xs = wrTo bs xs bs.length bs.length := if_pos hV
    have hxn := hB.sq.1
    rw [hV] at hval hfin
    rw [hwv] at hfin
    rw [hxn] at p0 hval hW ⊢
    obtain ⟨n, hnn⟩ : ∃ n, bs.length = n := ⟨_, rfl⟩
    rw [hnn] at p0 hval hW hfin hn8 hB hxn ⊢
    replace hnn := hide hnn
    replace hB := hide hB
    clear hV hwv
    go_enter Tryd.func6, Tryd.ntmps6
    go_wp2_with fail
    rw [hW.out, hp.out]
    refine hval.mono ?_
    rintro e w1 ⟨rfl, hb1⟩
    have hbw := ext_trans hb0 hb1
    replace p0 := tbox_later p0 hb1
    replace hDW := (hDW.below hb1).up hb1.size
    replace hAW := (hAW.below hb1).up hb1.size
    obtain ⟨e0, e1, -, -⟩ := tbox_cells p0
    have hpl := blk_lt p0
    clear hval hb0 hb1 hW
    go_wp2_with fail
    clear e0 e1
    go_loopw [5, 6] (fun v i wr => WrLoop w1 (fun q => wrTo bs xs n q) n v i wr) (fun _ i _ => n - (intOf i).toNat)
    case atStart => exact ⟨0, Nat.zero_le _, rfl, Own.nil, Below.refl _ _⟩
    case round =>
      obtain ⟨i, hi, rfl, hown, hb⟩ := hrel
      dsimp only at hown
      have q0 := tbox_later p0 hb
      obtain ⟨e0, e1, -, -⟩ := tbox_cells q0
      have hpl0 : p < wr.heap.size := by have := hb.size; omega
      by_cases hil : i < n
      · obtain ⟨zi, hzi⟩ : ∃ z, bs[i]? = some z := ⟨_, List.getElem?_eq_getElem (by rw [hnn.out]; exact hil)⟩
        obtain ⟨db, doff, hDe, -, hdb, rz0⟩ := hDW.str hzi
        have hnx := hide (wrTo_next bs xs n i)
        have hlen := wrTo_len bs xs n i
        obtain ⟨L, hL⟩ : ∃ L, wrTo bs xs n i = L := ⟨_, rfl⟩
        rw [hL] at hown hnx hlen
        have hll : L.length ≤ 4000 := by have := Nat.mul_le_mul (show i ≤ 8 by omega) hn8; omega
        have hi0 : (0 : Int) ≤ (i : Int) := by omega
        have hi1 : (i : Int) < (n : Int) := by omega
        have hdb2 : db < wr.heap.size := by have := hb.size; omega
        have hpl2 : p < wr.heap.size := by have := hb.size; omega
        clear hL hlen q0
        subst hDe
        go_wp2_with fail
        clear e0 e1
        go_loopw [5, 7] (fun v k wr => WrIn w1 (fun q => wrIn bs xs i q L) i n v k wr) (fun _ k _ => n - (intOf k).toNat)
        case atStart => exact ⟨0, Nat.zero_le _, by go_num, hown, hb⟩
        case round =>
          clear hown hb hdb2 hpl2
          obtain ⟨q, hq, rfl, hown, hb⟩ := hrel
          dsimp only at hown
          have hrl := wrIn_len bs xs i q L
          by_cases hkl : i + 1 + q < n
          · obtain ⟨k, hk⟩ : ∃ k, i + 1 + q = k := ⟨_, rfl⟩
            have hnx2 : wrIn bs xs i (q + 1) L = appW bs xs i k (wrIn bs xs i q L) := by rw [wrIn_next, hk]
            have hkq : ((i + 1 + (q + 1) : Nat) : Int) = ((k + 1 : Nat) : Int) := by omega
            have hq1 : q + 1 ≤ n - (i + 1) := by omega
            rw [hk] at hkl ⊢
            obtain ⟨lists, hlists⟩ : ∃ lists, wrIn bs xs i q L = lists := ⟨_, rfl⟩
            rw [hlists] at hown hnx2 hrl
            have hl9 : lists.length ≤ 4000000000 := by omega
            obtain ⟨zk, hzk⟩ : ∃ z, bs[k]? = some z := ⟨_, List.getElem?_eq_getElem (by rw [hnn.out]; exact hkl)⟩
            obtain ⟨db', doff', hDe, -, hdb, r0⟩ := hDW.str hzk
            injection hDe with hDe
            injection hDe with a1 a2
            subst a1 a2
            obtain ⟨ab, aoff, F, c1, fb, fo, x, rfl, hab, r1, rfl, hfb, r2, hx⟩ := sq_two hB.out.sq hAW.any hil hkl
            have hx0 := hB.out.lo i k hil hkl
            have hx1 := hB.out.hi i k hil hkl
            rw [← hx] at hx0 hx1
            have hrow : wayRow bs xs i k = [zi, zk, ⟨(dec2 x.toNat).toArray⟩] := by unfold wayRow; rw [getD_of hzi, getD_of hzk, ← hx]
            have q0 := tbox_later p0 hb
            obtain ⟨e0, e1, -, -⟩ := tbox_cells q0
            have hz := hb.size
            have hpl2 : p < wr.heap.size := by omega
            have hdb2 : db < wr.heap.size := by omega
            have hab2 : ab < wr.heap.size := by omega
            have hfb2 : fb < wr.heap.size := by omega
            replace r0 := cell_later hb r0
            have rz := cell_later hb rz0
            replace r1 := cell_later hb r1
            replace r2 := cell_later hb r2
            have hk0 : (0 : Int) ≤ (k : Int) := by omega
            have hk1 : (k : Int) < (n : Int) := by omega
            have np := hide (hown.far hpl)
            have nd := hide (hown.far hdb)
            have na := hide (hown.far hab)
            have nf := hide (hown.far hfb)
            have happ : appW bs xs i k lists = if x = -1 then lists else lists ++ [wayRow bs xs i k] := by unfold appW; rw [← hx]
            rw [happ, hrow] at hnx2
            replace hkq := hide hkq
            clear hk hlists hzk hx hrow happ hrl q0
            by_cases hx2 : x = -1
            · have hs : Hid (wrIn bs xs i (q + 1) L = lists) := hide (hnx2.trans (if_pos hx2))
              subst hx2
              clear hnx2
              go_wp2_with fail
              go_roundw
              case rel => exact ⟨q + 1, hq1, by rw [hkq.out]; go_num, by dsimp only; rw [hs.out]; exact hown, hb⟩
              case measure => simp [intOf]; omega
            · obtain ⟨txt, htxt⟩ : ∃ txt, (⟨(dec2 x.toNat).toArray⟩ : ByteArray) = txt := ⟨_, rfl⟩
              have hs : Hid (wrIn bs xs i (q + 1) L = lists ++ [[zi, zk, txt]]) := hide ((hnx2.trans (if_neg hx2)).trans (by rw [htxt]))
              have hSL : Cn6 p 0 (.slice (some ⟨db, doff, none⟩) n d) p 1 (.slice (some ⟨ab, aoff, none⟩) n c) db (doff + k) (.string zk) db (doff + i) (.string zi) ab (aoff + i) (.slice (some ⟨fb, fo, none⟩) n c1) fb (fo + k) (.int .i64 x) wr := ⟨e0, e1, r0, rz, r1, r2⟩
              have hcall := hide (fun (V : World) (hV : Below wr.heap.size wr V) => (decimal_below x (by omega) (by omega) V).mono fun e w' ⟨he, hb'⟩ => (⟨by rw [he, htxt], ext_trans hV hb', hSL.later (ext_trans hV hb'), hown.later (ext_trans hV hb'), ext_trans hb (ext_trans hV hb')⟩ : e = Ending.returned (.string txt) ∧ Below wr.heap.size wr w' ∧ Cn6 p 0 (.slice (some ⟨db, doff, none⟩) n d) p 1 (.slice (some ⟨ab, aoff, none⟩) n c) db (doff + k) (.string zk) db (doff + i) (.string zi) ab (aoff + i) (.slice (some ⟨fb, fo, none⟩) n c1) fb (fo + k) (.int .i64 x) w' ∧ Own (kSlice kStr) 22 [9] 0 w1.heap.size w' u5 lists ∧ Below w1.heap.size w1 w'))
              have hSd := hSL.drew
              have hrefl := Below.refl wr.heap.size wr
              have hx3 : (0 : Int) ≤ x := by omega
              clear hnx2 htxt hDW hAW
              go_upto_region 12 with fail
              go_region_held3 (fun W' => W'.cell? ⟨p, 0, none⟩ = some (.slice (some ⟨db, doff, none⟩) n d) ∧ W'.cell? ⟨p, 1, none⟩ = some (.slice (some ⟨ab, aoff, none⟩) n c) ∧ W'.cell? ⟨db, doff + k, none⟩ = some (.string zk) ∧ W'.cell? ⟨db, doff + i, none⟩ = some (.string zi) ∧ W'.cell? ⟨ab, aoff + i, none⟩ = some (.slice (some ⟨fb, fo, none⟩) n c1) ∧ W'.cell? ⟨fb, fo + k, none⟩ = some (.int .i64 x)) (first | ((repeat (first | (with_reducible assumption) | (with_reducible refine Cn6.alloc ?_ _) | (with_reducible refine Cn6.drew ?_) | (with_reducible refine Cn6.set ?_ ?_ ?_ ?_ ?_ ?_ ?_ _) | omega)); done)) (first | (go_at_call 18; refine (hcall.out _ (by repeat (first | (with_reducible assumption) | (with_reducible refine ext_alloc ?_ _) | (with_reducible refine ext_drew ?_)))).mono ?_; rintro e w2 ⟨rfl, hb2, hx2, ho2, hbw2⟩) | (refine step_own (S := Cn6 p 0 (.slice (some ⟨db, doff, none⟩) n d) p 1 (.slice (some ⟨ab, aoff, none⟩) n c) db (doff + k) (.string zk) db (doff + i) (.string zi) ab (aoff + i) (.slice (some ⟨fb, fo, none⟩) n c1) fb (fo + k) (.int .i64 x)) (K := kSlice kStr) (t := 22) (ts := [9]) (B0 := 0) (B := w1.heap.size) (v := u5) (l := lists) rfl (.tmp 38) (.tmp 59) rfl apd_lists (by decide) (by rfl) (by repeat (first | (with_reducible assumption) | (with_reducible refine Own.alloc ?_ _) | (with_reducible refine Own.drew ?_))) hl9 (by decide) _ _ (by rfl) [zi, zk, txt] [.slice (some ⟨_, 0, none⟩) 3 3] (rep_lit_strs (cs := #[.string zi, .string zk, .string txt]) (t := 9) [zi, zk, txt] (by first | exact heap_alloc_new _ _ | exact block_after (heap_alloc_new _ _) | exact block_after (block_after (heap_alloc_new _ _))) rfl rfl (Below.size (w := w1) (by repeat (first | (with_reducible assumption) | (with_reducible refine ext_alloc ?_ _) | (with_reducible refine ext_drew ?_)))) (by decide)) (World.news_of_block (cs := #[.slice (some ⟨_, 0, none⟩) 3 3]) (t := 22) (fr := (0, 0)) (by first | exact heap_alloc_new _ _ | exact heap_new2 _ _ _)) (by decide) (Nat.zero_le _) (Below.size (w := w1) (by repeat (first | (with_reducible assumption) | (with_reducible refine ext_alloc ?_ _) | (with_reducible refine ext_drew ?_)))) (fun W' hg => Cn6.grown (by repeat (first | (with_reducible assumption) | (with_reducible refine Cn6.alloc ?_ _) | (with_reducible refine Cn6.drew ?_))) hg np.out np.out nd.out nd.out na.out nf.out) ?_; intro gA capA w5 ho5 hg5 hs5))
              all_goals
                have hb5 : Below w1.heap.size w1 w5 := below_grown (by repeat (first | (with_reducible assumption) | (with_reducible refine ext_alloc ?_ _) | (with_reducible refine ext_drew ?_))) hg5 (fun y hy => (hown.lt y hy).1)
                clear hcall hSL hSd hrefl hg5 hs5
                go_wp2
                go_roundw
                case rel => exact ⟨q + 1, hq1, by rw [hkq.out]; go_num, by dsimp only; rw [hs.out]; exact ho5, hb5⟩
                case measure => simp [intOf]; omega
          · obtain rfl : q = n - (i + 1) := by omega
            have hkv : ((i + 1 + (n - (i + 1)) : Nat) : Int) = (n : Int) := by omega
            rw [← hnx.out] at hown
            have q0 := tbox_later p0 hb
            obtain ⟨e0, e1, -, -⟩ := tbox_cells q0
            have hpl2 : p < wr.heap.size := by have := hb.size; omega
            rw [hkv]
            clear q0
            go_wp2_with fail
            go_roundw
            case rel => exact ⟨i + 1, by omega, by go_num, hown, hb⟩
            case measure => simp [intOf]; omega
      · obtain rfl : i = n := by omega
        have hbn := ext_trans hbw hb
        have ho := hide (hown.lower hbw.size)
        go_wp2
        go_ret2
        rw [hfin.out]
        exact ⟨_, rfl, ho.out, hbn⟩
  · have hwv : writeV bs xs = [] := if_neg hV
    have hv2 : (validT bs xs != 0) = true := by simpa using hV
    rw [hwv] at hfin
    obtain ⟨V, hVV⟩ : ∃ V, validT bs xs = V := ⟨_, rfl⟩
    rw [hVV] at hval hv2 hfin
    clear hV hwv hVV hDW hAW p0
    go_enter Tryd.func6, Tryd.ntmps6
    go_wp2_with fail
    rw [hW.out]
    refine hval.mono ?_
    clear hval
    rintro e w1 ⟨rfl, hb1⟩
    go_wp2
    go_ret2
    rw [hfin.out]
    exact ⟨_, rfl, Own.nil, ext_trans hb0 hb1⟩
end Go.Proofs.YtjcfkbichmlgmaaDoor
