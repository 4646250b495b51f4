/- Walk of timetableref07.Same at equal lists of rooms. Conditions: the cells. What the document's reading of a room gives, beside the program's (plain). No walk. -/
import Derived.Test.YtnbcaklnpflihaaGreatDoorKROneP
import Derived.Test.YtnbcaklnpflihaaGreatDoorKSameL
import Derived.Test.YtnbcaklnpflihaaGreatDoorKValB
import Derived.Test.YtnbcaklnpflihaaGreatDoorKShort
import Derived.Test.YtnbcaklnpflihaaGreatDoorKDigT
import Derived.Test.YtnbcaklnpflihaaGreatDoorKCOneR
namespace Go.Proofs.YtnbcaklnpflihaaGreatDoor
open Go.RowKit
set_option maxRecDepth 100000

set_option maxHeartbeats 8000000 in
theorem r7SameRooms_walk (A A' : Option Addr) (l : List Room) (c c' : Nat) (w : World) (hn : l.length ≤ 9223372036854775807) (hm : ∀ x ∈ l, x.2.2.2.1.length ≤ 9223372036854775807 ∧ x.2.2.2.2.length ≤ 9223372036854775807) (h1 : At kRoom (· < w.heap.size) w A l) (h2 : At kRoom (· < w.heap.size) w A' l) :
    Calls Tryz.prog 8 #[.slice A l.length c, .slice A' l.length c'] w fun e w' => e = .returned (.bool true) ∧ Below w.heap.size w w' := by
  obtain ⟨n, hnn⟩ : ∃ n, l.length = n := ⟨_, rfl⟩
  rw [hnn] at hn ⊢
  replace hnn := hide hnn
  replace hm := hide hm
  go_enter Tryz.func8, Tryz.ntmps8
  go_wp2
  go_loopw [5] (fun i wr => ∃ j : Nat, j ≤ n ∧ i = .int .i64 j ∧ Below w.heap.size w wr) (fun i _ => n - (intOf i).toNat)
  case atStart => exact ⟨0, Nat.zero_le _, rfl, Below.refl _ _⟩
  case round =>
    obtain ⟨j, hj, rfl, hb⟩ := hrel
    by_cases hlt : j < n
    · obtain ⟨x, hx⟩ : ∃ x, l[j]? = some x := ⟨_, List.getElem?_eq_getElem (by rw [hnn.out]; exact hlt)⟩
      have hxl := hm.out _ (List.mem_of_getElem? hx)
      obtain ⟨b1, o1, F1, p1, Q1, r1, rfl, -, hb1, ⟨a0, a1, a2, a3, a4⟩, -, -, t1, t2⟩ := (h1.later hb).room hx
      obtain ⟨b2, o2, F2, p2, Q2, r2, rfl, -, hb2, ⟨e0, e1, e2, e3, e4⟩, -, -, s1, s2⟩ := (h2.later hb).room hx
      obtain ⟨code, bl, sn, xs, ts⟩ := x
      dsimp only at a0 a1 a2 a3 a4 e0 e1 e2 e3 e4 t1 t2 s1 s2 hxl
      obtain ⟨m1, m2⟩ := hxl
      have hj0 : (0 : Int) ≤ (j : Int) := by omega
      have hj1 : (j : Int) < (n : Int) := by omega
      obtain ⟨k, hk⟩ : ∃ k, xs.length = k := ⟨_, rfl⟩
      obtain ⟨k4, hk4⟩ : ∃ k4, ts.length = k4 := ⟨_, rfl⟩
      have hcall0 := hide (fun (W : World) (hW : Below wr.heap.size wr W) => r2SameS_walk F1 F2 xs p1 p2 W m1 (t1.any.later hW) (s1.any.later hW))
      have hcall1 := hide (fun (W : World) (hW : Below wr.heap.size wr W) => r7Same_walk Q1 Q2 ts.length r1 r2 _ W m2 ((cells_of_at (t2.later hW)).more (by have := hb.size; have := hW.size; omega)) ((cells_of_at (s2.later hW)).more (by have := hb.size; have := hW.size; omega)))
      rw [hk] at a3 e3 hcall0
      rw [hk4] at a4 e4 hcall1
      clear hk hk4
      have hSL : Cn10 b1 ((o1 + j * 5)) (.string code) b1 ((o1 + j * 5 + 1)) (.string bl) b1 ((o1 + j * 5 + 2)) (.int .i64 sn) b1 ((o1 + j * 5 + 3)) (.slice F1 k p1) b1 ((o1 + j * 5 + 4)) (.slice Q1 k4 r1) b2 ((o2 + j * 5)) (.string code) b2 ((o2 + j * 5 + 1)) (.string bl) b2 ((o2 + j * 5 + 2)) (.int .i64 sn) b2 ((o2 + j * 5 + 3)) (.slice F2 k p2) b2 ((o2 + j * 5 + 4)) (.slice Q2 k4 r2) wr := ⟨a0, a1, a2, a3, a4, e0, e1, e2, e3, e4⟩
      have hcallA := hide (fun (W : World) (hW : Below wr.heap.size wr W) => (hcall0.out W hW).mono fun e w' ⟨he, hb⟩ => (⟨he, ext_trans hW hb, hSL.later (ext_trans hW hb)⟩ : e = Ending.returned (.bool true) ∧ Below wr.heap.size wr w' ∧ Cn10 b1 ((o1 + j * 5)) (.string code) b1 ((o1 + j * 5 + 1)) (.string bl) b1 ((o1 + j * 5 + 2)) (.int .i64 sn) b1 ((o1 + j * 5 + 3)) (.slice F1 k p1) b1 ((o1 + j * 5 + 4)) (.slice Q1 k4 r1) b2 ((o2 + j * 5)) (.string code) b2 ((o2 + j * 5 + 1)) (.string bl) b2 ((o2 + j * 5 + 2)) (.int .i64 sn) b2 ((o2 + j * 5 + 3)) (.slice F2 k p2) b2 ((o2 + j * 5 + 4)) (.slice Q2 k4 r2) w'))
      have hcallB := hide (fun (W : World) (hW : Below wr.heap.size wr W) => (hcall1.out W hW).mono fun e w' ⟨he, hb⟩ => (⟨he, ext_trans hW hb, hSL.later (ext_trans hW hb)⟩ : e = Ending.returned (.bool true) ∧ Below wr.heap.size wr w' ∧ Cn10 b1 ((o1 + j * 5)) (.string code) b1 ((o1 + j * 5 + 1)) (.string bl) b1 ((o1 + j * 5 + 2)) (.int .i64 sn) b1 ((o1 + j * 5 + 3)) (.slice F1 k p1) b1 ((o1 + j * 5 + 4)) (.slice Q1 k4 r1) b2 ((o2 + j * 5)) (.string code) b2 ((o2 + j * 5 + 1)) (.string bl) b2 ((o2 + j * 5 + 2)) (.int .i64 sn) b2 ((o2 + j * 5 + 3)) (.slice F2 k p2) b2 ((o2 + j * 5 + 4)) (.slice Q2 k4 r2) w'))
      have hSd := hSL.drew
      have hrefl := Below.refl wr.heap.size wr
      clear h1 h2 hx t1 t2 s1 s2 hcall0 hcall1 m1 m2
      go_wp2_with fail
      simp only [List.append_eq, List.cons_append, List.nil_append]
      go_region_held3 (fun W' => W'.cell? ⟨b1, (o1 + j * 5), none⟩ = some (.string code) ∧ W'.cell? ⟨b1, (o1 + j * 5 + 1), none⟩ = some (.string bl) ∧ W'.cell? ⟨b1, (o1 + j * 5 + 2), none⟩ = some (.int .i64 sn) ∧ W'.cell? ⟨b1, (o1 + j * 5 + 3), none⟩ = some (.slice F1 k p1) ∧ W'.cell? ⟨b1, (o1 + j * 5 + 4), none⟩ = some (.slice Q1 k4 r1) ∧ W'.cell? ⟨b2, (o2 + j * 5), none⟩ = some (.string code) ∧ W'.cell? ⟨b2, (o2 + j * 5 + 1), none⟩ = some (.string bl) ∧ W'.cell? ⟨b2, (o2 + j * 5 + 2), none⟩ = some (.int .i64 sn) ∧ W'.cell? ⟨b2, (o2 + j * 5 + 3), none⟩ = some (.slice F2 k p2) ∧ W'.cell? ⟨b2, (o2 + j * 5 + 4), none⟩ = some (.slice Q2 k4 r2)) (first | ((repeat (first | (with_reducible assumption) | (with_reducible refine Cn10.alloc ?_ _) | (with_reducible refine Cn10.drew ?_) | (with_reducible refine Cn10.set ?_ ?_ ?_ ?_ ?_ ?_ ?_ ?_ ?_ ?_ ?_ _) | omega)); done)) (first | (go_at_call 21; refine (hcallA.out _ (by repeat (first | (with_reducible assumption) | (with_reducible refine ext_alloc ?_ _) | (with_reducible refine ext_drew ?_)))).mono ?_; rintro e w2 ⟨rfl, hb2, hc2⟩) | (go_at_call 22; refine (hcallB.out _ (by repeat (first | (with_reducible assumption) | (with_reducible refine ext_alloc ?_ _) | (with_reducible refine ext_drew ?_)))).mono ?_; rintro e w3 ⟨rfl, hb3, hc3⟩))
      all_goals
        have hbn := ext_trans hb hb3
        go_wp2
        go_roundw
        case rel => exact ⟨j + 1, by omega, by go_num, by first | exact ext_drew hbn | exact hbn⟩
        case measure => simp [intOf]; omega
    · obtain rfl : j = n := by omega
      go_wp2
      go_ret
      exact ⟨rfl, hb⟩
end Go.Proofs.YtnbcaklnpflihaaGreatDoor

namespace Go.Proofs.YtnbcaklnpflihaaGreatDoor
open Go.RowKit
set_option maxRecDepth 100000

/-- One record's step, told by the place and the error that the document's reading gives. -/
theorem gath_ke {α : Type} {n : Nat} {P : Int → List Fld → List α → Option Prob} {f : List Fld → α} {line : Int} {fs : List Fld} {st : RG α} {ke : Int × Int}
    (h1 : fs.length ≠ n → ke = (-1, 9)) (h2 : fs.length = n → P line fs st.ls = if ke.2 = 0 then none else some (line, placeOf fs ke.1, ke.2)) :
    gathStep n P f st (line, fs) = if ke.2 = 0 then ⟨st.ls ++ [f fs], st.lines ++ [line], st.ps⟩ else ⟨st.ls, st.lines, st.ps ++ [(line, placeOf fs ke.1, ke.2)]⟩ := by
  unfold gathStep
  dsimp only
  by_cases hn : fs.length = n
  · rw [if_pos hn, h2 hn]
    by_cases h0 : ke.2 = 0
    · rw [if_pos h0, if_pos h0]
    · rw [if_neg h0, if_neg h0]
  · rw [if_neg hn, h1 hn, if_neg (by decide)]
    rfl
/-- The place and the error of a room's record. -/
def roomKE (d sl b m n : Int) (fs : List Fld) (ls : List Room) : Int × Int :=
  if fs.length ≠ 5 then (-1, 9) else
  if codeB (textAt fs 0) = false then (0, 10) else
  if codeB (textAt fs 1) = false then (1, 10) else
  if numS 4 (textAt fs 2) = none then (2, 4) else
  if (shortV (textAt fs 3)).1 ≠ 0 then (3, ((shortV (textAt fs 3)).1 : Int)) else
  if timesE d sl b m n (partsOf (textAt fs 4)) ≠ 0 then (4, timesE d sl b m n (partsOf (textAt fs 4))) else
  if 0 ≤ idxS (textAt fs 0) (codesR ls) then (-1, 11) else
  if ls.length = 16 then (-1, 2) else (0, 0)
theorem room_ke (d sl b m n line : Int) (fs : List Fld) (ls : List Room) (hl : ls.length ≤ 16) (h5 : fs.length = 5) :
    roomP d sl b m n line fs ls = if (roomKE d sl b m n fs ls).2 = 0 then none else some (line, placeOf fs (roomKE d sl b m n fs ls).1, (roomKE d sl b m n fs ls).2) := by
  have e0 : placeOf fs 0 = colAt fs 1 := rfl
  have e1 : placeOf fs 1 = colAt fs 2 := rfl
  have e2 : placeOf fs 2 = colAt fs 3 := rfl
  have e3 : placeOf fs 3 = colAt fs 4 := rfl
  have e4 : placeOf fs 4 = colAt fs 5 := rfl
  have e9 : placeOf fs (-1) = 0 := rfl
  unfold roomP fieldsR roomKE
  rw [short_codes, if_neg (show ¬ fs.length ≠ 5 from fun h => h h5)]
  obtain ⟨s3, hs3⟩ : ∃ s3, (shortV (textAt fs 3)).1 = s3 := ⟨_, rfl⟩
  obtain ⟨t4, ht4⟩ : ∃ t4, timesE d sl b m n (partsOf (textAt fs 4)) = t4 := ⟨_, rfl⟩
  rw [hs3, ht4]
  cases codeB (textAt fs 0) with
  | false => simp [orP, noted, e0]
  | true =>
    cases codeB (textAt fs 1) with
    | false => simp [orP, noted, e1]
    | true =>
      cases numS 4 (textAt fs 2) with
      | none => simp [orP, noted, numP, e2]
      | some k =>
        by_cases h3 : s3 = 0
        · by_cases h4 : t4 = 0
          · by_cases hi : 0 ≤ idxS (textAt fs 0) (codesR ls)
            · simp [orP, noted, numP, h3, h4, probOf, hi, e9]
            · by_cases h16 : ls.length = 16
              · simp [orP, noted, numP, h3, h4, probOf, hi, h16, e9]
              · have : ¬ 16 ≤ ls.length := by omega
                simp [orP, noted, numP, h3, h4, probOf, hi, h16, this]
          · simp [orP, noted, numP, h3, h4, probOf, e4]
        · simp [orP, noted, numP, h3, e3]
theorem room_step {d sl b m n line : Int} {fs : List Fld} {st : RG Room} (hl : st.ls.length ≤ 16) :
    gathStep 5 (roomP d sl b m n) (roomOf d sl b m n) st (line, fs) = if (roomKE d sl b m n fs st.ls).2 = 0 then ⟨st.ls ++ [roomOf d sl b m n fs], st.lines ++ [line], st.ps⟩ else ⟨st.ls, st.lines, st.ps ++ [(line, placeOf fs (roomKE d sl b m n fs st.ls).1, (roomKE d sl b m n fs st.ls).2)]⟩ :=
  gath_ke (fun h => if_pos h) (fun h => room_ke d sl b m n line fs st.ls hl h)
theorem room_place (d sl b m n : Int) (fs : List Fld) (ls : List Room) : (roomKE d sl b m n fs ls).1 < fs.length := by
  unfold roomKE
  by_cases h5 : fs.length = 5
  · rw [if_neg (show ¬ fs.length ≠ 5 from fun h => h h5), h5]
    repeat' split
    all_goals first | decide | exact (show (3 : Int) < ((5 : Nat) : Int) by decide) | exact (show (4 : Int) < ((5 : Nat) : Int) by decide)
  · rw [if_pos h5]
    show (-1 : Int) < _
    omega
end Go.Proofs.YtnbcaklnpflihaaGreatDoor
