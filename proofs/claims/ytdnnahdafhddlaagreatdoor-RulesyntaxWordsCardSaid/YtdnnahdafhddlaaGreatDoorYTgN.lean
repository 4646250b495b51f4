/- Walks of timetableref06.Format and Weekday. The listed variables hold their words. Walks of timetableref06.Weekday and Parse. Conditions: texts shorter than 2^30 bytes; the listed variables hold their words. Walk of timetableref06.Parse. Conditions: texts shorter than 2^30 bytes; the listed variables hold their words. -/
import Derived.Test.YtdnnahdafhddlaaGreatDoorYTgK
import Derived.Test.YtdnnahdafhddlaaGreatDoorYRef5C
namespace Go.Proofs.YtdnnahdafhddlaaGreatDoor
open Go.RowKit
set_option maxRecDepth 100000

theorem Dys.cell {w : World} (h : Dys w) (k : Nat) (hk : k < 7) : w.cell? ⟨2, k, none⟩ = some (.string (dayB k)) := by
  obtain ⟨t, r, hr⟩ := h
  rw [cell_of_row w _ k _ _ _ hr]
  match k, hk with
  | 0, _ | 1, _ | 2, _ | 3, _ | 4, _ | 5, _ | 6, _ => rfl
end Go.Proofs.YtdnnahdafhddlaaGreatDoor

namespace Go.Proofs.YtdnnahdafhddlaaGreatDoor
open Go.RowKit
set_option maxRecDepth 100000

theorem idx_hit (x : ByteArray) : ∀ (zs : List ByteArray) (i k : Nat), (∀ j, j < k → zs[j]? ≠ some x) → zs[k]? = some x → Lib.idxFromS zs x i = ((i + k : Nat) : Int)
  | [], i, k, _, h => by simp at h
  | z :: zs, i, 0, _, h => by
    simp at h
    unfold Lib.idxFromS
    rw [if_pos h]; rfl
  | z :: zs, i, k + 1, hm, h => by
    have h0 := hm 0 (by omega)
    simp at h0 h
    unfold Lib.idxFromS
    rw [if_neg h0, idx_hit x zs (i + 1) k (fun j hj => by have := hm (j + 1) (by omega); simpa using this) h]
    congr 1
    omega
theorem idx_miss (x : ByteArray) : ∀ (zs : List ByteArray) (i : Nat), (∀ j : Nat, zs[j]? ≠ some x) → Lib.idxFromS zs x i = -1
  | [], _, _ => rfl
  | z :: zs, i, hm => by
    have h0 := hm 0
    simp at h0
    unfold Lib.idxFromS
    rw [if_neg h0]
    exact idx_miss x zs (i + 1) (fun j => by have := hm (j + 1); simpa using this)
theorem dayNames_get (k : Nat) (hk : k < 7) : dayNames[k]? = some (dayB k) := by
  match k, hk with
  | 0, _ | 1, _ | 2, _ | 3, _ | 4, _ | 5, _ | 6, _ => rfl
theorem dayI_hit {x : ByteArray} {k : Nat} (hk : k < 7) (hm : ∀ j, j < k → dayB j ≠ x) (h : dayB k = x) : dayI x = (k : Int) := by
  have := idx_hit x dayNames 0 k (fun j hj e => hm j hj (Option.some.inj ((dayNames_get j (by omega)).symm.trans e))) ((dayNames_get k hk).trans (congrArg some h))
  rw [Nat.zero_add] at this
  exact this
theorem dayI_miss {x : ByteArray} (hm : ∀ j, j < 7 → dayB j ≠ x) : dayI x = -1 :=
  idx_miss x dayNames 0 (fun j e => by
    by_cases hj : j < 7
    · exact hm j hj (Option.some.inj ((dayNames_get j hj).symm.trans e))
    · rw [List.getElem?_eq_none (by show 7 ≤ j; omega)] at e; cases e)
theorem toList_inj {a b : ByteArray} : (a.toList == b.toList) = decide (a = b) := by
  rw [Bool.eq_iff_iff, beq_iff_eq, decide_eq_true_eq, Lib.toList_data, Lib.toList_data]
  constructor
  · intro h; apply ByteArray.ext; exact Array.toList_inj.1 h
  · rintro rfl; rfl
set_option maxHeartbeats 800000 in
theorem weekday_walk (x : ByteArray) (w : World) (hDy : Dys w) :
    Calls Tryz.prog 156 #[.string x] w fun e w' => e = .returned (.int .i64 (dayI x)) ∧ w = w' := by
  go_enter Tryz.func156, Tryz.ntmps156
  go_wp2
  go_loop [3] (fun i => ∃ k : Nat, k ≤ 7 ∧ i = .int .i64 k ∧ ∀ j, j < k → dayB j ≠ x) (fun i => (7 - intOf i).toNat)
  case atStart => exact ⟨0, by omega, rfl, fun j hj => by omega⟩
  case round =>
    obtain ⟨k, hk, rfl, hm⟩ := hrel
    replace hm := hide hm
    by_cases hlt : k < 7
    · have c0 := hDy.cell k hlt
      have k0 : (0 : Int) ≤ k := by omega
      have k1 : (k : Int) < 7 := by omega
      by_cases he : dayB k = x
      · have hb : ((dayB k).toList == x.toList) = true := by rw [toList_inj]; simpa using he
        have hfin := hide (dayI_hit hlt hm.out he)
        replace he := hide he
        go_wp2
        go_ret
        exact ⟨ret_int hfin.out.symm, rfl⟩
      · have hb : ((dayB k).toList == x.toList) = false := by rw [toList_inj]; simpa using he
        replace he := hide he
        go_wp2
        go_round
        case rel => exact ⟨k + 1, by omega, by go_num, fun j hj => by
          by_cases e : j = k
          · subst e; exact he.out
          · exact hm.out j (by omega)⟩
        case measure => simp [intOf]; omega
    · have hk7 : k = 7 := by omega
      have hfin := hide (dayI_miss (x := x) (fun j hj => hm.out j (by omega)))
      clear hk7
      go_wp2
      go_ret
      exact ⟨ret_int hfin.out.symm, rfl⟩
end Go.Proofs.YtdnnahdafhddlaaGreatDoor

namespace Go.Proofs.YtdnnahdafhddlaaGreatDoor
open Go.RowKit
set_option maxRecDepth 100000

/-- The error of a text cut at its spaces. -/
def cutE (d sl : Int) (a b c : List UInt8) (two three four : Bool) : Int :=
  if two = false ∨ four = true ∨ (three = true ∧ c = []) ∨ dayI ⟨a.toArray⟩ < 0 ∨ slotsOk b = false then 4 else if d ≤ dayI ⟨a.toArray⟩ ∨ sl < slotsTo b ∨ slotsTo b < slotsFrom b then 14 else 0
def cutT (d sl bg m n : Int) (a b c : List UInt8) (two three four : Bool) : Int × Int × Int × Int × Int :=
  if weekB d sl bg m n = false then (0, 0, 0, 0, 1) else
  if cutE d sl a b c two three four ≠ 0 then (0, 0, 0, 0, cutE d sl a b c two three four) else
  if three = true then (if (parseV ⟨c.toArray⟩ n).2 = 0 then ((parseV ⟨c.toArray⟩ n).1, dayI ⟨a.toArray⟩, slotsFrom b - 1, slotsTo b - slotsFrom b + 1, 0) else (0, 0, 0, 0, (parseV ⟨c.toArray⟩ n).2))
  else (2 ^ n.toNat - 1, dayI ⟨a.toArray⟩, slotsFrom b - 1, slotsTo b - slotsFrom b + 1, 0)
theorem size_zero {c : List UInt8} : (⟨c.toArray⟩ : ByteArray).size = 0 ↔ c = [] := by
  show c.toArray.size = 0 ↔ c = []
  rw [List.size_toArray]; exact List.length_eq_zero_iff
/-- Cutting at the spaces one after another comes to what splitting does. -/
theorem cut_parse {d sl bg m n : Int} {s : ByteArray} {a r b c p q : List UInt8} {two three four : Bool} (h1 : cut1 32 s.data.toList = (a, r, two)) (h2 : cut1 32 r = (b, c, three)) (h3 : cut1 32 c = (p, q, four)) :
    cutT d sl bg m n a b c two three four = parseT d sl bg m n (Lib.splitB ⟨#[32]⟩ 0 (Lib.countB s ⟨#[32]⟩) s) := by
  unfold cutT
  cases hw : weekB d sl bg m n
  · rw [if_pos rfl, show ∀ zs, parseT d sl bg m n zs = (0, 0, 0, 0, 1) from fun zs => if_pos hw]
  rw [if_neg (by simp)]
  have e1 : splitOn1 32 s.data.toList = if two then a :: splitOn1 32 r else [s.data.toList] := by rw [splitOn1_cut, h1]
  have e2 : splitOn1 32 r = if three then b :: splitOn1 32 c else [r] := by rw [splitOn1_cut, h2]
  have e3 : splitOn1 32 c = if four then p :: splitOn1 32 q else [c] := by rw [splitOn1_cut, h3]
  cases two with
  | false =>
    rw [split_text s [s] (by rw [e1]; rfl)]
    rw [show cutE d sl a b c false three four = 4 from if_pos (Or.inl rfl), if_pos (by decide)]
    simp [parseT, hw]
  | true =>
    cases three with
    | false =>
      obtain ⟨f1, f2, -⟩ := cut1_none 32 r (by rw [h2])
      rw [h2] at f1 f2
      have f1 : b = r := f1
      have f2 : c = [] := f2
      subst f1 f2
      have h4 : four = false := by have : cut1 32 [] = ([], [], false) := rfl; rw [this] at h3; exact (congrArg (·.2.2) h3).symm
      subst h4
      rw [split_text s [⟨a.toArray⟩, ⟨b.toArray⟩] (by rw [e1, e2]; rfl)]
      have hE : cutE d sl a b [] true false false = slotE d sl ⟨a.toArray⟩ ⟨b.toArray⟩ ⟨b.toArray⟩ := by
        by_cases hd : dayI ⟨a.toArray⟩ < 0
        · exact (if_pos (by simp [hd])).trans (if_pos (Or.inl hd)).symm
        · cases ho : slotsOk b
          · exact (if_pos (by simp [ho])).trans (if_pos (Or.inr (Or.inl ho))).symm
          · have hz := slotsOk_size (y := ⟨b.toArray⟩) ho
            have hL : cutE d sl a b [] true false false = if d ≤ dayI ⟨a.toArray⟩ ∨ sl < slotsTo b ∨ slotsTo b < slotsFrom b then 14 else 0 := if_neg (by simp [hd, ho])
            have hR : slotE d sl ⟨a.toArray⟩ ⟨b.toArray⟩ ⟨b.toArray⟩ = if d ≤ dayI ⟨a.toArray⟩ ∨ slotsTo b < slotsFrom b ∨ sl < slotsTo b then 14 else 0 := if_neg (by
              rintro (h | h | h)
              · exact hd h
              · exact absurd (ho.symm.trans h) (by simp)
              · exact hz h)
            rw [hL, hR]
            by_cases hc : d ≤ dayI ⟨a.toArray⟩ ∨ sl < slotsTo b ∨ slotsTo b < slotsFrom b
            · rw [if_pos hc, if_pos (by omega)]
            · rw [if_neg hc, if_neg (by omega)]
      rw [hE]
      by_cases he : slotE d sl ⟨a.toArray⟩ ⟨b.toArray⟩ ⟨b.toArray⟩ = 0
      · rw [parseT2_ok hw he, if_neg (by simp [he]), if_neg (by simp)]
      · rw [parseT2_err hw rfl he, if_pos he]
    | true =>
      cases four with
      | true =>
        have hz := splitOn1_ne 32 q
        cases hq : splitOn1 32 q with
        | nil => exact absurd hq hz
        | cons u v =>
          rw [split_text s (⟨a.toArray⟩ :: ⟨b.toArray⟩ :: ⟨p.toArray⟩ :: ⟨u.toArray⟩ :: v.map fun x => ⟨x.toArray⟩) (by
            rw [e1, e2, e3, hq]
            simp [Function.comp_def])]
          rw [show cutE d sl a b c true true true = 4 from if_pos (by simp), if_pos (by decide)]
          simp [parseT, hw]
      | false =>
        rw [split_text s [⟨a.toArray⟩, ⟨b.toArray⟩, ⟨c.toArray⟩] (by rw [e1, e2, e3]; rfl)]
        have hE : cutE d sl a b c true true false = slotE d sl ⟨a.toArray⟩ ⟨b.toArray⟩ ⟨c.toArray⟩ := by
          by_cases hd : dayI ⟨a.toArray⟩ < 0 ∨ slotsOk b = false ∨ c = []
          · refine (if_pos ?_).trans (if_pos ?_).symm
            · rcases hd with h | h | h
              · exact Or.inr (Or.inr (Or.inr (Or.inl h)))
              · exact Or.inr (Or.inr (Or.inr (Or.inr h)))
              · exact Or.inr (Or.inr (Or.inl ⟨rfl, h⟩))
            · rcases hd with h | h | h
              · exact Or.inl h
              · exact Or.inr (Or.inl h)
              · exact Or.inr (Or.inr (size_zero.2 h))
          · have hL : cutE d sl a b c true true false = if d ≤ dayI ⟨a.toArray⟩ ∨ sl < slotsTo b ∨ slotsTo b < slotsFrom b then 14 else 0 := if_neg (by
              rintro (h | h | ⟨-, h⟩ | h | h)
              · cases h
              · cases h
              · exact hd (Or.inr (Or.inr h))
              · exact hd (Or.inl h)
              · exact hd (Or.inr (Or.inl h)))
            have hR : slotE d sl ⟨a.toArray⟩ ⟨b.toArray⟩ ⟨c.toArray⟩ = if d ≤ dayI ⟨a.toArray⟩ ∨ slotsTo b < slotsFrom b ∨ sl < slotsTo b then 14 else 0 := if_neg (by
              rintro (h | h | h)
              · exact hd (Or.inl h)
              · exact hd (Or.inr (Or.inl h))
              · exact hd (Or.inr (Or.inr (size_zero.1 h))))
            rw [hL, hR]
            by_cases hc : d ≤ dayI ⟨a.toArray⟩ ∨ sl < slotsTo b ∨ slotsTo b < slotsFrom b
            · rw [if_pos hc, if_pos (by omega)]
            · rw [if_neg hc, if_neg (by omega)]
        rw [hE]
        by_cases he : slotE d sl ⟨a.toArray⟩ ⟨b.toArray⟩ ⟨c.toArray⟩ = 0
        · rw [if_neg (by simp [he]), if_pos rfl]
          by_cases hp : (parseV ⟨c.toArray⟩ n).2 = 0
          · rw [parseT3_ok hw he hp, if_pos hp]
          · rw [parseT3_err2 hw he hp, if_neg hp]
        · rw [parseT3_err hw rfl he, if_pos he]

theorem slots_eq {b x y : List UInt8} {both : Bool} (h : cut1 45 b = (x, y, both)) : slotsFrom b = numV x ∧ slotsTo b = numV (if both then y else x) ∧ slotsOk b = (decide (numV x ≠ 0) && decide (numV (if both then y else x) ≠ 0)) := by
  unfold slotsFrom slotsTo slotsOk slotsZ
  rw [cut_eq, h, numOk_iff, numOk_iff]
  exact ⟨rfl, rfl, rfl⟩
set_option maxHeartbeats 8000000 in
theorem r6Parse_walk (d sl bg m n : Int) (s : ByteArray) (hs : s.size < 1073741824) (w : World) (hS : Std w) (hW : Wds w) (hDy : Dys w) :
    Calls Tryz.prog 102 #[.agg #[.int .i64 d, .int .i64 sl, .int .i64 bg, .int .i64 m], .int .i64 n, .string s] w fun e w' => e = .returned (timeVal (parseT d sl bg m n (Lib.splitB ⟨#[32]⟩ 0 (Lib.countB s ⟨#[32]⟩) s))) ∧ Below w.heap.size w w' := by
  obtain ⟨a, r, two, h1⟩ : ∃ a r two, cut1 32 s.data.toList = (a, r, two) := ⟨_, _, _, rfl⟩
  obtain ⟨b, c, three, h2⟩ : ∃ b c three, cut1 32 r = (b, c, three) := ⟨_, _, _, rfl⟩
  obtain ⟨p, q, four, h3⟩ : ∃ p q four, cut1 32 c = (p, q, four) := ⟨_, _, _, rfl⟩
  obtain ⟨x, y, both, h4⟩ : ∃ x y both, cut1 45 b = (x, y, both) := ⟨_, _, _, rfl⟩
  obtain ⟨v, hv⟩ : ∃ v, cutT d sl bg m n a b c two three four = v := ⟨_, rfl⟩
  rw [← cut_parse h1 h2 h3, hv]
  have l1 := cut1_len h1
  have l2 := cut1_len h2
  have l3 := cut1_len h3
  rw [ba_len] at l1
  obtain ⟨g1, g2, g3⟩ := slots_eq h4
  have sr : (⟨r.toArray⟩ : ByteArray).size < 1073741824 := by show r.toArray.size < _; rw [List.size_toArray]; omega
  have sb : (⟨b.toArray⟩ : ByteArray).size < 1073741824 := by show b.toArray.size < _; rw [List.size_toArray]; omega
  have sc : (⟨c.toArray⟩ : ByteArray).size < 1073741824 := by show c.toArray.size < _; rw [List.size_toArray]; omega
  replace sr := hide sr
  replace sb := hide sb
  replace sc := hide sc
  replace h1 := hide h1
  replace h2 := hide h2
  replace h3 := hide h3
  replace h4 := hide h4
  clear l1 l2 l3
  replace hs := hide hs
  cases hw : weekB d sl bg m n
  · have hfin : Hid (v = (0, 0, 0, 0, 1)) := hv.symm.trans (if_pos hw)
    clear hv
    go_enter Tryz.func102, Tryz.ntmps102
    go_wp2_with fail
    refine (r6Usable_walk _ _ _ _ _ _).mono ?_
    rintro e w1 ⟨rfl, hb⟩
    obtain ⟨hc, hf⟩ := bcell hb
    go_wp2
    rw [hfin.out]
    refine end_set4 rfl (Or.inr rfl) _ _ _ _ _ _ rfl rfl rfl (four_of (heap_new2 _ _ _) hb) ⟨rfl, ext_set4 (by repeat (first | exact Below.refl _ _ | refine ext_alloc ?_ _ | refine ext_drewN ?_ _ | refine ext_drew ?_ | refine ext_trans ?_ (by assumption))) (by omega) _ _ _ _⟩
  · have hn : 1 ≤ n ∧ n ≤ 20 := by
      simp only [weekB, Bool.and_eq_true, decide_eq_true_eq] at hw; exact hw.2
    obtain ⟨hn1, hn2⟩ := hn
    obtain ⟨hd1, hd2⟩ := dayI_bd ⟨a.toArray⟩
    obtain ⟨Y, hY⟩ : ∃ Y, dayI ⟨a.toArray⟩ = Y := ⟨_, rfl⟩
    obtain ⟨F, hF⟩ : ∃ F, numV x = F := ⟨_, rfl⟩
    obtain ⟨T, hT⟩ : ∃ T, numV (if both then y else x) = T := ⟨_, rfl⟩
    have hF9 := numV_le x
    have hT9 := numV_le (if both then y else x)
    have hv2 : v = if cutE d sl a b c two three four ≠ 0 then (0, 0, 0, 0, cutE d sl a b c two three four) else
        if three = true then (if (parseV ⟨c.toArray⟩ n).2 = 0 then (((parseV ⟨c.toArray⟩ n).1 : Int), Y, (F : Int) - 1, (T : Int) - F + 1, 0) else (0, 0, 0, 0, ((parseV ⟨c.toArray⟩ n).2 : Int))) else (2 ^ n.toNat - 1, Y, (F : Int) - 1, (T : Int) - F + 1, 0) := by
      rw [← hv, ← hY, ← hF, ← hT, ← g1, ← g2]
      exact if_neg (by simp [hw])
    have hE : cutE d sl a b c two three four = if two = false ∨ four = true ∨ (three = true ∧ c = []) ∨ Y < 0 ∨ (F = 0 ∨ T = 0) then 4 else if d ≤ Y ∨ sl < T ∨ T < F then 14 else 0 := by
      have hiff : slotsOk b = false ↔ (F = 0 ∨ T = 0) := by
        rw [g3, hF, hT, Bool.and_eq_false_iff, decide_eq_false_iff_not, decide_eq_false_iff_not]; omega
      unfold cutE
      rw [hY, g1, g2, hF, hT]
      simp only [hiff]
    rw [hE] at hv2
    rw [hY] at hd1 hd2
    rw [hF] at hF9
    rw [hT] at hT9
    replace hv2 := hide hv2
    replace hF := hide hF
    replace hT := hide hT
    replace hY := hide hY
    clear hv hE g1 g2 g3
    go_enter Tryz.func102, Tryz.ntmps102
    go_wp2_with fail
    refine (r6Usable_walk _ _ _ _ _ _).mono ?_
    rintro e w1 ⟨rfl, hb⟩
    obtain ⟨hc, hf⟩ := bcell hb
    have hS1 := hS.after (ext_trans (by repeat (first | exact Below.refl _ _ | refine ext_alloc ?_ _ | refine ext_drewN ?_ _ | refine ext_drew ?_ | refine ext_trans ?_ (by assumption))) hb)
    go_wp2_with fail
    refine (r5Cut_walk s 32 32 rfl a r two hs.out h1.out _).mono ?_
    rintro e w2 ⟨rfl, hbn⟩
    have hS2 := hS1.after hbn
    replace hb := ext_trans hb hbn
    clear hc hf hbn hS1
    go_wp2_with fail
    refine (r5Cut_walk ⟨r.toArray⟩ 32 32 rfl b c three sr.out h2.out _).mono ?_
    rintro e w3 ⟨rfl, hbn⟩
    have hS3 := hS2.after hbn
    replace hb := ext_trans hb hbn
    clear hbn hS2
    go_wp2_with fail
    refine (r5Cut_walk ⟨b.toArray⟩ 45 45 rfl x y both sb.out h4.out _).mono ?_
    rintro e w4 ⟨rfl, hbn⟩
    have hS4 := hS3.after hbn
    replace hb := ext_trans hb hbn
    clear hbn hS3
    go_wp2_with fail
    refine (small_walk _ _).mono ?_
    rintro e w' ⟨rfl, rfl⟩
    rw [show (ByteArray.mk x.toArray).data.toList = x from rfl, hF.out]
    go_upto_if 52 with fail
    go_cut [18] (fun s18 wx => s18 = .int .i64 T ∧ wx = w4)
    case first =>
      cases both with
      | true =>
        go_wp2_with fail
        refine (small_walk _ _).mono ?_
        rintro e w' ⟨rfl, rfl⟩
        go_wp2_with fail
        go_meet
        exact ⟨congrArg (fun k : Nat => Value.int IntKind.i64 (k : Int)) hT.out, rfl⟩
      | false =>
        go_wp2_with fail
        go_meet
        exact ⟨congrArg (fun k : Nat => Value.int IntKind.i64 (k : Int)) (hF.out.symm.trans hT.out), rfl⟩
    case rest =>
      obtain ⟨rfl, rfl⟩ := hcut
      go_wp2_with fail
      refine (r5Cut_walk ⟨c.toArray⟩ 32 32 rfl p q four sc.out h3.out _).mono ?_
      rintro e w5 ⟨rfl, hbn⟩
      have hS5 := hS4.after hbn
      replace hb := ext_trans hb hbn
      clear hbn hS4
      have hDy5 := hDy.after (ext_trans (by repeat (first | exact Below.refl _ _ | refine ext_alloc ?_ _ | refine ext_drewN ?_ _ | refine ext_drew ?_ | refine ext_trans ?_ (by assumption))) hb) hS
      have hW5 := hW.after (ext_trans (by repeat (first | exact Below.refl _ _ | refine ext_alloc ?_ _ | refine ext_drewN ?_ _ | refine ext_drew ?_ | refine ext_trans ?_ (by assumption))) hb) hS
      go_wp2_with fail
      refine (weekday_walk _ _ hDy5).mono ?_
      rintro e w' ⟨rfl, rfl⟩
      rw [hY.out]
      obtain ⟨hc, hf⟩ := bcell hb
      have hz1 : w.heap.size + 1 < w5.heap.size := by have := hb.size; simp at this; omega
      have e0 : ∀ k : Nat, k ≠ 0 → ((k : Int) == 0) = false := fun k h => by rw [beq_eq_false_iff_ne]; omega
      have e1 : ∀ k : Nat, k = 0 → ((k : Int) == 0) = true := fun k h => by rw [h]; rfl
      by_cases k4 : two = false ∨ four = true ∨ (three = true ∧ c = []) ∨ Y < 0 ∨ (F = 0 ∨ T = 0)
      · have hfin : Hid (v = (0, 0, 0, 0, 4)) := by
          have := hv2.out
          rw [if_pos k4] at this
          exact this.trans (if_pos (by decide))
        cases two with
        | false =>
          clear e0 e1 k4
          go_wp2
          rw [hfin.out]
          all_goals refine end_set4 rfl (Or.inr rfl) _ _ _ _ _ _ rfl rfl rfl (four_of (heap_new2 _ _ _) hb) ⟨rfl, ext_set4 (by repeat (first | exact Below.refl _ _ | refine ext_alloc ?_ _ | refine ext_drewN ?_ _ | refine ext_drew ?_ | refine ext_trans ?_ (by assumption))) (by omega) _ _ _ _⟩
        | true =>
        cases four with
        | true =>
          clear e0 e1 k4
          go_wp2
          rw [hfin.out]
          all_goals refine end_set4 rfl (Or.inr rfl) _ _ _ _ _ _ rfl rfl rfl (four_of (heap_new2 _ _ _) hb) ⟨rfl, ext_set4 (by repeat (first | exact Below.refl _ _ | refine ext_alloc ?_ _ | refine ext_drewN ?_ _ | refine ext_drew ?_ | refine ext_trans ?_ (by assumption))) (by omega) _ _ _ _⟩
        | false =>
        have k5 : (three = true ∧ c = []) ∨ ((three = false ∨ (three = true ∧ c ≠ [])) ∧ (Y < 0 ∨ (F = 0 ∨ T = 0))) := by
          by_cases h : three = true ∧ c = []
          · exact Or.inl h
          · refine Or.inr ⟨?_, ?_⟩
            · cases three
              · exact Or.inl rfl
              · exact Or.inr ⟨rfl, fun e => h ⟨rfl, e⟩⟩
            · rcases k4 with h' | h' | h' | h'
              · cases h'
              · cases h'
              · exact absurd h' h
              · exact h'
        clear k4
        rcases k5 with ⟨rfl, rfl⟩ | ⟨k6, k7⟩
        · clear e0 e1
          go_wp2
          rw [hfin.out]
          all_goals refine end_set4 rfl (Or.inr rfl) _ _ _ _ _ _ rfl rfl rfl (four_of (heap_new2 _ _ _) hb) ⟨rfl, ext_set4 (by repeat (first | exact Below.refl _ _ | refine ext_alloc ?_ _ | refine ext_drewN ?_ _ | refine ext_drew ?_ | refine ext_trans ?_ (by assumption))) (by omega) _ _ _ _⟩
        · have k8 : Y < 0 ∨ (0 ≤ Y ∧ F = 0) ∨ (0 ≤ Y ∧ F ≠ 0 ∧ T = 0) := by omega
          clear k7
          rcases k6 with rfl | ⟨rfl, k6⟩
          · rcases k8 with k8 | ⟨k8, k9⟩ | ⟨k8, k9, k10⟩
            · clear e0 e1
              go_wp2
              rw [hfin.out]
              all_goals refine end_set4 rfl (Or.inr rfl) _ _ _ _ _ _ rfl rfl rfl (four_of (heap_new2 _ _ _) hb) ⟨rfl, ext_set4 (by repeat (first | exact Below.refl _ _ | refine ext_alloc ?_ _ | refine ext_drewN ?_ _ | refine ext_drew ?_ | refine ext_trans ?_ (by assumption))) (by omega) _ _ _ _⟩
            · have b1 := e1 F k9
              clear e0 e1 k9
              go_wp2
              rw [hfin.out]
              all_goals refine end_set4 rfl (Or.inr rfl) _ _ _ _ _ _ rfl rfl rfl (four_of (heap_new2 _ _ _) hb) ⟨rfl, ext_set4 (by repeat (first | exact Below.refl _ _ | refine ext_alloc ?_ _ | refine ext_drewN ?_ _ | refine ext_drew ?_ | refine ext_trans ?_ (by assumption))) (by omega) _ _ _ _⟩
            · have b1 := e0 F k9
              have b2 := e1 T k10
              clear e0 e1 k9 k10
              go_wp2
              rw [hfin.out]
              all_goals refine end_set4 rfl (Or.inr rfl) _ _ _ _ _ _ rfl rfl rfl (four_of (heap_new2 _ _ _) hb) ⟨rfl, ext_set4 (by repeat (first | exact Below.refl _ _ | refine ext_alloc ?_ _ | refine ext_drewN ?_ _ | refine ext_drew ?_ | refine ext_trans ?_ (by assumption))) (by omega) _ _ _ _⟩
          · have k6' : c.isEmpty = false := by simpa using k6
            replace k6 := hide k6
            rcases k8 with k8 | ⟨k8, k9⟩ | ⟨k8, k9, k10⟩
            · clear e0 e1
              go_wp2
              rw [hfin.out]
              all_goals refine end_set4 rfl (Or.inr rfl) _ _ _ _ _ _ rfl rfl rfl (four_of (heap_new2 _ _ _) hb) ⟨rfl, ext_set4 (by repeat (first | exact Below.refl _ _ | refine ext_alloc ?_ _ | refine ext_drewN ?_ _ | refine ext_drew ?_ | refine ext_trans ?_ (by assumption))) (by omega) _ _ _ _⟩
            · have b1 := e1 F k9
              clear e0 e1 k9 k6 hv2 hF hT hY h1 h2 h3 h4 hs sr sb sc hw hd1 hd2 hn1 hn2 hF9 hT9 hS hW hDy hS5 hDy5 hW5
              go_wp2
              rw [hfin.out]
              all_goals refine end_set4 rfl (Or.inr rfl) _ _ _ _ _ _ rfl rfl rfl (four_of (heap_new2 _ _ _) hb) ⟨rfl, ext_set4 (by repeat (first | exact Below.refl _ _ | refine ext_alloc ?_ _ | refine ext_drewN ?_ _ | refine ext_drew ?_ | refine ext_trans ?_ (by assumption))) (by omega) _ _ _ _⟩
            · have b1 := e0 F k9
              have b2 := e1 T k10
              clear e0 e1 k9 k10
              go_wp2
              rw [hfin.out]
              all_goals refine end_set4 rfl (Or.inr rfl) _ _ _ _ _ _ rfl rfl rfl (four_of (heap_new2 _ _ _) hb) ⟨rfl, ext_set4 (by repeat (first | exact Below.refl _ _ | refine ext_alloc ?_ _ | refine ext_drewN ?_ _ | refine ext_drew ?_ | refine ext_trans ?_ (by assumption))) (by omega) _ _ _ _⟩
      · have hv3 := hv2.out
        rw [if_neg k4] at hv3
        have m1 : two = true := by cases two; exact absurd (Or.inl rfl) k4; rfl
        have m2 : four = false := by cases four; rfl; exact absurd (Or.inr (Or.inl rfl)) k4
        have m3 : 0 ≤ Y ∧ F ≠ 0 ∧ T ≠ 0 := by
          refine ⟨?_, ?_, ?_⟩
          · rcases Int.lt_or_le Y 0 with h | h
            · exact absurd (Or.inr (Or.inr (Or.inr (Or.inl h)))) k4
            · exact h
          · exact fun h => k4 (Or.inr (Or.inr (Or.inr (Or.inr (Or.inl h)))))
          · exact fun h => k4 (Or.inr (Or.inr (Or.inr (Or.inr (Or.inr h)))))
        have m4 : three = true → c ≠ [] := fun h h' => k4 (Or.inr (Or.inr (Or.inl ⟨h, h'⟩)))
        obtain ⟨m3, m5, m6⟩ := m3
        have b1 := e0 F m5
        have b2 := e0 T m6
        subst m1 m2
        clear k4 e0 e1 hv2 hw hF hT hY
        by_cases k14 : d ≤ Y ∨ sl < T ∨ T < F
        · have hfin : Hid (v = (0, 0, 0, 0, 14)) := by
            rw [if_pos k14] at hv3
            exact hv3.trans (if_pos (by decide))
          clear hv3
          cases three with
          | false =>
            go_wp2
            all_goals try (exfalso; omega)
            all_goals rw [hfin.out]
            all_goals refine end_set4 rfl (Or.inr rfl) _ _ _ _ _ _ rfl rfl rfl (four_of (heap_new2 _ _ _) hb) ⟨rfl, ext_set4 (by repeat (first | exact Below.refl _ _ | refine ext_alloc ?_ _ | refine ext_drewN ?_ _ | refine ext_drew ?_ | refine ext_trans ?_ (by assumption))) (by omega) _ _ _ _⟩
          | true =>
            have k6' : c.isEmpty = false := by simpa using m4 rfl
            clear m4
            go_wp2
            all_goals try (exfalso; omega)
            all_goals rw [hfin.out]
            all_goals refine end_set4 rfl (Or.inr rfl) _ _ _ _ _ _ rfl rfl rfl (four_of (heap_new2 _ _ _) hb) ⟨rfl, ext_set4 (by repeat (first | exact Below.refl _ _ | refine ext_alloc ?_ _ | refine ext_drewN ?_ _ | refine ext_drew ?_ | refine ext_trans ?_ (by assumption))) (by omega) _ _ _ _⟩
        · rw [if_neg k14, if_neg (by decide)] at hv3
          obtain ⟨pe1, pe2⟩ := pow_facts n hn2
          cases three with
          | false =>
            have hfin : Hid (v = (2 ^ n.toNat - 1, Y, (F : Int) - 1, (T : Int) - F + 1, 0)) := hv3.trans (if_neg (by simp))
            clear hv3 m4
            go_wp2
            all_goals try (exfalso; omega)
            rw [hfin.out]
            refine end_set4a rfl (Or.inr rfl) _ _ _ _ _ _ rfl rfl rfl (four_of (heap_new2 _ _ _) hb) ⟨rfl, ext_alloc (ext_set4 (by repeat (first | exact Below.refl _ _ | refine ext_alloc ?_ _ | refine ext_drewN ?_ _ | refine ext_drew ?_ | refine ext_trans ?_ (by assumption))) (by omega) _ _ _ _) _⟩
          | true =>
            have k6' : c.isEmpty = false := by simpa using m4 rfl
            have hfin := hv3.trans (if_pos rfl)
            obtain ⟨P, hP⟩ : ∃ P, parseV ⟨c.toArray⟩ n = P := ⟨_, rfl⟩
            rw [hP] at hfin
            replace hP := hide hP
            have hz4 : w.heap.size ≤ w5.heap.size := by omega
            clear hv3 m4
            by_cases hp2 : P.2 = 0
            · rw [if_pos hp2] at hfin
              have hp2' : ((P.2 : Int) != 0) = false := by simp [hp2]
              replace hp2 := hide hp2
              replace hfin := hide hfin
              go_wp2_with fail
              all_goals try (exfalso; omega)
              refine (r5Parse_walk ⟨c.toArray⟩ n sc.out _ (hS5.alloc _) (hW5.after (ext_alloc (Below.refl _ _) _) hS5)).mono ?_
              rintro e w6 ⟨rfl, hb6⟩
              rw [hP.out]
              have hbt : Below w5.heap.size w5 w6 := ext_trans ((by repeat (first | exact Below.refl _ _ | refine ext_alloc ?_ _ | refine ext_drewN ?_ _ | refine ext_drew ?_ | refine ext_trans ?_ (by assumption)))) hb6
              replace hb := ext_trans hb hbt
              clear hc hf hbt
              obtain ⟨hc, hf⟩ := bcell hb
              obtain ⟨hc5, hf5⟩ := bcell hb6
              go_wp2
              rw [hfin.out]
              refine end_set4 rfl (Or.inr rfl) _ _ _ _ _ _ rfl rfl rfl (four_set (four_of (heap_new2 _ _ _) hb) _ _) ⟨rfl, ext_set4 (ext_set (by repeat (first | exact Below.refl _ _ | refine ext_alloc ?_ _ | refine ext_drewN ?_ _ | refine ext_drew ?_ | refine ext_trans ?_ (by assumption))) hz4 _) (by omega) _ _ _ _⟩
            · rw [if_neg hp2] at hfin
              have hp2' : ((P.2 : Int) != 0) = true := by simp [hp2]
              replace hp2 := hide hp2
              replace hfin := hide hfin
              go_wp2_with fail
              all_goals try (exfalso; omega)
              refine (r5Parse_walk ⟨c.toArray⟩ n sc.out _ (hS5.alloc _) (hW5.after (ext_alloc (Below.refl _ _) _) hS5)).mono ?_
              rintro e w6 ⟨rfl, hb6⟩
              rw [hP.out]
              have hbt : Below w5.heap.size w5 w6 := ext_trans ((by repeat (first | exact Below.refl _ _ | refine ext_alloc ?_ _ | refine ext_drewN ?_ _ | refine ext_drew ?_ | refine ext_trans ?_ (by assumption)))) hb6
              replace hb := ext_trans hb hbt
              clear hc hf hbt
              obtain ⟨hc, hf⟩ := bcell hb
              obtain ⟨hc5, hf5⟩ := bcell hb6
              go_wp2
              rw [hfin.out]
              refine end_set4 rfl (Or.inr rfl) _ _ _ _ _ _ rfl rfl rfl (four_of (heap_new2 _ _ _) hb) ⟨rfl, ext_set4 (by repeat (first | exact Below.refl _ _ | refine ext_alloc ?_ _ | refine ext_drewN ?_ _ | refine ext_drew ?_ | refine ext_trans ?_ (by assumption))) (by omega) _ _ _ _⟩
end Go.Proofs.YtdnnahdafhddlaaGreatDoor
