/- Walk of timetableref03.dots: how often two dots occur, and where first. Condition: a text shorter than 2^62 bytes. -/
import Derived.Test.YtehgnnedaedpjaaGreatDoorKWide
namespace Go.Proofs.YtehgnnedaedpjaaGreatDoor
open Go.RowKit
set_option maxRecDepth 100000

/-- The count and the first place, from place i on. -/
def dfold (i n : Nat) (at' : Int) : List UInt8 → Nat × Int
  | [] => (n, at')
  | [_] => (n, at')
  | c :: d :: r => if c = 46 ∧ d = 46 then dfold (i + 2) (n + 1) (if n = 0 then (i : Int) else at') r else dfold (i + 1) n at' (d :: r)
theorem dfold_step {i n : Nat} {at' : Int} {L : List UInt8} (h : i + 1 < L.length) : dfold i n at' (L.drop i) = if L[i]? = some 46 ∧ L[i + 1]? = some 46 then dfold (i + 2) (n + 1) (if n = 0 then (i : Int) else at') (L.drop (i + 2)) else dfold (i + 1) n at' (L.drop (i + 1)) := by
  have e1 : L.drop i = L[i] :: L[i + 1] :: L.drop (i + 2) := by
    rw [List.drop_eq_getElem_cons (show i < L.length by omega), List.drop_eq_getElem_cons h]
  have e2 : L.drop (i + 1) = L[i + 1] :: L.drop (i + 2) := List.drop_eq_getElem_cons h
  rw [e1, e2, dfold, List.getElem?_eq_getElem (show i < L.length by omega), List.getElem?_eq_getElem h]
  simp only [Option.some.injEq]
theorem dfold_end {i n : Nat} {at' : Int} {L : List UInt8} (h : ¬ i + 1 < L.length) : dfold i n at' (L.drop i) = (n, at') := by
  match hd : L.drop i with
  | [] => rfl
  | [_] => rfl
  | _ :: _ :: _ =>
    have := congrArg List.length hd
    rw [List.length_drop] at this
    simp at this
    omega
theorem idx_cons {c d : UInt8} {r : List UInt8} (h : ¬ (c = 46 ∧ d = 46)) : Lib.index (c :: d :: r) [46, 46] = if Lib.index (d :: r) [46, 46] = -1 then -1 else Lib.index (d :: r) [46, 46] + 1 := by
  rw [Lib.index, if_neg (by
    simp only [List.isPrefixOf, Bool.and_true, Bool.and_eq_true, beq_iff_eq]
    exact fun e => h ⟨e.1.symm, e.2.symm⟩)]
  simp only [beq_iff_eq]
theorem idx_here (r : List UInt8) : Lib.index (46 :: 46 :: r) [46, 46] = 0 := by rw [Lib.index, if_pos (by simp [List.isPrefixOf])]
theorem dfold_more : ∀ (l : List UInt8) (i n : Nat) (at' : Int), 1 ≤ n → (dfold i n at' l).2 = at' ∧ n ≤ (dfold i n at' l).1 ∧ ((dfold i n at' l).1 = n ↔ Lib.index l [46, 46] = -1)
  | [], _, _, _, _ => ⟨rfl, Nat.le_refl _, ⟨fun _ => rfl, fun _ => rfl⟩⟩
  | [_], _, _, _, _ => ⟨rfl, Nat.le_refl _, ⟨fun _ => by rw [Lib.index, if_neg (by simp [List.isPrefixOf])]; decide, fun _ => rfl⟩⟩
  | c :: d :: r, i, n, at', h => by
    rw [dfold]
    by_cases hc : c = 46 ∧ d = 46
    · rw [if_pos hc, if_neg (by omega)]
      obtain ⟨h1, h2, -⟩ := dfold_more r (i + 2) (n + 1) at' (by omega)
      refine ⟨h1, by omega, ⟨fun e => by omega, fun e => ?_⟩⟩
      rw [hc.1, hc.2, idx_here] at e
      exact absurd e (by decide)
    · rw [if_neg hc]
      obtain ⟨h1, h2, h3⟩ := dfold_more (d :: r) (i + 1) n at' h
      refine ⟨h1, h2, h3.trans ?_⟩
      rw [idx_cons hc]
      have hge := Lib.index_ge (d :: r) [46, 46]
      by_cases e : Lib.index (d :: r) [46, 46] = -1
      · rw [if_pos e]; simp [e]
      · rw [if_neg e]; omega
theorem dfold_zero : ∀ (l : List UInt8) (i : Nat) (at' : Int), (Lib.index l [46, 46] = -1 → dfold i 0 at' l = (0, at')) ∧ (∀ k : Nat, Lib.index l [46, 46] = k → (dfold i 0 at' l).2 = (i + k : Nat) ∧ 1 ≤ (dfold i 0 at' l).1 ∧ ((dfold i 0 at' l).1 = 1 ↔ Lib.index (l.drop (k + 2)) [46, 46] = -1))
  | [], i, at' => ⟨fun _ => rfl, fun k h => by rw [Lib.index, if_neg (by simp)] at h; omega⟩
  | [c], i, at' => ⟨fun _ => rfl, fun k h => by
      rw [Lib.index, if_neg (by simp [List.isPrefixOf])] at h
      rw [show Lib.index ([] : List UInt8) [46, 46] = -1 from rfl] at h
      simp at h⟩
  | c :: d :: r, i, at' => by
    rw [dfold]
    by_cases hc : c = 46 ∧ d = 46
    · rw [if_pos hc, if_pos rfl, hc.1, hc.2, idx_here]
      obtain ⟨h1, h2, h3⟩ := dfold_more r (i + 2) 1 (i : Int) (Nat.le_refl _)
      refine ⟨fun e => absurd e (by decide), fun k hk => ?_⟩
      obtain rfl : k = 0 := by omega
      exact ⟨h1, h2, h3⟩
    · rw [if_neg hc, idx_cons hc]
      obtain ⟨h1, h2⟩ := dfold_zero (d :: r) (i + 1) at'
      have hge := Lib.index_ge (d :: r) [46, 46]
      by_cases e : Lib.index (d :: r) [46, 46] = -1
      · rw [if_pos e]
        exact ⟨fun _ => h1 e, fun k hk => by omega⟩
      · rw [if_neg e]
        refine ⟨fun hx => by omega, fun k hk => ?_⟩
        obtain ⟨j, rfl⟩ : ∃ j, k = j + 1 := ⟨k - 1, by omega⟩
        obtain ⟨q1, q2, q3⟩ := h2 j (by omega)
        exact ⟨by rw [q1]; congr 1; omega, q2, q3⟩
def dotsR (p : ByteArray) : Nat × Int := dfold 0 0 (-1) p.data.toList
theorem dots_none {p : ByteArray} (h : dotT p = false) : dotsR p = (0, -1) := by
  refine (dfold_zero p.data.toList 0 (-1)).1 ?_
  have hge := Lib.index_ge p.data.toList [46, 46]
  unfold dotT Lib.cut at h
  split at h
  · cases h
  · omega
theorem dots_some {p : ByteArray} (h : dotT p = true) : (dotsR p).2 = (cutA p).size ∧ 1 ≤ (dotsR p).1 ∧ ((dotsR p).1 = 1 ↔ twiB p = false) ∧ (cutA p).size + 2 ≤ p.size ∧ (cutA p).data.toList = p.data.toList.take (cutA p).size ∧ (cutB p).data.toList = p.data.toList.drop ((cutA p).size + 2) := by
  have hge := Lib.index_ge p.data.toList [46, 46]
  have hroom := Lib.index_room p.data.toList [46, 46]
  have h0 : 0 ≤ Lib.index p.data.toList [46, 46] := by
    unfold dotT Lib.cut at h
    split at h
    · assumption
    · cases h
  obtain ⟨k, hk⟩ : ∃ k : Nat, Lib.index p.data.toList [46, 46] = k := ⟨(Lib.index p.data.toList [46, 46]).toNat, by omega⟩
  have hroom := hroom h0
  rw [hk] at hroom
  simp only [List.length_cons, List.length_nil, len_size] at hroom
  have hc : Lib.cut p.data.toList [46, 46] = (p.data.toList.take k, p.data.toList.drop (k + 2), true) := by
    unfold Lib.cut
    rw [hk, if_pos (by omega), Int.toNat_natCast]
    rfl
  have hs : (cutA p).size = k := by
    unfold cutA
    rw [mkB_size, hc, List.length_take, len_size]
    omega
  obtain ⟨q1, q2, q3⟩ := (dfold_zero p.data.toList 0 (-1)).2 k hk
  refine ⟨by rw [hs]; unfold dotsR; rw [q1]; congr 1; omega, q2, ?_, by rw [hs]; omega, ?_, ?_⟩
  · unfold dotsR
    rw [q3]
    unfold twiB Lib.contains
    rw [hc]
    have hge2 := Lib.index_ge (p.data.toList.drop (k + 2)) [46, 46]
    rw [decide_eq_false_iff_not]
    show _ ↔ ¬ 0 ≤ Lib.index (p.data.toList.drop (k + 2)) [46, 46]
    omega
  · rw [hs]; unfold cutA; rw [mkB_list, hc]
  · rw [hs]; unfold cutB; rw [mkB_list, hc]
set_option maxHeartbeats 4000000 in
theorem dots_walk (p : ByteArray) (w : World) (hs : p.size < 1073741824) :
    Calls Tryz.prog 216 #[.string p] w fun e w' => e = .returned (.tuple #[.int .i64 ((dotsR p).1 : Int), .int .i64 (dotsR p).2]) ∧ w = w' := by
  obtain ⟨R, hR⟩ : ∃ R, dotsR p = R := ⟨_, rfl⟩
  rw [hR]
  replace hR := hide hR
  go_enter Tryz.func216, Tryz.ntmps216
  go_wp2
  go_loop [4, 5, 6] (fun v4 v5 v6 => ∃ (i n : Nat) (at' : Int), i ≤ p.size + 1 ∧ n ≤ i ∧ v4 = .int .i64 n ∧ v5 = .int .i64 at' ∧ v6 = .int .i64 i ∧ dfold i n at' (p.data.toList.drop i) = R) (fun _ _ v6 => p.size + 2 - (intOf v6).toNat)
  case atStart => exact ⟨0, 0, -1, Nat.zero_le _, Nat.le_refl _, rfl, rfl, rfl, hR.out⟩
  case round =>
    obtain ⟨i, n, at', hi, hni, rfl, rfl, rfl, hd⟩ := hrel
    have hw1 : IntKind.i64.wrap ((i : Int) + 1) = (i : Int) + 1 := by rw [IntKind.wrap_i64]; omega
    by_cases hlt : i + 1 < p.size
    · rw [dfold_step (by rw [len_size]; exact hlt)] at hd
      have hi0 : (0 : Int) ≤ (i : Int) := by omega
      have hi1 : (i : Int) < (p.size : Int) := by omega
      have hi2 : (i : Int) + 1 < (p.size : Int) := by omega
      have hi3 : (0 : Int) ≤ (i : Int) + 1 := by omega
      have hw2 : IntKind.i64.wrap ((i : Int) + 1 + 1) = (i : Int) + 1 + 1 := by rw [IntKind.wrap_i64]; omega
      have hw3 : IntKind.i64.wrap ((n : Int) + 1) = (n : Int) + 1 := by rw [IntKind.wrap_i64]; omega
      have hg1 : p.data.toList[i]? = some p[i] := by rw [List.getElem?_eq_getElem (by rw [len_size]; omega)]; rfl
      have hg2 : p.data.toList[i + 1]? = some p[i + 1] := by rw [List.getElem?_eq_getElem (by rw [len_size]; omega)]; rfl
      rw [hg1, hg2] at hd
      clear hg1 hg2
      by_cases hc1 : p[i] = 46
      · have hx1 : ((p[i].toNat : Int) == 46) = true := by rw [hc1]; decide
        by_cases hc2 : p[i + 1] = 46
        · have hx2 : ((p[i + 1].toNat : Int) == 46) = true := by rw [hc2]; decide
          rw [if_pos ⟨by rw [hc1], by rw [hc2]⟩] at hd
          replace hd := hide hd
          clear hc1 hc2
          by_cases hn : n = 0
          · subst hn
            rw [if_pos rfl] at hd
            go_wp2
            go_round
            case rel => exact ⟨i + 2, 1, i, by omega, by omega, by go_num, rfl, by go_num, hd.out⟩
            case measure => simp [intOf]; omega
          · have hni2 : ((n : Int) == 0) = false := by simpa using hn
            rw [if_neg hn] at hd
            go_wp2
            go_round
            case rel => exact ⟨i + 2, n + 1, at', by omega, by omega, by go_num, rfl, by go_num, hd.out⟩
            case measure => simp [intOf]; omega
        · have hx2 : ((p[i + 1].toNat : Int) == 46) = false := by
            rw [beq_eq_false_iff_ne]
            intro e
            exact hc2 (UInt8.toNat_inj.1 (by show _ = 46; omega))
          rw [if_neg (fun h => hc2 (Option.some.inj h.2))] at hd
          replace hd := hide hd
          clear hc1 hc2
          go_wp2
          go_round
          case rel => exact ⟨i + 1, n, at', by omega, by omega, rfl, rfl, by go_num, hd.out⟩
          case measure => simp [intOf]; omega
      · have hx1 : ((p[i].toNat : Int) == 46) = false := by
          rw [beq_eq_false_iff_ne]
          intro e
          exact hc1 (UInt8.toNat_inj.1 (by show _ = 46; omega))
        rw [if_neg (fun h => hc1 (Option.some.inj h.1))] at hd
        replace hd := hide hd
        clear hc1
        go_wp2
        go_round
        case rel => exact ⟨i + 1, n, at', by omega, by omega, rfl, rfl, by go_num, hd.out⟩
        case measure => simp [intOf]; omega
    · rw [dfold_end (by rw [len_size]; exact hlt)] at hd
      subst hd
      have hi2 : ¬ (i : Int) + 1 < (p.size : Int) := by omega
      go_wp2
      go_ret2
      exact ⟨rfl, rfl⟩
end Go.Proofs.YtehgnnedaedpjaaGreatDoor
