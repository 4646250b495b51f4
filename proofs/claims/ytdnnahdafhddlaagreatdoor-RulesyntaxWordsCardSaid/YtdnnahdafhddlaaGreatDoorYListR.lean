/- Walk of timetableref03.dots: how often two dots occur, and where first. Condition: a text shorter than 2^62 bytes. Walk of timetableref03.List. Conditions: a text shorter than 2^30 bytes; what the program's variables hold. -/
import Derived.Test.YtdnnahdafhddlaaGreatDoorYSynR
import Derived.Test.YtdnnahdafhddlaaGreatDoorYFol
namespace Go.Proofs.YtdnnahdafhddlaaGreatDoor
open Go.RowKit
set_option maxRecDepth 100000

/-- The count and the first place, from place i on. -/
def dfold (i n : Nat) (at' : Int) : List UInt8 → Nat × Int
  | [] => (n, at')
  | [_] => (n, at')
  | c :: d :: r => if c = 46 ∧ d = 46 then dfold (i + 2) (n + 1) (if n = 0 then (i : Int) else at') r else dfold (i + 1) n at' (d :: r)
theorem dfold_step {i n : Nat} {at' : Int} {L : List UInt8} (h : i + 1 < L.length) : dfold i n at' (L.drop i) = if L[i]? = some 46 ∧ L[i + 1]? = some 46 then dfold (i + 2) (n + 1) (if n = 0 then (i : Int) else at') (L.drop (i + 2)) else dfold (i + 1) n at' (L.drop (i + 1)) := by
  have e1 : L.drop i = L[i] :: L[i + 1] :: L.drop (i + 2) := by
    rw [List.drop_eq_getElem_cons (show i < L.length by omega), List.drop_eq_getElem_cons h]
  have e2 : L.drop (i + 1) = L[i + 1] :: L.drop (i + 2) := List.drop_eq_getElem_cons h
  rw [e1, e2, dfold, List.getElem?_eq_getElem (show i < L.length by omega), List.getElem?_eq_getElem h]
  simp only [Option.some.injEq]
theorem dfold_end {i n : Nat} {at' : Int} {L : List UInt8} (h : ¬ i + 1 < L.length) : dfold i n at' (L.drop i) = (n, at') := by
  match hd : L.drop i with
  | [] => rfl
  | [_] => rfl
  | _ :: _ :: _ =>
    have := congrArg List.length hd
    rw [List.length_drop] at this
    simp at this
    omega
theorem idx_cons {c d : UInt8} {r : List UInt8} (h : ¬ (c = 46 ∧ d = 46)) : Lib.index (c :: d :: r) [46, 46] = if Lib.index (d :: r) [46, 46] = -1 then -1 else Lib.index (d :: r) [46, 46] + 1 := by
  rw [Lib.index, if_neg (by
    simp only [List.isPrefixOf, Bool.and_true, Bool.and_eq_true, beq_iff_eq]
    exact fun e => h ⟨e.1.symm, e.2.symm⟩)]
  simp only [beq_iff_eq]
theorem idx_here (r : List UInt8) : Lib.index (46 :: 46 :: r) [46, 46] = 0 := by rw [Lib.index, if_pos (by simp [List.isPrefixOf])]
theorem dfold_more : ∀ (l : List UInt8) (i n : Nat) (at' : Int), 1 ≤ n → (dfold i n at' l).2 = at' ∧ n ≤ (dfold i n at' l).1 ∧ ((dfold i n at' l).1 = n ↔ Lib.index l [46, 46] = -1)
  | [], _, _, _, _ => ⟨rfl, Nat.le_refl _, ⟨fun _ => rfl, fun _ => rfl⟩⟩
  | [_], _, _, _, _ => ⟨rfl, Nat.le_refl _, ⟨fun _ => by rw [Lib.index, if_neg (by simp [List.isPrefixOf])]; decide, fun _ => rfl⟩⟩
  | c :: d :: r, i, n, at', h => by
    rw [dfold]
    by_cases hc : c = 46 ∧ d = 46
    · rw [if_pos hc, if_neg (by omega)]
      obtain ⟨h1, h2, -⟩ := dfold_more r (i + 2) (n + 1) at' (by omega)
      refine ⟨h1, by omega, ⟨fun e => by omega, fun e => ?_⟩⟩
      rw [hc.1, hc.2, idx_here] at e
      exact absurd e (by decide)
    · rw [if_neg hc]
      obtain ⟨h1, h2, h3⟩ := dfold_more (d :: r) (i + 1) n at' h
      refine ⟨h1, h2, h3.trans ?_⟩
      rw [idx_cons hc]
      have hge := Lib.index_ge (d :: r) [46, 46]
      by_cases e : Lib.index (d :: r) [46, 46] = -1
      · rw [if_pos e]; simp [e]
      · rw [if_neg e]; omega
theorem dfold_zero : ∀ (l : List UInt8) (i : Nat) (at' : Int), (Lib.index l [46, 46] = -1 → dfold i 0 at' l = (0, at')) ∧ (∀ k : Nat, Lib.index l [46, 46] = k → (dfold i 0 at' l).2 = (i + k : Nat) ∧ 1 ≤ (dfold i 0 at' l).1 ∧ ((dfold i 0 at' l).1 = 1 ↔ Lib.index (l.drop (k + 2)) [46, 46] = -1))
  | [], i, at' => ⟨fun _ => rfl, fun k h => by rw [Lib.index, if_neg (by simp)] at h; omega⟩
  | [c], i, at' => ⟨fun _ => rfl, fun k h => by
      rw [Lib.index, if_neg (by simp [List.isPrefixOf])] at h
      rw [show Lib.index ([] : List UInt8) [46, 46] = -1 from rfl] at h
      simp at h⟩
  | c :: d :: r, i, at' => by
    rw [dfold]
    by_cases hc : c = 46 ∧ d = 46
    · rw [if_pos hc, if_pos rfl, hc.1, hc.2, idx_here]
      obtain ⟨h1, h2, h3⟩ := dfold_more r (i + 2) 1 (i : Int) (Nat.le_refl _)
      refine ⟨fun e => absurd e (by decide), fun k hk => ?_⟩
      obtain rfl : k = 0 := by omega
      exact ⟨h1, h2, h3⟩
    · rw [if_neg hc, idx_cons hc]
      obtain ⟨h1, h2⟩ := dfold_zero (d :: r) (i + 1) at'
      have hge := Lib.index_ge (d :: r) [46, 46]
      by_cases e : Lib.index (d :: r) [46, 46] = -1
      · rw [if_pos e]
        exact ⟨fun _ => h1 e, fun k hk => by omega⟩
      · rw [if_neg e]
        refine ⟨fun hx => by omega, fun k hk => ?_⟩
        obtain ⟨j, rfl⟩ : ∃ j, k = j + 1 := ⟨k - 1, by omega⟩
        obtain ⟨q1, q2, q3⟩ := h2 j (by omega)
        exact ⟨by rw [q1]; congr 1; omega, q2, q3⟩
def dotsR (p : ByteArray) : Nat × Int := dfold 0 0 (-1) p.data.toList
theorem dots_none {p : ByteArray} (h : dotT p = false) : dotsR p = (0, -1) := by
  refine (dfold_zero p.data.toList 0 (-1)).1 ?_
  have hge := Lib.index_ge p.data.toList [46, 46]
  unfold dotT Lib.cut at h
  split at h
  · cases h
  · omega
theorem dots_some {p : ByteArray} (h : dotT p = true) : (dotsR p).2 = (cutA p).size ∧ 1 ≤ (dotsR p).1 ∧ ((dotsR p).1 = 1 ↔ twiB p = false) ∧ (cutA p).size + 2 ≤ p.size ∧ (cutA p).data.toList = p.data.toList.take (cutA p).size ∧ (cutB p).data.toList = p.data.toList.drop ((cutA p).size + 2) := by
  have hge := Lib.index_ge p.data.toList [46, 46]
  have hroom := Lib.index_room p.data.toList [46, 46]
  have h0 : 0 ≤ Lib.index p.data.toList [46, 46] := by
    unfold dotT Lib.cut at h
    split at h
    · assumption
    · cases h
  obtain ⟨k, hk⟩ : ∃ k : Nat, Lib.index p.data.toList [46, 46] = k := ⟨(Lib.index p.data.toList [46, 46]).toNat, by omega⟩
  have hroom := hroom h0
  rw [hk] at hroom
  simp only [List.length_cons, List.length_nil, len_size] at hroom
  have hc : Lib.cut p.data.toList [46, 46] = (p.data.toList.take k, p.data.toList.drop (k + 2), true) := by
    unfold Lib.cut
    rw [hk, if_pos (by omega), Int.toNat_natCast]
    rfl
  have hs : (cutA p).size = k := by
    unfold cutA
    rw [mkB_size, hc, List.length_take, len_size]
    omega
  obtain ⟨q1, q2, q3⟩ := (dfold_zero p.data.toList 0 (-1)).2 k hk
  refine ⟨by rw [hs]; unfold dotsR; rw [q1]; congr 1; omega, q2, ?_, by rw [hs]; omega, ?_, ?_⟩
  · unfold dotsR
    rw [q3]
    unfold twiB Lib.contains
    rw [hc]
    have hge2 := Lib.index_ge (p.data.toList.drop (k + 2)) [46, 46]
    rw [decide_eq_false_iff_not]
    show _ ↔ ¬ 0 ≤ Lib.index (p.data.toList.drop (k + 2)) [46, 46]
    omega
  · rw [hs]; unfold cutA; rw [mkB_list, hc]
  · rw [hs]; unfold cutB; rw [mkB_list, hc]
set_option maxHeartbeats 4000000 in
theorem dots_walk (p : ByteArray) (w : World) (hs : p.size < 1073741824) :
    Calls Tryz.prog 159 #[.string p] w fun e w' => e = .returned (.tuple #[.int .i64 ((dotsR p).1 : Int), .int .i64 (dotsR p).2]) ∧ w = w' := by
  obtain ⟨R, hR⟩ : ∃ R, dotsR p = R := ⟨_, rfl⟩
  rw [hR]
  replace hR := hide hR
  go_enter Tryz.func159, Tryz.ntmps159
  go_wp2
  go_loop [4, 5, 6] (fun v4 v5 v6 => ∃ (i n : Nat) (at' : Int), i ≤ p.size + 1 ∧ n ≤ i ∧ v4 = .int .i64 n ∧ v5 = .int .i64 at' ∧ v6 = .int .i64 i ∧ dfold i n at' (p.data.toList.drop i) = R) (fun _ _ v6 => p.size + 2 - (intOf v6).toNat)
  case atStart => exact ⟨0, 0, -1, Nat.zero_le _, Nat.le_refl _, rfl, rfl, rfl, hR.out⟩
  case round =>
    obtain ⟨i, n, at', hi, hni, rfl, rfl, rfl, hd⟩ := hrel
    have hw1 : IntKind.i64.wrap ((i : Int) + 1) = (i : Int) + 1 := by rw [IntKind.wrap_i64]; omega
    by_cases hlt : i + 1 < p.size
    · rw [dfold_step (by rw [len_size]; exact hlt)] at hd
      have hi0 : (0 : Int) ≤ (i : Int) := by omega
      have hi1 : (i : Int) < (p.size : Int) := by omega
      have hi2 : (i : Int) + 1 < (p.size : Int) := by omega
      have hi3 : (0 : Int) ≤ (i : Int) + 1 := by omega
      have hw2 : IntKind.i64.wrap ((i : Int) + 1 + 1) = (i : Int) + 1 + 1 := by rw [IntKind.wrap_i64]; omega
      have hw3 : IntKind.i64.wrap ((n : Int) + 1) = (n : Int) + 1 := by rw [IntKind.wrap_i64]; omega
      have hg1 : p.data.toList[i]? = some p[i] := by rw [List.getElem?_eq_getElem (by rw [len_size]; omega)]; rfl
      have hg2 : p.data.toList[i + 1]? = some p[i + 1] := by rw [List.getElem?_eq_getElem (by rw [len_size]; omega)]; rfl
      rw [hg1, hg2] at hd
      clear hg1 hg2
      by_cases hc1 : p[i] = 46
      · have hx1 : ((p[i].toNat : Int) == 46) = true := by rw [hc1]; decide
        by_cases hc2 : p[i + 1] = 46
        · have hx2 : ((p[i + 1].toNat : Int) == 46) = true := by rw [hc2]; decide
          rw [if_pos ⟨by rw [hc1], by rw [hc2]⟩] at hd
          replace hd := hide hd
          clear hc1 hc2
          by_cases hn : n = 0
          · subst hn
            rw [if_pos rfl] at hd
            go_wp2
            go_round
            case rel => exact ⟨i + 2, 1, i, by omega, by omega, by go_num, rfl, by go_num, hd.out⟩
            case measure => simp [intOf]; omega
          · have hni2 : ((n : Int) == 0) = false := by simpa using hn
            rw [if_neg hn] at hd
            go_wp2
            go_round
            case rel => exact ⟨i + 2, n + 1, at', by omega, by omega, by go_num, rfl, by go_num, hd.out⟩
            case measure => simp [intOf]; omega
        · have hx2 : ((p[i + 1].toNat : Int) == 46) = false := by
            rw [beq_eq_false_iff_ne]
            intro e
            exact hc2 (UInt8.toNat_inj.1 (by show _ = 46; omega))
          rw [if_neg (fun h => hc2 (Option.some.inj h.2))] at hd
          replace hd := hide hd
          clear hc1 hc2
          go_wp2
          go_round
          case rel => exact ⟨i + 1, n, at', by omega, by omega, rfl, rfl, by go_num, hd.out⟩
          case measure => simp [intOf]; omega
      · have hx1 : ((p[i].toNat : Int) == 46) = false := by
          rw [beq_eq_false_iff_ne]
          intro e
          exact hc1 (UInt8.toNat_inj.1 (by show _ = 46; omega))
        rw [if_neg (fun h => hc1 (Option.some.inj h.1))] at hd
        replace hd := hide hd
        clear hc1
        go_wp2
        go_round
        case rel => exact ⟨i + 1, n, at', by omega, by omega, rfl, rfl, by go_num, hd.out⟩
        case measure => simp [intOf]; omega
    · rw [dfold_end (by rw [len_size]; exact hlt)] at hd
      subst hd
      have hi2 : ¬ (i : Int) + 1 < (p.size : Int) := by omega
      go_wp2
      go_ret2
      exact ⟨rfl, rfl⟩
end Go.Proofs.YtdnnahdafhddlaaGreatDoor

namespace Go.Proofs.YtdnnahdafhddlaaGreatDoor
open Go.RowKit
set_option maxRecDepth 100000

theorem own_of_strs {B : Nat} {W : World} {v : Value} {ps : List ByteArray} (h : StrsAt B W v (ps.map (·.data.toList))) : Own kStr 9 [] 0 B W v ps := by
  unfold StrsAt at h
  rw [List.length_map, List.map_map] at h
  refine ⟨ps.map fun p => [.string p], List.length_map _, ?_, ?_⟩
  · rw [flat_ones]
    exact h
  · intro j x vs h1 h2
    rw [List.getElem?_map, h1] at h2
    exact (Option.some.inj h2).symm
/-- The parts of a text cut at its first two dots. -/
theorem ext_cutA {p : ByteArray} (h : dotT p = true) : p.extract 0 (cutA p).size = cutA p := by
  obtain ⟨-, -, -, h4, h5, -⟩ := dots_some h
  refine dat_inj ?_
  rw [ext_list, List.drop_zero, Nat.sub_zero, ← h5]
theorem ext_cutB {p : ByteArray} (h : dotT p = true) : p.extract ((cutA p).size + 2) p.size = cutB p := by
  obtain ⟨-, -, -, h4, -, h6⟩ := dots_some h
  refine dat_inj ?_
  rw [ext_list, List.take_of_length_le (by simp), h6]
theorem range_bad {a b : ByteArray} {room : Nat} (h : ¬ (codeB a = true ∧ codeB b = true)) : rangeV a b room = (10, []) := if_neg h
theorem range_end {a b : ByteArray} {room : Nat} (h : codeB a = true ∧ codeB b = true) (he : endsB a b = false) : rangeV a b room = (3, []) := by
  unfold rangeV; rw [if_pos h, if_neg (by rw [he]; simp)]
theorem range_ok {a b : ByteArray} {room : Nat} (h : codeB a = true ∧ codeB b = true) (he : endsB a b = true) : rangeV a b room = if room ≤ numT b - numT a then (2, []) else (0, (List.range (numT b - numT a + 1)).map (ranF a)) := by
  unfold rangeV; rw [if_pos h, if_pos he]
/-- The last number of a code, as bytes. -/
def digT (a : ByteArray) : ByteArray := mkB (a.data.toList.drop (tailAt a))
theorem digT_size (a : ByteArray) : (digT a).size = widT a := by unfold digT widT; rw [mkB_size, List.length_drop, len_size]
theorem num_is (a : ByteArray) (ha : a.size ≤ 16) (w : World) : Calls Tryz.prog 123 #[.string (digT a)] w fun e w' => e = .returned (.int .i64 (numT a : Int)) ∧ w = w' := by
  have h := r3number_walk (digT a) (by rw [digT_size]; unfold widT; omega) (digS_mk (tail_digs a)) w
  unfold digT at h
  rw [valS_mk] at h
  exact h
theorem nodup_take {l : List ByteArray} {i : Nat} {x : ByteArray} (h : (l.take i).Nodup) (hx : l[i]? = some x) (hm : ∀ y ∈ l.take i, y ≠ x) : (l.take (i + 1)).Nodup := by
  rw [List.take_add_one, hx, List.nodup_append]
  exact ⟨h, by simp, fun y hy z hz => by simp at hz; subst hz; exact hm y hy⟩
theorem nodup_not {l : List ByteArray} {i m : Nat} {x : ByteArray} (hm : m < i) (h1 : l[m]? = some x) (h2 : l[i]? = some x) : ¬ l.Nodup := fun hn => by
  have hl := (List.getElem?_eq_some_iff.1 h1).1
  have := (List.getElem?_inj hl hn).1 (h1.trans h2.symm)
  omega
theorem take_ne {l : List ByteArray} {m : Nat} {x y : ByteArray} (hy : l[m]? = some y) (h : ∀ z ∈ l.take m, z ≠ x) (hne : y ≠ x) : ∀ z ∈ l.take (m + 1), z ≠ x := by
  intro z hz
  rw [List.take_add_one, hy] at hz
  rcases List.mem_append.1 hz with hz | hz
  · exact h z hz
  · simp at hz; subst hz; exact hne
set_option maxHeartbeats 16000000 in
theorem r3list_walk (s : ByteArray) (w : World) (hS : Std w) (hs : s.size < 1073741824) :
    Calls Tryz.prog 103 #[.string s] w fun e w' => BetwIs (listV s) w e w' := by
  obtain ⟨V, hV⟩ : ∃ V, listV s = V := ⟨_, rfl⟩
  rw [hV]
  have hbig := hS.big
  by_cases h0 : s.size = 0
  · have e0 := isEmpty_true _ h0
    have e1 : s.toList = [] := List.isEmpty_iff.1 e0
    have hV' : V = (0, []) := by rw [← hV]; exact if_pos h0
    rw [hV']
    go_enter Tryz.func103, Tryz.ntmps103
    go_wp2
    go_ret2
    exact betw_none (Below.refl _ _)
  · have e0 := isEmpty_false _ h0
    have e1 : s.toList ≠ [] := fun e => by rw [e] at e0; cases e0
    obtain ⟨ps, hps⟩ : ∃ ps, partsOf s = ps := ⟨_, rfl⟩
    have hV' : listF [] ps = V := by rw [← hV, ← hps]; exact (if_neg h0).symm
    have hN : ps.length ≤ 1073741824 := by rw [← hps]; exact Nat.le_trans (partsOf_len s) (by omega)
    have hmem : ∀ p ∈ ps, p.size < 1073741824 := by rw [← hps]; intro p hp; have := partsOf_mem s p hp; omega
    have hsp := r3split_walk s hs w
    have hpd : splitOn1 59 s.data.toList = ps.map (·.data.toList) := by rw [← hps, parts_split h0]
    obtain ⟨N, hNN⟩ : ∃ N, ps.length = N := ⟨_, rfl⟩
    rw [hNN] at hN
    replace hmem := hide hmem
    replace hNN := hide hNN
    replace hpd := hide hpd
    clear hV hps
    go_enter Tryz.func103, Tryz.ntmps103
    go_wp2_with fail
    refine hsp.mono ?_
    clear hsp
    rintro e w2 ⟨v2, rfl, hst, hb2⟩
    rw [hpd.out] at hst
    have hps0 := own_of_strs hst
    obtain ⟨Ap, cp, rfl, -, hat⟩ := hps0.any
    rw [hNN.out]
    have hS2 := hS.after hb2
    have hz2 := hb2.size
    clear hst hpd hps0
    go_wp2_with fail
    go_loopw [5, 6] (fun v i wr => ListSt w2.heap.size w2 N ps V v i wr) (fun _ i _ => N - (intOf i).toNat)
    case atStart => exact ⟨0, [], Nat.zero_le _, rfl, fun h => absurd h (Nat.lt_irrefl _), Nat.zero_le _, Own.nil, hV', Below.refl _ _⟩
    case round =>
      obtain ⟨k, out, hk, rfl, hpos, hout, hown, hF, hb⟩ := hrel
      obtain ⟨A, c, rfl⟩ := hown.form
      have hS4 := hS2.after hb
      have hz4 := hb.size
      by_cases hlt : k < N
      · obtain ⟨p, hp⟩ : ∃ p, ps[k]? = some p := ⟨_, List.getElem?_eq_getElem (by rw [hNN.out]; exact hlt)⟩
        have hpz := hmem.out p (List.mem_of_getElem? hp)
        obtain ⟨bp, op, rfl, -, hbp, kp⟩ := hat.str hp
        have hcell := ((bcell hb).1 _ _ hbp).trans kp
        have hbpr : bp < wr.heap.size := Nat.lt_of_lt_of_le hbp hz4
        have hdrop : ps.drop k = p :: ps.drop (k + 1) := by
          have hkl := (List.getElem?_eq_some_iff.1 hp).1
          rw [List.drop_eq_getElem_cons hkl]
          congr 1
          rw [List.getElem?_eq_getElem hkl] at hp
          exact Option.some.inj hp
        rw [hdrop] at hF
        have hdots := hide (dots_walk p wr hpz)
        have hk0 : (0 : Int) ≤ (k : Int) := by omega
        have hk1 : (k : Int) < (N : Int) := by omega
        have hbw := hb2.trans (hb.mono hz2)
        by_cases hp0 : p.size = 0
        · have p0 := isEmpty_true _ hp0
          have p1 : p.toList = [] := List.isEmpty_iff.1 p0
          have hpv := part_form (p := p) (room := 64 - out.length) (.inl hp0)
          rw [listF_err (by rw [hpv]; simp), hpv] at hF
          subst hF
          obtain ⟨⟨dn, da⟩, hdr⟩ : ∃ r, dotsR p = r := ⟨_, rfl⟩
          rw [hdr] at hdots
          clear hp hdrop hpv hp0 hmem hNN hown hpos hat kp hdr
          go_wp2_with (go_at_call 159; (with_reducible refine hdots.out.mono ?_); rintro e w4 ⟨rfl, rfl⟩)
          all_goals
            go_ret2
            exact betw_none hbw
        · have p0 := isEmpty_false _ hp0
          have p1 : p.toList ≠ [] := fun e => by rw [e] at p0; cases p0
          cases h2 : dotT p with
          | false =>
            rw [dots_none h2] at hdots
            have ht : twiB p = false := by
              unfold twiB
              unfold dotT Lib.cut at h2
              unfold Lib.cut
              split at h2
              · cases h2
              · rename_i h; rw [if_neg h]; rfl
            have hpv := part_one (room := 64 - out.length) hp0 ht h2
            have cv := hide (r3valid_walk p)
            cases hcb : codeB p with
            | false =>
              rw [hcb] at cv
              rw [if_neg (by rw [hcb]; simp)] at hpv
              rw [listF_err (by rw [hpv]; simp), hpv] at hF
              subst hF
              clear hp hdrop hpv hp0 hmem hNN hown hpos ht h2 hcb hat kp
              go_wp2_with (first | (go_at_call 159; (with_reducible refine hdots.out.mono ?_); rintro e w4 ⟨rfl, rfl⟩) | (go_at_call 36; (with_reducible refine (cv.out _).mono ?_); rintro e w4 ⟨rfl, rfl⟩))
              all_goals
                go_ret2
                exact betw_none hbw
            | true =>
              rw [hcb] at cv
              rw [if_pos hcb] at hpv
              rw [listF_ok hpv] at hF
              obtain ⟨out2, ho2⟩ : ∃ out2, out ++ [p] = out2 := ⟨_, rfl⟩
              have hl2 : out2.length = out.length + 1 := by rw [← ho2, List.length_append]; rfl
              rw [ho2] at hF
              clear hp hdrop hpv hp0 hpos ht h2 hcb
              go_wp2_with (first | (go_at_call 159; (with_reducible refine hdots.out.mono ?_); rintro e w4 ⟨rfl, rfl⟩) | (go_at_call 36; (with_reducible refine (cv.out _).mono ?_); rintro e w4 ⟨rfl, rfl⟩) | (at_builtin; refine wpList_own rfl _ _ rfl apd_strs (by decide) rfl (hown.alloc _) ?d1 (by decide) ⟨wr.heap.size, 0, none⟩ 1 rfl p [.string p] rfl (World.news_of_block (cs := #[.string p]) (t := 9) (fr := (0, 0)) (heap_alloc_new _ _)) (by decide) (Nat.zero_le _) ?d2 ?_))
              case d1 => omega
              case d2 => rw [World.size_alloc]; omega
              intro v8 w8 hown8 hgrow
              have hb8 := (hown.alloc _).below_grown (ext_alloc hb _) (Nat.le_refl _) hgrow
              obtain ⟨A2, c2, rfl⟩ := hown8.form
              clear hgrow hown ho2
              by_cases hfull : 64 < out2.length
              · have hfi : (64 : Int) < (out2.length : Int) := by omega
                rw [if_pos hfull] at hF
                subst hF
                go_wp2
                go_ret2
                exact betw_none (hb2.trans (hb8.mono hz2))
              · have hfi : ¬ (64 : Int) < (out2.length : Int) := by omega
                rw [if_neg hfull] at hF
                go_wp2
                go_roundw
                case rel => exact ⟨k + 1, out2, by omega, by go_num, fun _ => by omega, by omega, hown8, hF, hb8⟩
                case measure => simp [intOf]; omega
          | true =>
            obtain ⟨d1, d2, d3, d4, -, -⟩ := dots_some h2
            obtain ⟨nn, hnn⟩ : ∃ nn, (dotsR p).1 = nn := ⟨_, rfl⟩
            rw [d1] at hdots
            rw [hnn] at d2 d3 hdots
            cases ht : twiB p with
            | true =>
              have hn1 : (1 : Int) < (nn : Int) := by
                have : nn ≠ 1 := fun e => by rw [d3.1 e] at ht; cases ht
                omega
              have hpv := part_form (p := p) (room := 64 - out.length) (.inr ht)
              rw [listF_err (by rw [hpv]; simp), hpv] at hF
              subst hF
              clear hp hdrop hpv hp0 hmem hNN hown hpos ht h2 hat kp d1 d2 d3 d4 hnn
              go_wp2_with (go_at_call 159; (with_reducible refine hdots.out.mono ?_); rintro e w4 ⟨rfl, rfl⟩)
              all_goals
                go_ret2
                exact betw_none hbw
            | false =>
              obtain rfl := d3.2 ht
              have hpv := part_two (room := 64 - out.length) hp0 ht h2
              have hxa := ext_cutA h2
              have hxb := ext_cutB h2
              obtain ⟨a, ha⟩ : ∃ a, cutA p = a := ⟨_, rfl⟩
              obtain ⟨b, hbb⟩ : ∃ b, cutB p = b := ⟨_, rfl⟩
              rw [ha, hbb] at hpv
              rw [ha] at hdots d4
              obtain ⟨q, hq⟩ : ∃ q, a.size = q := ⟨_, rfl⟩
              rw [hq] at hdots d4
              rw [ha, hq] at hxa hxb
              rw [hbb] at hxb
              have hq0 : (0 : Int) ≤ (q : Int) := by omega
              have hqp : (q : Int) ≤ (p.size : Int) := by omega
              have hq2 : (q : Int) + 2 ≤ (p.size : Int) := by omega
              have hq20 : (0 : Int) ≤ (q : Int) + 2 := by omega
              have hqw : IntKind.i64.wrap ((q : Int) + 2) = (q : Int) + 2 := by rw [IntKind.wrap_i64]; omega
              have cva := hide (r3valid_walk a)
              have cvb := hide (r3valid_walk b)
              clear hp hdrop hp0 ht h2 d1 d2 d3 d4 hnn ha hbb
              go_upto_region 16 with (go_at_call 159; (with_reducible refine hdots.out.mono ?_); rintro e w4 ⟨rfl, rfl⟩)
              go_region
              rw [hxb]
              have hown5 := hown.drew
              have hb5 := ext_drew hb
              have hbw5 := ext_drew hbw
              have hS5 := hS4.after (ext_drew (Below.refl wr.heap.size wr))
              have hz5 : w2.heap.size ≤ wr.drew.heap.size := hb5.size
              clear hdots hxa hxb hq hq0 hqp hq2 hq20 hqw hown hb hbw hS4 hcell hbpr hz4 kp
              generalize wr.drew = wv at *
              by_cases hv : codeB a = true ∧ codeB b = true
              · obtain ⟨va, vb⟩ := hv
                have sa := code_size va
                have sb := code_size vb
                have na := numT_le a sa.2
                have nb := numT_le b sb.2
                rw [va] at cva
                rw [vb] at cvb
                have hE := fun he => range_end (room := 64 - out.length) ⟨va, vb⟩ (b := b) (a := a) he
                have hO := fun he => range_ok (room := 64 - out.length) ⟨va, vb⟩ (b := b) (a := a) he
                rw [← hpv] at hE hO
                have hno : endsB a b = false → Hid (V = (3, [])) := fun he => hide (by rw [← hF, listF_err (by rw [hE he]; simp), hE he])
                have hna := hide (fun (U : World) => num_is a sa.2 U)
                have hnb := hide (fun (U : World) => num_is b sb.2 U)
                have hta : Hid (∀ U : World, Calls Tryz.prog 84 #[.string a] U fun e w' => e = .returned (.tuple #[.string (mkB (preL a)), .string (digT a)]) ∧ Below U.heap.size U w') := hide (fun U => tail_is a U (by omega))
                have htb : Hid (∀ U : World, Calls Tryz.prog 84 #[.string b] U fun e w' => e = .returned (.tuple #[.string (mkB (preL b)), .string (digT b)]) ∧ Below U.heap.size U w') := hide (fun U => tail_is b U (by omega))
                have hua := digT_size a
                have hub := digT_size b
                clear hE
                by_cases hA : tailAt a < a.size
                · have ea := isEmpty_false (digT a) (by rw [hua]; unfold widT; omega)
                  have ea1 : (digT a).toList ≠ [] := fun e => by rw [e] at ea; cases ea
                  by_cases hB : tailAt b < b.size
                  · have eb := isEmpty_false (digT b) (by rw [hub]; unfold widT; omega)
                    have eb1 : (digT b).toList ≠ [] := fun e => by rw [e] at eb; cases eb
                    by_cases hP : preL a = preL b
                    · rw [← hP] at htb
                      by_cases hNm : numT a ≤ numT b
                      · have hNi : (numT a : Int) ≤ (numT b : Int) := by omega
                        have hwr := hide (fun (U : World) => r3written_walk (numT b) (widT a) U (by omega) (by unfold widT; omega))
                        rw [← hua] at hwr
                        by_cases hW : preL a ++ wrL (numT b) (widT a) = b.data.toList
                        · have hEE : endsB a b = true := decide_eq_true ⟨hA, hB, hP, hNm, hW⟩
                          have hW2 : mkB (wrL (numT b) (digT a).size) = digT b := by
                            refine dat_inj ?_
                            unfold digT
                            rw [mkB_list, mkB_list]
                            have e1 : b.data.toList = preL b ++ b.data.toList.drop (tailAt b) := by unfold preL; rw [List.take_append_drop]
                            rw [← hP] at e1
                            rw [e1] at hW
                            have := List.append_cancel_left hW
                            rw [show (mkB (a.data.toList.drop (tailAt a))).size = widT a from hua]
                            exact this
                          rw [hW2] at hwr
                          have hO2 := hO hEE
                          have hpl : (preL a).length ≤ 16 := Nat.le_trans preL_len sa.2
                          have hdl : (digT a).size ≤ 16 := by rw [hua]; exact Nat.le_trans widT_le sa.2
                          have hnf : ∀ j, mkB (preL a) ++ mkB (wrL (numT a + j) (digT a).size) = ranF a j := fun j => by
                            refine dat_inj ?_
                            rw [hua]
                            unfold ranF
                            rw [mkB_list]
                            simp [mkB]
                          have hXs : (mkB (preL a)).size ≤ 16 := by rw [mkB_size]; exact hpl
                          have hV2 : 64 - out.length ≤ numT b - numT a → Hid (V = (2, [])) := fun h => hide (by rw [if_pos h] at hO2; rw [← hF, listF_err (by rw [hO2]; simp), hO2])
                          have hV0 : ¬ 64 - out.length ≤ numT b - numT a → Hid (listF (out ++ (List.range (numT b - numT a + 1)).map (ranF a)) (ps.drop (k + 1)) = V) := fun h => hide (by
                            rw [if_neg h] at hO2
                            rw [listF_ok hO2, if_neg (by rw [List.length_append, List.length_map, List.length_range]; omega)] at hF
                            exact hF)
                          clear hO hO2 hF hno hpv hW hW2 hEE hP hA hB va vb hub hua
                          obtain ⟨n, hn⟩ : ∃ n, numT a = n := ⟨_, rfl⟩
                          obtain ⟨m, hm⟩ : ∃ m, numT b = m := ⟨_, rfl⟩
                          obtain ⟨d, hd⟩ : ∃ d, (digT a).size = d := ⟨_, rfl⟩
                          obtain ⟨X, hX⟩ : ∃ X, mkB (preL a) = X := ⟨_, rfl⟩
                          obtain ⟨f, hf⟩ : ∃ f, ranF a = f := ⟨_, rfl⟩
                          rw [hn] at na hNm hNi hna
                          rw [hm] at nb hNm hNi hnb hwr
                          rw [hd] at hdl hwr
                          rw [hX] at hta htb hXs
                          simp only [hn, hm, hd, hX, hf] at hnf hV2 hV0
                          replace hnf := hide hnf
                          replace hV2 := hide hV2
                          replace hV0 := hide hV0
                          have hw0 : IntKind.i64.wrap ((m : Int) - (n : Int)) = (m : Int) - (n : Int) := by rw [IntKind.wrap_i64]; omega
                          obtain ⟨Ub, hUb⟩ : ∃ U, digT b = U := ⟨_, rfl⟩
                          obtain ⟨Ua, hUa⟩ : ∃ U, digT a = U := ⟨_, rfl⟩
                          rw [hUb] at htb hnb hwr eb eb1
                          rw [hUa] at hta hna hd ea ea1
                          replace hd := hide hd
                          clear hn hm hX hf hUb hUa
                          have hdi : (Ua.size : Int) = (d : Int) := by have := hd.out; omega
                          by_cases h64 : 64 ≤ m - n
                          · have h64i : (64 : Int) ≤ (m : Int) - (n : Int) := by omega
                            obtain rfl := (hV2.out (by omega)).out
                            clear hown5 hat hmem hNN hV0 hV2 hnf hpl hdl
                            go_wp2_with (first | (go_at_call 36; (with_reducible refine (cva.out _).mono ?_); rintro e w4 ⟨rfl, rfl⟩) | (go_at_call 36; (with_reducible refine (cvb.out _).mono ?_); rintro e w4 ⟨rfl, rfl⟩) | (go_at_call 84; (with_reducible refine (hta.out _).mono ?_); rintro e w6 ⟨rfl, hb6⟩) | (go_at_call 84; (with_reducible refine (htb.out _).mono ?_); rintro e w7 ⟨rfl, hb7⟩) | (go_at_call 123; (with_reducible refine (hna.out _).mono ?_); rintro e w4 ⟨rfl, rfl⟩) | (go_at_call 123; (with_reducible refine (hnb.out _).mono ?_); rintro e w4 ⟨rfl, rfl⟩) | (go_at_call 122; (with_reducible refine (hwr.out _).mono ?_); rintro e w8 ⟨rfl, hb8⟩))
                            all_goals
                              go_ret2
                              exact betw_none (by repeat (first | exact Below.refl _ _ | assumption | refine ext_drew ?_ | refine ext_trans ?_ (by assumption)))
                          · have h64i : ¬ (64 : Int) ≤ (m : Int) - (n : Int) := by omega
                            go_wp2_with (first | (go_at_call 36; (with_reducible refine (cva.out _).mono ?_); rintro e w4 ⟨rfl, rfl⟩) | (go_at_call 36; (with_reducible refine (cvb.out _).mono ?_); rintro e w4 ⟨rfl, rfl⟩) | (go_at_call 84; (with_reducible refine (hta.out _).mono ?_); rintro e w6 ⟨rfl, hb6⟩) | (go_at_call 84; (with_reducible refine (htb.out _).mono ?_); rintro e w7 ⟨rfl, hb7⟩) | (go_at_call 123; (with_reducible refine (hna.out _).mono ?_); rintro e w4 ⟨rfl, rfl⟩) | (go_at_call 123; (with_reducible refine (hnb.out _).mono ?_); rintro e w4 ⟨rfl, rfl⟩) | (go_at_call 122; (with_reducible refine (hwr.out _).mono ?_); rintro e w8 ⟨rfl, hb8⟩))
                            have hb9 : Below w2.heap.size w2 w8 := hb5.trans ((ext_trans (ext_trans hb6 hb7) hb8).mono hz5)
                            have hown9 := hown5.later (ext_trans (ext_trans hb6 hb7) hb8)
                            clear hwr hta htb hb6 hb7 hb8 hown5 hb5 hbw5 cva cvb
                            go_loopw [5, 16] (fun v5 v16 wr => ∃ j : Nat, j ≤ m - n + 1 ∧ v16 = .int .i64 ((n + j : Nat) : Int) ∧ Own kStr 9 [] 0 w2.heap.size wr v5 (out ++ (List.range j).map f) ∧ Below w2.heap.size w2 wr) (fun _ v16 _ => m + 1 - (intOf v16).toNat)
                            case atStart => exact ⟨0, Nat.zero_le _, rfl, by simpa using hown9, hb9⟩
                            case round =>
                              obtain ⟨j, hj, rfl, hownj, hbj⟩ := hrel
                              clear hown9 hb9
                              have hzj := hbj.size
                              by_cases hjl : j < m - n + 1
                              · have hji : ((n + j : Nat) : Int) ≤ (m : Int) := by omega
                                have hw2 : (wrL (n + j) d).length ≤ 120 := by
                                  have h1 := nDigits_le 18 (n + j) (by omega)
                                  rw [len_wrL]; omega
                                have hwr2 := r3written_walk (n + j) d
                                obtain ⟨Y, hY⟩ : ∃ Y, mkB (wrL (n + j) d) = Y := ⟨_, rfl⟩
                                have hYs : Y.size ≤ 120 := by rw [← hY, mkB_size]; exact hw2
                                have hXY : X ++ Y = f j := by rw [← hY]; exact hnf.out j
                                obtain ⟨T, hT⟩ : ∃ T, f j = T := ⟨_, rfl⟩
                                rw [hY] at hwr2
                                have hxt : Hid (out ++ (List.range j).map f ++ [T] = out ++ (List.range (j + 1)).map f) := hide (by rw [List.range_succ, List.map_append, List.append_assoc, ← hT]; rfl)
                                rw [hT] at hXY
                                have ov : (9223372036854775807 < X.size + Y.size) = False := by simp; omega
                                have hlj : (out ++ (List.range j).map f).length ≤ 200 := by rw [List.length_append, List.length_map, List.length_range]; omega
                                obtain ⟨oj, hoj⟩ : ∃ oj, out ++ (List.range j).map f = oj := ⟨_, rfl⟩
                                rw [hoj] at hownj hxt hlj
                                have hwr3 : Hid (∀ U : World, Calls Tryz.prog 122 #[.int .i64 ((n : Int) + (j : Int)), .int .i64 d] U fun e w' => e = .returned (.string Y) ∧ Below U.heap.size U w') := hide (fun (U : World) => hwr2 U (by omega) (by omega))
                                clear hwr2 hY hT hoj hw2
                                go_wp2_with (first | (go_at_call 123; (with_reducible refine (hnb.out _).mono ?_); rintro e w4 ⟨rfl, rfl⟩) | (go_at_call 122; (with_reducible refine (hwr3.out _).mono ?_); rintro e w10 ⟨rfl, hb10⟩) | (at_builtin; refine wpList_own rfl _ _ rfl apd_strs (by decide) rfl ((hownj.later hb10).alloc _) ?d1 (by decide) ⟨w10.heap.size, 0, none⟩ 1 rfl T [.string T] rfl (World.news_of_block (cs := #[.string T]) (t := 9) (fr := (0, 0)) (heap_alloc_new _ _)) (by decide) (Nat.zero_le _) ?d2 ?_))
                                case d1 => omega
                                case d2 => rw [World.size_alloc]; have := hb10.size; omega
                                intro v11 w11 hown11 hgrow
                                have hb11 := ((hownj.later hb10).alloc _).below_grown (ext_alloc (hbj.trans (hb10.mono hzj)) _) (Nat.le_refl _) hgrow
                                rw [hxt.out] at hown11
                                clear hgrow hownj hxt hwr3
                                go_wp2
                                go_roundw
                                case rel => exact ⟨j + 1, by omega, by go_num, hown11, hb11⟩
                                case measure => simp [intOf]; omega
                              · obtain rfl : j = m - n + 1 := by omega
                                have hji : ¬ ((n + (m - n + 1) : Nat) : Int) ≤ (m : Int) := by omega
                                have hlj : (out ++ (List.range (m - n + 1)).map f).length = out.length + (m - n + 1) := by rw [List.length_append, List.length_map, List.length_range]
                                obtain ⟨oj, hoj⟩ : ∃ oj, out ++ (List.range (m - n + 1)).map f = oj := ⟨_, rfl⟩
                                rw [hoj] at hownj hV0 hlj
                                have hpos0 : 0 < oj.length := by omega
                                obtain ⟨Aj, cj, rfl⟩ := hownj.form
                                clear hoj hnf
                                by_cases hfull : 64 < oj.length
                                · have hfi : (64 : Int) < (oj.length : Int) := by omega
                                  have hroom : 64 - out.length ≤ m - n := by omega
                                  replace hlj := hide hlj
                                  obtain rfl := (hV2.out hroom).out
                                  clear hV0 hV2 hownj
                                  go_wp2_with (go_at_call 123; (with_reducible refine (hnb.out _).mono ?_); rintro e w4 ⟨rfl, rfl⟩)
                                  go_ret2
                                  exact betw_none (hb2.trans (hbj.mono hz2))
                                · have hfi : ¬ (64 : Int) < (oj.length : Int) := by omega
                                  have hroom : ¬ 64 - out.length ≤ m - n := by omega
                                  replace hlj := hide hlj
                                  have hF := (hV0.out hroom).out
                                  clear hV0 hV2
                                  go_wp2_with (go_at_call 123; (with_reducible refine (hnb.out _).mono ?_); rintro e w4 ⟨rfl, rfl⟩)
                                  go_roundw
                                  case rel => exact ⟨k + 1, oj, by omega, by go_num, fun _ => hpos0, by omega, hownj, hF, hbj⟩
                                  case measure => simp [intOf]; omega
                        · have hx := hno (decide_eq_false fun h => hW h.2.2.2.2)
                          have hne2 : ¬ (mkB (wrL (numT b) (digT a).size)).data.toList = (digT b).data.toList := fun e => hW (by
                            unfold digT at e
                            rw [mkB_list, mkB_list] at e
                            rw [show (mkB (a.data.toList.drop (tailAt a))).size = widT a from hua] at e
                            rw [e, hP]
                            unfold preL
                            rw [List.take_append_drop])
                          have hne := toList_no hne2
                          have hne1 := toList_ne hne2
                          clear hne2
                          obtain ⟨Y, hY⟩ : ∃ Y, mkB (wrL (numT b) (digT a).size) = Y := ⟨_, rfl⟩
                          rw [hY] at hwr hne hne1
                          obtain rfl := hx.out
                          clear hA hB hP hNm hW hno hO hpv hF hua hub sa sb na nb va vb hY hx hown5 hat hmem hNN
                          go_wp2_with (first | (go_at_call 36; (with_reducible refine (cva.out _).mono ?_); rintro e w4 ⟨rfl, rfl⟩) | (go_at_call 36; (with_reducible refine (cvb.out _).mono ?_); rintro e w4 ⟨rfl, rfl⟩) | (go_at_call 84; (with_reducible refine (hta.out _).mono ?_); rintro e w6 ⟨rfl, hb6⟩) | (go_at_call 84; (with_reducible refine (htb.out _).mono ?_); rintro e w7 ⟨rfl, hb7⟩) | (go_at_call 123; (with_reducible refine (hna.out _).mono ?_); rintro e w4 ⟨rfl, rfl⟩) | (go_at_call 123; (with_reducible refine (hnb.out _).mono ?_); rintro e w4 ⟨rfl, rfl⟩) | (go_at_call 122; (with_reducible refine (hwr.out _).mono ?_); rintro e w8 ⟨rfl, hb8⟩))
                          all_goals
                            go_ret2
                            exact betw_none (by repeat (first | exact Below.refl _ _ | assumption | refine ext_drew ?_ | refine ext_trans ?_ (by assumption)))
                      · have hNi : (numT b : Int) < (numT a : Int) := by omega
                        obtain rfl := (hno (decide_eq_false fun h => hNm h.2.2.2.1)).out
                        clear hA hB hP hNm hno hO hpv hF hua hub sa sb na nb va vb hown5 hat hmem hNN
                        go_wp2_with (first | (go_at_call 36; (with_reducible refine (cva.out _).mono ?_); rintro e w4 ⟨rfl, rfl⟩) | (go_at_call 36; (with_reducible refine (cvb.out _).mono ?_); rintro e w4 ⟨rfl, rfl⟩) | (go_at_call 84; (with_reducible refine (hta.out _).mono ?_); rintro e w6 ⟨rfl, hb6⟩) | (go_at_call 84; (with_reducible refine (htb.out _).mono ?_); rintro e w7 ⟨rfl, hb7⟩) | (go_at_call 123; (with_reducible refine (hna.out _).mono ?_); rintro e w4 ⟨rfl, rfl⟩) | (go_at_call 123; (with_reducible refine (hnb.out _).mono ?_); rintro e w4 ⟨rfl, rfl⟩) | (go_at_call 122; (with_reducible refine (hwr.out _).mono ?_); rintro e w8 ⟨rfl, hb8⟩))
                        all_goals
                          go_ret2
                          exact betw_none (by repeat (first | exact Below.refl _ _ | assumption | refine ext_drew ?_ | refine ext_trans ?_ (by assumption)))
                    · have hP2 : ¬ (mkB (preL a)).data.toList = (mkB (preL b)).data.toList := by rw [mkB_list, mkB_list]; exact hP
                      have hPn := toList_no hP2
                      have hPn1 := toList_ne hP2
                      obtain rfl := (hno (decide_eq_false fun h => hP h.2.2.1)).out
                      clear hA hB hP hP2 hno hO hpv hF hua hub sa sb na nb va vb hown5 hat hmem hNN
                      go_wp2_with (first | (go_at_call 36; (with_reducible refine (cva.out _).mono ?_); rintro e w4 ⟨rfl, rfl⟩) | (go_at_call 36; (with_reducible refine (cvb.out _).mono ?_); rintro e w4 ⟨rfl, rfl⟩) | (go_at_call 84; (with_reducible refine (hta.out _).mono ?_); rintro e w6 ⟨rfl, hb6⟩) | (go_at_call 84; (with_reducible refine (htb.out _).mono ?_); rintro e w7 ⟨rfl, hb7⟩) | (go_at_call 123; (with_reducible refine (hna.out _).mono ?_); rintro e w4 ⟨rfl, rfl⟩) | (go_at_call 123; (with_reducible refine (hnb.out _).mono ?_); rintro e w4 ⟨rfl, rfl⟩) | (go_at_call 122; (with_reducible refine (hwr.out _).mono ?_); rintro e w8 ⟨rfl, hb8⟩))
                      all_goals
                        go_ret2
                        exact betw_none (by repeat (first | exact Below.refl _ _ | assumption | refine ext_drew ?_ | refine ext_trans ?_ (by assumption)))
                  · have eb := isEmpty_true (digT b) (by rw [hub]; unfold widT; omega)
                    have eb1 : (digT b).toList = [] := List.isEmpty_iff.1 eb
                    obtain rfl := (hno (decide_eq_false fun h => hB h.2.1)).out
                    clear hA hB hno hO hpv hF hua hub sa sb na nb va vb hown5 hat hmem hNN
                    go_wp2_with (first | (go_at_call 36; (with_reducible refine (cva.out _).mono ?_); rintro e w4 ⟨rfl, rfl⟩) | (go_at_call 36; (with_reducible refine (cvb.out _).mono ?_); rintro e w4 ⟨rfl, rfl⟩) | (go_at_call 84; (with_reducible refine (hta.out _).mono ?_); rintro e w6 ⟨rfl, hb6⟩) | (go_at_call 84; (with_reducible refine (htb.out _).mono ?_); rintro e w7 ⟨rfl, hb7⟩) | (go_at_call 123; (with_reducible refine (hna.out _).mono ?_); rintro e w4 ⟨rfl, rfl⟩) | (go_at_call 123; (with_reducible refine (hnb.out _).mono ?_); rintro e w4 ⟨rfl, rfl⟩) | (go_at_call 122; (with_reducible refine (hwr.out _).mono ?_); rintro e w8 ⟨rfl, hb8⟩))
                    all_goals
                      go_ret2
                      exact betw_none (by repeat (first | exact Below.refl _ _ | assumption | refine ext_drew ?_ | refine ext_trans ?_ (by assumption)))
                · have ea := isEmpty_true (digT a) (by rw [hua]; unfold widT; omega)
                  have ea1 : (digT a).toList = [] := List.isEmpty_iff.1 ea
                  obtain rfl := (hno (decide_eq_false fun h => hA h.1)).out
                  clear hA hno hO hpv hF hua hub sa sb na nb va vb hown5 hat hmem hNN
                  go_wp2_with (first | (go_at_call 36; (with_reducible refine (cva.out _).mono ?_); rintro e w4 ⟨rfl, rfl⟩) | (go_at_call 36; (with_reducible refine (cvb.out _).mono ?_); rintro e w4 ⟨rfl, rfl⟩) | (go_at_call 84; (with_reducible refine (hta.out _).mono ?_); rintro e w6 ⟨rfl, hb6⟩) | (go_at_call 84; (with_reducible refine (htb.out _).mono ?_); rintro e w7 ⟨rfl, hb7⟩) | (go_at_call 123; (with_reducible refine (hna.out _).mono ?_); rintro e w4 ⟨rfl, rfl⟩) | (go_at_call 123; (with_reducible refine (hnb.out _).mono ?_); rintro e w4 ⟨rfl, rfl⟩) | (go_at_call 122; (with_reducible refine (hwr.out _).mono ?_); rintro e w8 ⟨rfl, hb8⟩))
                  all_goals
                    go_ret2
                    exact betw_none (by repeat (first | exact Below.refl _ _ | assumption | refine ext_drew ?_ | refine ext_trans ?_ (by assumption)))
              · have hb10 := range_bad (room := 64 - out.length) hv
                rw [← hpv] at hb10
                have hVV : V = (10, []) := by rw [← hF, listF_err (by rw [hb10]; simp), hb10]
                subst hVV
                clear hF hb10 hpv hown5 hat hmem hNN
                cases va : codeB a with
                | false =>
                  rw [va] at cva
                  clear hv va
                  go_wp2_with (first | (go_at_call 36; (with_reducible refine (cva.out _).mono ?_); rintro e w4 ⟨rfl, rfl⟩) | (go_at_call 36; (with_reducible refine (cvb.out _).mono ?_); rintro e w4 ⟨rfl, rfl⟩) | (go_at_call 84; (with_reducible refine (hta.out _).mono ?_); rintro e w6 ⟨rfl, hb6⟩) | (go_at_call 84; (with_reducible refine (htb.out _).mono ?_); rintro e w7 ⟨rfl, hb7⟩) | (go_at_call 123; (with_reducible refine (hna.out _).mono ?_); rintro e w4 ⟨rfl, rfl⟩) | (go_at_call 123; (with_reducible refine (hnb.out _).mono ?_); rintro e w4 ⟨rfl, rfl⟩) | (go_at_call 122; (with_reducible refine (hwr.out _).mono ?_); rintro e w8 ⟨rfl, hb8⟩))
                  all_goals
                    go_ret2
                    exact betw_none (by repeat (first | exact Below.refl _ _ | assumption | refine ext_drew ?_ | refine ext_trans ?_ (by assumption)))
                | true =>
                  cases vb : codeB b with
                  | false =>
                    rw [va] at cva
                    rw [vb] at cvb
                    clear hv va vb
                    go_wp2_with (first | (go_at_call 36; (with_reducible refine (cva.out _).mono ?_); rintro e w4 ⟨rfl, rfl⟩) | (go_at_call 36; (with_reducible refine (cvb.out _).mono ?_); rintro e w4 ⟨rfl, rfl⟩) | (go_at_call 84; (with_reducible refine (hta.out _).mono ?_); rintro e w6 ⟨rfl, hb6⟩) | (go_at_call 84; (with_reducible refine (htb.out _).mono ?_); rintro e w7 ⟨rfl, hb7⟩) | (go_at_call 123; (with_reducible refine (hna.out _).mono ?_); rintro e w4 ⟨rfl, rfl⟩) | (go_at_call 123; (with_reducible refine (hnb.out _).mono ?_); rintro e w4 ⟨rfl, rfl⟩) | (go_at_call 122; (with_reducible refine (hwr.out _).mono ?_); rintro e w8 ⟨rfl, hb8⟩))
                    all_goals
                      go_ret2
                      exact betw_none (by repeat (first | exact Below.refl _ _ | assumption | refine ext_drew ?_ | refine ext_trans ?_ (by assumption)))
                  | true => exact absurd ⟨va, vb⟩ hv
      · obtain rfl : k = N := by omega
        rw [List.drop_of_length_le (by rw [hNN.out]; exact Nat.le_refl _), listF] at hF
        have hbw := hb2.trans (hb.mono hz2)
        have hki : ¬ (k : Int) < (k : Int) := by omega
        obtain ⟨M, hM⟩ : ∃ M, out.length = M := ⟨_, rfl⟩
        obtain ⟨A', c', e', -, hato⟩ := hown.any
        injection e' with q1 q2 q3
        subst q1 q3
        rw [hM] at hout ⊢
        have hownM := hown
        rw [hM] at hownM
        replace hM := hide hM
        replace hF := hide hF
        clear hpos hmem hNN hat hV' hown
        rename World => wo
        go_wp2_with fail
        go_loopw [17] (fun v wr => ∃ i : Nat, i ≤ M ∧ v = .int .i64 i ∧ (out.take i).Nodup ∧ Below wo.heap.size wo wr) (fun v _ => M - (intOf v).toNat)
        case atStart => exact ⟨0, Nat.zero_le _, rfl, by simp, Below.refl _ _⟩
        case round =>
          obtain ⟨i, hi, rfl, hnd, hbi⟩ := hrel
          replace hnd := hide hnd
          by_cases hil : i < M
          · obtain ⟨x, hx⟩ : ∃ x, out[i]? = some x := ⟨_, List.getElem?_eq_getElem (by rw [hM.out]; exact hil)⟩
            obtain ⟨bo, oo, rfl, -, hbo, kx⟩ := hato.str hx
            have hii : (i : Int) < (M : Int) := by omega
            have hi0 : (0 : Int) ≤ (i : Int) := by omega
            have kx1 := cell_later hbi kx
            have hbo1 : bo < wr.heap.size := Nat.lt_of_lt_of_le hbo hbi.size
            rename World => wq
            go_wp2_with fail
            go_loopw [18] (fun v wr => ∃ m : Nat, m ≤ i ∧ v = .int .i64 m ∧ (∀ y ∈ out.take m, y ≠ x) ∧ Below wq.heap.size wq wr) (fun v _ => i - (intOf v).toNat)
            case atStart => exact ⟨0, Nat.zero_le _, rfl, fun y hy => by simp at hy, Below.refl _ _⟩
            case round =>
              obtain ⟨m, hm, rfl, hne, hbm⟩ := hrel
              replace hne := hide hne
              have kx2 := cell_later hbm kx1
              have hbo2 : bo < wr.heap.size := Nat.lt_of_lt_of_le hbo1 hbm.size
              by_cases hml : m < i
              · obtain ⟨y, hy⟩ : ∃ y, out[m]? = some y := ⟨_, List.getElem?_eq_getElem (by rw [hM.out]; omega)⟩
                obtain ⟨b', o', e', -, -, ky⟩ := hato.str hy
                injection e' with e'
                injection e' with e1 e2
                subst e1 e2
                have ky2 := cell_later hbm (cell_later hbi ky)
                have hmi : (m : Int) < (i : Int) := by omega
                have hmM : (m : Int) < (M : Int) := by omega
                have hm0 : (0 : Int) ≤ (m : Int) := by omega
                by_cases hxy : y = x
                · subst hxy
                  have hVV : Hid (V = (11, [])) := hide (by rw [← hF.out, if_neg (nodup_not hml hy hx)])
                  clear hx hy hne hnd hF hato kx kx1 ky
                  go_upto_region 37 with fail
                  go_region
                  all_goals
                    go_wp2_with fail
                    go_ret2
                    rw [hVV.out]
                    exact betw_none (by first | exact ext_trans hbw (ext_trans hbi hbm) | exact ext_drew (ext_trans hbw (ext_trans hbi hbm)))
                · have hnext := hide (take_ne hy hne.out hxy)
                  have hq := toList_no (X := x) (Y := y) (fun e => hxy (dat_inj e).symm)
                  clear hx hy hne hnd hF hato kx kx1 ky hxy
                  go_upto_region 37 with fail
                  go_region
                  all_goals
                    go_wp2_with fail
                    go_roundw
                    case rel => exact ⟨m + 1, by omega, by go_num, hnext.out, by first | exact hbm | exact ext_drew hbm⟩
                    case measure => simp [intOf]; omega
              · obtain rfl : m = i := by omega
                have hnext := hide (nodup_take hnd.out hx hne.out)
                have hmi : ¬ (m : Int) < (m : Int) := by omega
                clear hx hne hnd hF hato kx kx1 kx2
                go_wp2_with fail
                go_roundw
                case rel => exact ⟨m + 1, by omega, by go_num, hnext.out, ext_trans hbi hbm⟩
                case measure => simp [intOf]; omega
          · obtain rfl : i = M := by omega
            have hVV : Hid (V = (0, out)) := hide (by
              have := hnd.out
              rw [List.take_of_length_le (by rw [hM.out]; exact Nat.le_refl _)] at this
              rw [← hF.out, if_pos this])
            have hii : ¬ (i : Int) < (i : Int) := by omega
            clear hnd hF hato
            go_wp2_with fail
            go_ret2
            rw [hVV.out]
            exact ⟨_, rfl, (hownM.lower hz2).later hbi, ext_trans hbw hbi⟩
end Go.Proofs.YtdnnahdafhddlaaGreatDoor
