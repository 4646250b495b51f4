/- Walk of timetableref03.Join. Conditions: the cells. Walk of Scanner.Codes: a field that is a list of codes. Conditions: the scanner's cells are as Scan says; a text shorter than 2^30 bytes; what the program's variables hold. Walk of Scanner.Times, whether a problem is noted or not. Conditions: a text shorter than 2^30 bytes; what the program's variables hold. -/
import Derived.Test.YtnbcaklnpflihaaGreatDoorKFol
import Derived.Test.YtnbcaklnpflihaaGreatDoorKRunC
import Derived.Test.YtnbcaklnpflihaaGreatDoorKSameL
import Derived.Test.YtnbcaklnpflihaaGreatDoorKTgH
namespace Go.Proofs.YtnbcaklnpflihaaGreatDoor
open Go.RowKit
set_option maxRecDepth 100000

/-- The loop that looks for the next code of a range goes on as long as the run does. -/
theorem fol_run {a x prev : ByteArray} {r : List ByteArray} {j : Nat} (h1 : 1 ≤ j) (hj : j ≤ runV (a :: r)) (hx : (a :: r)[j]? = some x) (hp : (a :: r)[j - 1]? = some prev) : folB x prev (widT a) = decide (j < runV (a :: r)) := by
  rw [runV] at hj ⊢
  obtain ⟨i, rfl⟩ : ∃ i, j = i + 1 := ⟨j - 1, by omega⟩
  rw [List.getElem?_cons_succ] at hx
  rw [Nat.add_sub_cancel] at hp
  by_cases ht : tailAt a < a.size
  · rw [if_pos ht] at hj ⊢
    have hpr : prev = ranF a i := by
      cases i with
      | zero => rw [ran_zero ht]; exact (Option.some.inj hp).symm
      | succ i =>
        rw [List.getElem?_cons_succ, runC_next (a := a) (j := 1) (by omega)] at hp
        rw [← Option.some.inj hp, Nat.add_comm]
    rw [hpr, fol_ran]
    by_cases hlt : i < runC a 1 r
    · rw [runC_next (a := a) (j := 1) hlt] at hx
      rw [decide_eq_true (p := i + 1 < runC a 1 r + 1) (by omega)]
      exact decide_eq_true (by rw [← Option.some.inj hx, Nat.add_comm])
    · obtain rfl : i = runC a 1 r := by omega
      have := runC_stop hx
      rw [Nat.add_comm] at this
      rw [decide_eq_false (p := runC a 1 r + 1 < runC a 1 r + 1) (by omega)]
      exact decide_eq_false this
  · rw [if_neg ht] at hj ⊢
    obtain rfl : i = 0 := by omega
    obtain rfl : a = prev := Option.some.inj hp
    unfold folB
    rw [decide_eq_false (fun h => ht h.1)]
    rfl
/-- The text so far, with the next part behind it. -/
theorem out_next {dn : List ByteArray} {out T out' : ByteArray} (h : out.data.toList = Lib.join (dn.map (·.data.toList)) [59]) (h' : out'.data.toList = if dn = [] then out.data.toList ++ T.data.toList else out.data.toList ++ 59 :: T.data.toList) : out'.data.toList = Lib.join ((dn ++ [T]).map (·.data.toList)) [59] := by
  rw [List.map_append, h']
  show _ = Lib.join (dn.map (·.data.toList) ++ [T.data.toList]) [59]
  rw [join_snoc59]
  by_cases e : dn = []
  · subst e
    rw [if_pos rfl, h]
    rfl
  · rw [if_neg e, if_neg (by simpa using e), h]
/-- The codes before place i are parts; the text of them. -/
def RJoin (l P : List ByteArray) (N : Nat) (out : ByteArray) (i : Nat) : Prop :=
  ∃ dn : List ByteArray, out.data.toList = Lib.join (dn.map (·.data.toList)) [59] ∧ dn ++ pieceS 0 (l.drop i) = P ∧ (dn = [] ↔ i = 0) ∧ dn.length ≤ i ∧ i ≤ N ∧ ∀ p ∈ dn, p.data.toList.length ≤ 40
theorem RJoin.size {l P : List ByteArray} {N i : Nat} {out : ByteArray} (h : RJoin l P N out i) (hN : N ≤ 64) : out.size ≤ 2624 := by
  obtain ⟨dn, h1, -, -, h4, h5, h6⟩ := h
  have := lens59 40 (dn.map (·.data.toList)) (fun x hx => by obtain ⟨p, hp, rfl⟩ := List.mem_map.1 hx; exact h6 p hp)
  rw [List.length_map] at this
  rw [← len_size, h1]
  omega
theorem RJoin.next {l P : List ByteArray} {N i k : Nat} {out out' T : ByteArray} (h : RJoin l P N out i) (hp : pieceS 0 (l.drop i) = T :: pieceS 0 (l.drop (i + k))) (hk : 1 ≤ k) (hN : i + k ≤ N) (hT : T.data.toList.length ≤ 40)
    (ho : out'.data.toList = if i = 0 then out.data.toList ++ T.data.toList else out.data.toList ++ 59 :: T.data.toList) : RJoin l P N out' (i + k) := by
  obtain ⟨dn, h1, h2, h3, h4, -, h6⟩ := h
  refine ⟨dn ++ [T], out_next h1 ?_, by rw [← h2, hp]; simp, ⟨fun e => by simp at e, fun e => by omega⟩, by rw [List.length_append]; simp; omega, hN, fun p hp => ?_⟩
  · rw [ho]
    by_cases e : i = 0
    · rw [if_pos e, if_pos (h3.2 e)]
    · rw [if_neg e, if_neg (fun q => e (h3.1 q))]
  · rcases List.mem_append.1 hp with h | h
    · exact h6 p h
    · simp at h; subst h; exact hT
theorem RJoin.done {l P : List ByteArray} {N : Nat} {out : ByteArray} (h : RJoin l P N out N) (hl : l.length = N) : out = mkB (Lib.join (P.map (·.data.toList)) [59]) := by
  obtain ⟨dn, h1, h2, -⟩ := h
  rw [List.drop_of_length_le (by omega)] at h2
  have : dn = P := by rw [← h2]; simp [pieceS]
  rw [← this]
  exact mkB_of h1
theorem drop_cons {l r : List ByteArray} {a : ByteArray} {i : Nat} (h : l[i]? = some a) (hr : l.drop (i + 1) = r) : l.drop i = a :: r := by
  have hl := (List.getElem?_eq_some_iff.1 h).1
  rw [List.drop_eq_getElem_cons hl, hr]
  congr 1
  rw [List.getElem?_eq_getElem hl] at h
  exact Option.some.inj h
theorem RJoin.step_run {l P r : List ByteArray} {N i : Nat} {out O1 a z : ByteArray} (h : RJoin l P N out i) (hd : l.drop i = a :: r) (h3 : 3 ≤ runV (a :: r)) (hz : l[i + runV (a :: r) - 1]? = some z) (hN : i + runV (a :: r) ≤ N) (ha : a.size ≤ 16) (hzs : z.size ≤ 16)
    (hO : O1.data.toList = if i = 0 then out.data.toList else out.data.toList ++ [59]) : RJoin l P N (O1 ++ rangeT a z) (i + runV (a :: r)) := by
  refine h.next (T := rangeT a z) ?_ (by omega) hN (by rw [len_size, rangeT_size]; omega) ?_
  · have e : (a :: r).getD (runV (a :: r) - 1) ⟨#[]⟩ = z := by
      have e2 : (a :: r)[runV (a :: r) - 1]? = some z := by
        obtain ⟨q, hq⟩ : ∃ q, runV (a :: r) - 1 = q := ⟨_, rfl⟩
        rw [hq, ← hd, List.getElem?_drop, show i + q = i + runV (a :: r) - 1 from by omega]
        exact hz
      rw [List.getD_eq_getElem?_getD, e2]
      rfl
    have e3 : l.drop (i + runV (a :: r)) = (a :: r).drop (runV (a :: r)) := by
      obtain ⟨q, hq⟩ : ∃ q, runV (a :: r) = q := ⟨_, rfl⟩
      rw [hq, ← hd, List.drop_drop]
    rw [hd, piece_run h3, e, e3]
  · rw [show (O1 ++ rangeT a z).data.toList = O1.data.toList ++ (rangeT a z).data.toList from by simp, hO]
    by_cases e : i = 0
    · rw [if_pos e, if_pos e]
    · rw [if_neg e, if_neg e, List.append_assoc]; rfl
theorem RJoin.step_one {l P r : List ByteArray} {N i : Nat} {out O1 a : ByteArray} (h : RJoin l P N out i) (hd : l.drop i = a :: r) (h3 : ¬ 3 ≤ runV (a :: r)) (hr : l.drop (i + 1) = r) (hN : i + 1 ≤ N) (ha : a.size ≤ 16)
    (hO : O1.data.toList = if i = 0 then out.data.toList else out.data.toList ++ [59]) : RJoin l P N (O1 ++ a) (i + 1) := by
  refine h.next (T := a) ?_ (Nat.le_refl _) hN (by rw [len_size]; omega) ?_
  · rw [hd, piece_one h3, hr]
  · rw [show (O1 ++ a).data.toList = O1.data.toList ++ a.data.toList from by simp, hO]
    by_cases e : i = 0
    · rw [if_pos e, if_pos e]
    · rw [if_neg e, if_neg e, List.append_assoc]; rfl
set_option maxHeartbeats 8000000 in
theorem r3join_walk (A : Option Addr) (l : List ByteArray) (c : Nat) (w : World) (hA : At kStr AnyB w A l) (hl : l.length ≤ 9223372036854775807) :
    Calls Tryz.prog 26 #[.slice A l.length c] w fun e w' => JoinIs (joinV l) w e w' := by
  obtain ⟨V, hV⟩ : ∃ V, joinV l = V := ⟨_, rfl⟩
  rw [hV]
  by_cases h64 : 64 < l.length
  · have hV' : V = (2, ⟨#[]⟩) := by rw [← hV]; exact if_pos h64
    have h64i : (64 : Int) < (l.length : Int) := by omega
    rw [hV']
    clear hV hV' hA
    obtain ⟨N, hN⟩ : ∃ N, l.length = N := ⟨_, rfl⟩
    rw [hN] at h64i hl ⊢
    clear hN
    go_enter Tryz.func26, Tryz.ntmps26
    go_wp2_with fail
    go_ret2
    exact join_err (Below.refl _ _)
  · have hV' : (if jErr l l.length ≠ 0 then (jErr l l.length, (⟨#[]⟩ : ByteArray)) else (0, mkB (Lib.join ((pieceS 0 l).map (·.data.toList)) [59]))) = V := by rw [← hV]; exact (if_neg h64).symm
    obtain ⟨N, hN⟩ : ∃ N, l.length = N := ⟨_, rfl⟩
    have h64i : ¬ (64 : Int) < (N : Int) := by omega
    have hcodes := jErr_code (l := l)
    rw [hN] at hV' hl hcodes ⊢
    have hN64 : N ≤ 64 := by omega
    replace hV' := hide hV'
    replace hN := hide hN
    replace hcodes := hide hcodes
    clear hV h64
    go_enter Tryz.func26, Tryz.ntmps26
    go_wp2_with fail
    go_loopw [4] (fun i wr => ∃ j : Nat, j ≤ N ∧ i = .int .i64 j ∧ jErr l j = 0 ∧ Below w.heap.size w wr) (fun i _ => N - (intOf i).toNat)
    case atStart => exact ⟨0, Nat.zero_le _, rfl, rfl, Below.refl _ _⟩
    case round =>
      obtain ⟨j, hj, rfl, ho, hb⟩ := hrel
      replace ho := hide ho
      by_cases hlt : j < N
      · obtain ⟨z, hz⟩ : ∃ z, l[j]? = some z := ⟨_, List.getElem?_eq_getElem (by rw [hN.out]; exact hlt)⟩
        obtain ⟨b, off, rfl, -, hbw, -⟩ := hA.str hz
        have hAr := hA.later hb
        obtain ⟨b', off', e', -, hbb, k0⟩ := hAr.str hz
        injection e' with e'
        injection e' with e1 e2
        subst e1 e2
        have hj0 : (0 : Int) ≤ (j : Int) := by omega
        have hj1 : (j : Int) < (N : Int) := by omega
        have hcv := r3valid_walk z wr
        have hE : jE l j = if codeB z = false then 10 else if 0 ≤ idxS z (l.take j) then 11 else 0 := by
          unfold jE; rw [List.getD_eq_getElem?_getD, hz]; rfl
        cases hv : codeB z with
        | false =>
          have h10 : jE l j = 10 := by rw [hE, hv]; rfl
          have hVV : Hid (V = (10, ⟨#[]⟩)) := hide (by
            rw [← hV'.out, jErr_hit ho.out (by rw [h10]; decide) N hlt, h10]; rfl)
          rw [hv] at hcv
          clear hv hE hAr hA hz h10 hj
          go_wp2_with (go_at_call 33; refine hcv.mono ?_; rintro e w2 ⟨rfl, rfl⟩)
          go_ret2
          rw [hVV.out]
          exact join_err hb
        | true =>
          rw [hv] at hE hcv
          rw [if_neg (by simp)] at hE
          replace hE := hide hE
          clear hv
          go_wp2_with (go_at_call 33; refine hcv.mono ?_; rintro e w2 ⟨rfl, rfl⟩)
          rename World => wo
          go_loopw [5] (fun k wr => ∃ m : Nat, m ≤ j ∧ k = .int .i64 m ∧ (∀ y ∈ l.take m, (y.toList == z.toList) = false) ∧ Below wo.heap.size wo wr) (fun k _ => j - (intOf k).toNat)
          case atStart => exact ⟨0, Nat.zero_le _, rfl, fun y hy => by simp at hy, Below.refl _ _⟩
          case round =>
            obtain ⟨m, hm, rfl, hmiss, hbx⟩ := hrel
            replace hmiss := hide hmiss
            have k1 := cell_later hbx k0
            by_cases hml : m < j
            · obtain ⟨y, hy⟩ : ∃ y, l[m]? = some y := ⟨_, List.getElem?_eq_getElem (by rw [hN.out]; omega)⟩
              obtain ⟨b', off', e', -, -, k2⟩ := hAr.str hy
              injection e' with e'
              injection e' with e1 e2
              subst e1 e2
              have k3 := cell_later hbx k2
              have hbx2 : b < wr.heap.size := Nat.lt_of_lt_of_le hbb hbx.size
              have hm0 : (0 : Int) ≤ (m : Int) := by omega
              have hm1 : (m : Int) < (j : Int) := by omega
              have hmN : (m : Int) < (N : Int) := by omega
              cases hq : (y.toList == z.toList) with
              | true =>
                have h11 : jE l j = 11 := by
                  rw [hE.out, if_pos]
                  rw [idxS_hit (j := m) (x := y) (by rw [List.getElem?_take, if_pos hml]; exact hy) (by rw [List.take_take, Nat.min_eq_left (by omega)]; exact hmiss.out) hq]
                  omega
                have hVV : Hid (V = (11, ⟨#[]⟩)) := hide (by
                  rw [← hV'.out, jErr_hit ho.out (by rw [h11]; decide) N hlt, h11]; rfl)
                have hyz : z = y := by
                  rw [beq_iff_eq, toList_dataL, toList_dataL] at hq
                  exact (dat_inj hq).symm
                subst hyz
                clear h11 hE hmiss hAr hA hz hy k0 k2 hq
                go_upto_region 11 with fail
                go_region
                all_goals
                  go_wp2_with fail
                  go_ret2
                  rw [hVV.out]
                  exact join_err (by first | exact ext_trans hb hbx | exact ext_drew (ext_trans hb hbx))
              | false =>
                have hnext := hide (take_miss hy hmiss.out hq)
                have hq2 : (z.toList == y.toList) = false := by rw [beq_eq_false_iff_ne] at hq ⊢; exact fun e => hq e.symm
                clear hE hmiss hAr hA hz hy k0 k2 hq
                go_upto_region 11 with fail
                go_region
                all_goals
                  go_wp2_with fail
                  go_roundw
                  case rel => exact ⟨m + 1, by omega, by go_num, hnext.out, by first | exact hbx | exact ext_drew hbx⟩
                  case measure => simp [intOf]; omega
            · obtain rfl : m = j := by omega
              have h0 : Hid (jErr l (m + 1) = 0) := hide (by
                rw [jErr_next ho.out, hE.out, if_neg]
                rw [idxS_none hmiss.out]; decide)
              clear hE hmiss hAr hA hz k0
              go_wp2_with fail
              go_roundw
              case rel => exact ⟨m + 1, by omega, by go_num, h0.out, ext_trans hb hbx⟩
              case measure => simp [intOf]; omega
      · obtain rfl : j = N := by omega
        have hall := hcodes.out ho.out
        have hVV : Hid (V = (0, mkB (Lib.join ((pieceS 0 l).map (·.data.toList)) [59]))) := hide (by
          rw [← hV'.out, if_neg (by rw [ho.out]; simp)])
        obtain ⟨P, hP⟩ : ∃ P, pieceS 0 l = P := ⟨_, rfl⟩
        rw [hP] at hVV
        replace hP := hide hP
        clear hcodes hV' ho hj hlt
        rename World => ws
        go_wp2_with fail
        go_loopw [6, 7] (fun v6 v7 wr => ∃ (i : Nat) (out : ByteArray), i ≤ j ∧ v6 = .string out ∧ v7 = .int .i64 i ∧ RJoin l P j out i ∧ Below w.heap.size w wr) (fun _ v7 _ => j - (intOf v7).toNat)
        case atStart => exact ⟨0, ⟨#[]⟩, Nat.zero_le _, rfl, rfl, ⟨[], rfl, by simpa using hP.out, ⟨fun _ => rfl, fun _ => rfl⟩, Nat.le_refl _, Nat.zero_le _, fun p hp => by simp at hp⟩, hb⟩
        case round =>
          clear hb
          obtain ⟨i, out, hi, rfl, rfl, hR, hb⟩ := hrel
          have hRs := hR.size hN64
          by_cases hij : i < j
          · obtain ⟨a, ha⟩ : ∃ a, l[i]? = some a := ⟨_, List.getElem?_eq_getElem (by rw [hN.out]; exact hij)⟩
            obtain ⟨r, hr⟩ : ∃ r, l.drop (i + 1) = r := ⟨_, rfl⟩
            have hd := drop_cons ha hr
            have hAr := hA.later hb
            obtain ⟨b, off, rfl, -, hbb, k0⟩ := hAr.str ha
            have hcell : Hid (∀ k x, l[k]? = some x → wr.cell? ⟨b, off + k, none⟩ = some (.string x)) := hide (fun k x hx => by
              obtain ⟨b', off', e', -, -, k2⟩ := hAr.str hx
              injection e' with e'
              injection e' with e1 e2
              subst e1 e2
              exact k2)
            have has := code_size (hall a (List.mem_of_getElem? ha))
            have hrl : (a :: r).length = j - i := by rw [← hd, List.length_drop, hN.out]
            have hr1 := runV_pos (a := a) (r := r)
            have hr2 := runV_le (a :: r)
            have ht := tail_is a wr (by omega)
            have hUs : (mkB (a.data.toList.drop (tailAt a))).size = widT a := by rw [mkB_size, List.length_drop, len_size]; rfl
            have hwd := widT_le (a := a)
            obtain ⟨U, hU⟩ : ∃ U, mkB (a.data.toList.drop (tailAt a)) = U := ⟨_, rfl⟩
            obtain ⟨X, hX⟩ : ∃ X, mkB (preL a) = X := ⟨_, rfl⟩
            rw [hU] at ht hUs
            rw [hX] at ht
            obtain ⟨cnt, hcnt⟩ : ∃ cnt, runV (a :: r) = cnt := ⟨_, rfl⟩
            have hfol : Hid (∀ m x prev, i + 1 ≤ m → m ≤ i + cnt → l[m]? = some x → l[m - 1]? = some prev → folB x prev U.size = decide (m < i + cnt)) := hide (fun m x prev h1 h2 hx hp => by
              have e1 : (a :: r)[m - i]? = some x := by rw [← hd, List.getElem?_drop, show i + (m - i) = m from by omega]; exact hx
              have e2 : (a :: r)[m - i - 1]? = some prev := by rw [← hd, List.getElem?_drop, show i + (m - i - 1) = m - 1 from by omega]; exact hp
              rw [hUs, fol_run (by omega) (by omega) e1 e2, hcnt]
              by_cases e : m < i + cnt
              · rw [decide_eq_true e, decide_eq_true (by omega)]
              · rw [decide_eq_false e, decide_eq_false (by omega)])
            have hU16 : U.size ≤ 16 := by rw [hUs]; omega
            rw [hcnt] at hr1 hr2
            rw [hrl] at hr2
            have hi0 : (0 : Int) ≤ (i : Int) := by omega
            have hi1 : (i : Int) < (j : Int) := by omega
            replace hd := hide hd
            replace hr := hide hr
            replace hR := hide hR
            replace hcnt := hide hcnt
            clear hU hX hUs hrl hwd hAr
            rename World => wo
            go_wp2_with (go_at_call 59; (with_reducible refine ht.mono ?_); rintro e w1 ⟨rfl, hb1⟩)
            clear ht
            go_loopw [10] (fun v wr => ∃ m : Nat, i + 1 ≤ m ∧ m ≤ i + cnt ∧ v = .int .i64 m ∧ Below wo.heap.size wo wr) (fun v _ => j + 1 - (intOf v).toNat)
            case atStart => exact ⟨i + 1, Nat.le_refl _, by omega, by go_num, hb1⟩
            case round =>
              clear hb1
              obtain ⟨m, hm1, hm2, rfl, hb1⟩ := hrel
              obtain ⟨p, hp⟩ : ∃ p, m - 1 = p := ⟨_, rfl⟩
              have hpi : (m : Int) - 1 = (p : Int) := by omega
              have hpw : IntKind.i64.wrap (p : Int) = (p : Int) := by rw [IntKind.wrap_i64]; omega
              have hp0 : (0 : Int) ≤ (p : Int) := by omega
              have hpj : (p : Int) < (j : Int) := by omega
              have hm0 : (0 : Int) ≤ (m : Int) := by omega
              obtain ⟨z, hz⟩ : ∃ z, l[p]? = some z := ⟨_, List.getElem?_eq_getElem (by rw [hN.out]; omega)⟩
              have hzs := code_size (hall z (List.mem_of_getElem? hz))
              have kz := cell_later hb1 (hcell.out p z hz)
              have hbl : b < wr.heap.size := Nat.lt_of_lt_of_le hbb hb1.size
              replace hz := hide hz
              replace hp := hide hp
              have hO1 : ∃ O1 : ByteArray, (i = 0 → out = O1) ∧ (i ≠ 0 → out ++ ⟨#[59]⟩ = O1) ∧ O1.data.toList = (if i = 0 then out.data.toList else out.data.toList ++ [59]) ∧ O1.size ≤ 2625 := by
                by_cases e : i = 0
                · exact ⟨out, fun _ => rfl, fun h => absurd e h, by rw [if_pos e], by omega⟩
                · exact ⟨out ++ ⟨#[59]⟩, fun h => absurd h e, fun _ => rfl, by rw [if_neg e]; simp, by rw [ByteArray.size_append]; show out.size + 1 ≤ _; omega⟩
              obtain ⟨O1, hOa, hOb, hOl, hOs⟩ := hO1
              replace hOl := hide hOl
              by_cases hmj : m < j
              · obtain ⟨x, hx⟩ : ∃ x, l[m]? = some x := ⟨_, List.getElem?_eq_getElem (by rw [hN.out]; omega)⟩
                have kx := cell_later hb1 (hcell.out m x hx)
                have hmi : (m : Int) < (j : Int) := by omega
                have hf := hfol.out m x z hm1 hm2 hx (by rw [hp.out]; exact hz.out)
                have hSL : Cn2 b (off + m) ((.string x)) b (off + p) ((.string z)) wr := ⟨kx, kz⟩
                obtain ⟨q, hq⟩ : ∃ q, decide (m < i + cnt) = q := ⟨_, rfl⟩
                rw [hq] at hf
                have hcall := hide (fun (V : World) (hV : Below wr.heap.size wr V) => (fol_walk x z U.size V hzs.2 (by omega)).mono fun e w' ⟨he, hb'⟩ => (⟨by rw [he, hf], ext_trans hV hb', hSL.later (ext_trans hV hb')⟩ : e = Ending.returned (.bool q) ∧ Below wr.heap.size wr w' ∧ Cn2 b (off + m) ((.string x)) b (off + p) ((.string z)) w'))
                have hSd := hSL.drew
                have hrefl := Below.refl wr.heap.size wr
                replace hq := hide hq
                clear hf hx kx
                cases q with
                | true =>
                  have hlt2 : m < i + cnt := of_decide_eq_true hq.out
                  clear hOa hOb hOl hOs kz hq
                  go_upto_region 18 with fail
                  go_region_held3 (fun W' => W'.cell? ⟨b, off + m, none⟩ = some ((.string x)) ∧ W'.cell? ⟨b, off + p, none⟩ = some ((.string z))) (first | ((repeat (first | (with_reducible assumption) | (with_reducible refine Cn2.alloc ?_ _) | (with_reducible refine Cn2.drew ?_) | (with_reducible refine Cn2.set ?_ ?_ ?_ _) | omega)); done)) (first | (go_at_call 60; (with_reducible refine (hcall.out _ ?_).mono ?_); (repeat (first | (with_reducible assumption) | (with_reducible refine ext_alloc ?_ _) | (with_reducible refine ext_drew ?_))); rintro e w5 ⟨rfl, hb5, hx5⟩))
                  all_goals
                    go_wp2_with fail
                    go_roundw
                    case rel => exact ⟨m + 1, by omega, by omega, by go_num, ext_trans hb1 hb5⟩
                    case measure => simp [intOf]; omega
                | false =>
                  have hlt2 : Hid (m = i + cnt) := hide (by have := of_decide_eq_false hq.out; omega)
                  clear hq
                  go_upto_region 18 with fail
                  go_region_held3 (fun W' => W'.cell? ⟨b, off + m, none⟩ = some ((.string x)) ∧ W'.cell? ⟨b, off + p, none⟩ = some ((.string z))) (first | ((repeat (first | (with_reducible assumption) | (with_reducible refine Cn2.alloc ?_ _) | (with_reducible refine Cn2.drew ?_) | (with_reducible refine Cn2.set ?_ ?_ ?_ _) | omega)); done)) (first | (go_at_call 60; (with_reducible refine (hcall.out _ ?_).mono ?_); (repeat (first | (with_reducible assumption) | (with_reducible refine ext_alloc ?_ _) | (with_reducible refine ext_drew ?_))); rintro e w5 ⟨rfl, hb5, hx5⟩))
                  all_goals
                    have hbe := ext_trans hb1 hb5
                    clear hb1 hb5 hx5 hcall hSL hSd hrefl kz
                    clear hmi hmj hm0
                    have kA := cell_later hbe k0
                    have kZ := cell_later hbe (hcell.out p z hz.out)
                    have hbz := Nat.lt_of_lt_of_le hbb hbe.size
                    have hbf := ext_trans hb hbe
                    have hT := rangeT_eq a z
                    have hTs := rangeT_size a z
                    have hrun : 3 ≤ cnt → RJoin l P j (O1 ++ rangeT a z) m := fun h3 => by
                      have := hR.out.step_run hd.out (by rw [hcnt.out]; exact h3) (z := z) (by rw [hcnt.out, ← hlt2.out, hp.out]; exact hz.out) (by rw [hcnt.out]; omega) has.2 hzs.2 hOl.out
                      rw [hcnt.out, ← hlt2.out] at this
                      exact this
                    have hone : ¬ 3 ≤ cnt → RJoin l P j (O1 ++ a) (i + 1) := fun h3 => hR.out.step_one hd.out (by rw [hcnt.out]; exact h3) hr.out (by omega) has.2 hOl.out
                    have hmi2 : (m : Int) - (i : Int) = (cnt : Int) := by have := hlt2.out; omega
                    have hmw2 : IntKind.i64.wrap (cnt : Int) = (cnt : Int) := by rw [IntKind.wrap_i64]; omega
                    have hij1 : (i : Int) + 1 ≤ (j : Int) := by omega
                    have ov1 : (9223372036854775807 < out.size + 1) = False := by simp; omega
                    obtain ⟨T, hTT⟩ : ∃ T, rangeT a z = T := ⟨_, rfl⟩
                    rw [hTT] at hT hTs hrun
                    have o1 : (9223372036854775807 < a.size + 2) = False := by simp; omega
                    have o2 : (9223372036854775807 < a.size + 2 + z.size) = False := by simp; omega
                    have o3 : (9223372036854775807 < O1.size + T.size) = False := by simp; omega
                    have o4 : (9223372036854775807 < O1.size + a.size) = False := by simp; omega
                    clear hTT hOl hR hd hr hcell hfol hp hz k0 hbb hb hbe hall hA
                    by_cases h3 : 3 ≤ cnt
                    · have h3i : (3 : Int) ≤ (cnt : Int) := by omega
                      have hnx := hide (hrun h3)
                      have hmle : m ≤ j ∧ i < m := by have := hlt2.out; omega
                      obtain ⟨hmle, him⟩ := hmle
                      clear hrun hone hlt2 hcnt
                      by_cases hi00 : 0 < i
                      · have hii : (0 : Int) < (i : Int) := by omega
                        have hO := hOb (by omega)
                        clear hOa hOb
                        go_upto_region 23 with fail
                        go_region
                        all_goals
                          go_wp2_with fail
                          go_roundw
                          case rel => exact ⟨m, _, hmle, rfl, rfl, hnx.out, by first | exact hbf | exact ext_drew hbf | exact ext_drew (ext_drew hbf)⟩
                          case measure => simp only [intOf]; omega
                      · have hii : ¬ (0 : Int) < (i : Int) := by omega
                        obtain rfl := hOa (by omega)
                        clear hOa hOb
                        go_upto_region 23 with fail
                        go_region
                        all_goals
                          go_wp2_with fail
                          go_roundw
                          case rel => exact ⟨m, _, hmle, rfl, rfl, hnx.out, by first | exact hbf | exact ext_drew hbf | exact ext_drew (ext_drew hbf)⟩
                          case measure => simp only [intOf]; omega
                    · have h3i : ¬ (3 : Int) ≤ (cnt : Int) := by omega
                      have hnx := hide (hone h3)
                      clear hrun hone hlt2 hcnt
                      by_cases hi00 : 0 < i
                      · have hii : (0 : Int) < (i : Int) := by omega
                        have hO := hOb (by omega)
                        clear hOa hOb
                        go_wp2_with fail
                        go_roundw
                        case rel => exact ⟨i + 1, _, by omega, rfl, by go_num, hnx.out, by first | exact hbf | exact ext_drew hbf | exact ext_drew (ext_drew hbf)⟩
                        case measure => simp only [intOf]; omega
                      · have hii : ¬ (0 : Int) < (i : Int) := by omega
                        obtain rfl := hOa (by omega)
                        clear hOa hOb
                        go_wp2_with fail
                        go_roundw
                        case rel => exact ⟨i + 1, _, by omega, rfl, by go_num, hnx.out, by first | exact hbf | exact ext_drew hbf | exact ext_drew (ext_drew hbf)⟩
                        case measure => simp only [intOf]; omega
              · have hmj2 : ¬ (m : Int) < (j : Int) := by omega
                have hlt2 : Hid (m = i + cnt) := hide (by omega)
                have hbe := hb1
                go_upto_region 18 with fail
                go_region
                all_goals
                  clear hmj2 hmj hm0 hb1 kz
                  have kA := cell_later hbe k0
                  have kZ := cell_later hbe (hcell.out p z hz.out)
                  have hbz := Nat.lt_of_lt_of_le hbb hbe.size
                  have hbf := ext_trans hb hbe
                  have hT := rangeT_eq a z
                  have hTs := rangeT_size a z
                  have hrun : 3 ≤ cnt → RJoin l P j (O1 ++ rangeT a z) m := fun h3 => by
                    have := hR.out.step_run hd.out (by rw [hcnt.out]; exact h3) (z := z) (by rw [hcnt.out, ← hlt2.out, hp.out]; exact hz.out) (by rw [hcnt.out]; omega) has.2 hzs.2 hOl.out
                    rw [hcnt.out, ← hlt2.out] at this
                    exact this
                  have hone : ¬ 3 ≤ cnt → RJoin l P j (O1 ++ a) (i + 1) := fun h3 => hR.out.step_one hd.out (by rw [hcnt.out]; exact h3) hr.out (by omega) has.2 hOl.out
                  have hmi2 : (m : Int) - (i : Int) = (cnt : Int) := by have := hlt2.out; omega
                  have hmw2 : IntKind.i64.wrap (cnt : Int) = (cnt : Int) := by rw [IntKind.wrap_i64]; omega
                  have hij1 : (i : Int) + 1 ≤ (j : Int) := by omega
                  have ov1 : (9223372036854775807 < out.size + 1) = False := by simp; omega
                  obtain ⟨T, hTT⟩ : ∃ T, rangeT a z = T := ⟨_, rfl⟩
                  rw [hTT] at hT hTs hrun
                  have o1 : (9223372036854775807 < a.size + 2) = False := by simp; omega
                  have o2 : (9223372036854775807 < a.size + 2 + z.size) = False := by simp; omega
                  have o3 : (9223372036854775807 < O1.size + T.size) = False := by simp; omega
                  have o4 : (9223372036854775807 < O1.size + a.size) = False := by simp; omega
                  clear hTT hOl hR hd hr hcell hfol hp hz k0 hbb hb hbe hall hA
                  by_cases h3 : 3 ≤ cnt
                  · have h3i : (3 : Int) ≤ (cnt : Int) := by omega
                    have hnx := hide (hrun h3)
                    have hmle : m ≤ j ∧ i < m := by have := hlt2.out; omega
                    obtain ⟨hmle, him⟩ := hmle
                    clear hrun hone hlt2 hcnt
                    by_cases hi00 : 0 < i
                    · have hii : (0 : Int) < (i : Int) := by omega
                      have hO := hOb (by omega)
                      clear hOa hOb
                      go_upto_region 23 with fail
                      go_region
                      all_goals
                        go_wp2_with fail
                        go_roundw
                        case rel => exact ⟨m, _, hmle, rfl, rfl, hnx.out, by first | exact hbf | exact ext_drew hbf | exact ext_drew (ext_drew hbf)⟩
                        case measure => simp only [intOf]; omega
                    · have hii : ¬ (0 : Int) < (i : Int) := by omega
                      obtain rfl := hOa (by omega)
                      clear hOa hOb
                      go_upto_region 23 with fail
                      go_region
                      all_goals
                        go_wp2_with fail
                        go_roundw
                        case rel => exact ⟨m, _, hmle, rfl, rfl, hnx.out, by first | exact hbf | exact ext_drew hbf | exact ext_drew (ext_drew hbf)⟩
                        case measure => simp only [intOf]; omega
                  · have h3i : ¬ (3 : Int) ≤ (cnt : Int) := by omega
                    have hnx := hide (hone h3)
                    clear hrun hone hlt2 hcnt
                    by_cases hi00 : 0 < i
                    · have hii : (0 : Int) < (i : Int) := by omega
                      have hO := hOb (by omega)
                      clear hOa hOb
                      go_wp2_with fail
                      go_roundw
                      case rel => exact ⟨i + 1, _, by omega, rfl, by go_num, hnx.out, by first | exact hbf | exact ext_drew hbf | exact ext_drew (ext_drew hbf)⟩
                      case measure => simp only [intOf]; omega
                    · have hii : ¬ (0 : Int) < (i : Int) := by omega
                      obtain rfl := hOa (by omega)
                      clear hOa hOb
                      go_wp2_with fail
                      go_roundw
                      case rel => exact ⟨i + 1, _, by omega, rfl, by go_num, hnx.out, by first | exact hbf | exact ext_drew hbf | exact ext_drew (ext_drew hbf)⟩
                      case measure => simp only [intOf]; omega
          · obtain rfl : i = j := by omega
            have hdone := hR.done hN.out
            have hji : ¬ (i : Int) < (i : Int) := by omega
            have hVV2 : Hid (V = (0, out)) := hide (by rw [hVV.out, hdone])
            clear hdone hR hall hA
            go_wp2_with fail
            go_ret2
            rw [hVV2.out]
            exact ⟨rfl, hb⟩
end Go.Proofs.YtnbcaklnpflihaaGreatDoor

namespace Go.Proofs.YtnbcaklnpflihaaGreatDoor
open Go.RowKit
set_option maxRecDepth 100000

/-- The problem that the list of codes in a field is. -/
def codesP (most : Nat) (line col : Int) (t : ByteArray) : Option Prob :=
  noted (noted none (decide ((listV t).1 ≠ 0)) (line, col, ((listV t).1 : Int))) (decide (most < (listV t).2.length)) (line, col, 2)
def ListAny (g : Nat) (line : Int) (F : Option Addr) (fs : List Fld) (c k most : Nat) (pr : Option Prob) (w : World) (e : Ending) (w' : World) : Prop :=
  ∃ (k' : Nat) (l : List ByteArray) (v : Value) (pr' : Option Prob), e = .returned v ∧ Own kStr 9 [] 0 w.heap.size w' v l ∧ Scan w' g line F fs.length c k' pr' ∧ Only g w w' ∧ 1 ≤ k' ∧ k' ≤ k + 1 ∧ (pr = none → k' = k + 1 ∧ l = (listV (textAt fs k)).2 ∧ pr' = codesP most line (colAt fs (k + 1)) (textAt fs k)) ∧ (∀ p, pr = some p → pr' = some p ∧ l = [])
theorem Own.noting {g B : Nat} {w w' : World} {v : Value} {l : List ByteArray} (h : Own kStr 9 [] 0 B w v l) (ho : Only g w w') (hg : g < B) : Own kStr 9 [] 0 B w' v l :=
  h.kept ho (by
    cases hv : v.ownBlock with
    | none => exact .inl rfl
    | some y => exact .inr fun e => by injection e with e; have := (h.lt y hv).1; omega) (fun y _ => ⟨Nat.zero_le _, fun h => by obtain ⟨-, cs, t', -, ht⟩ := h; simp at ht⟩)
set_option maxHeartbeats 4000000 in
theorem list_any (B g : Nat) (line : Int) (F : Option Addr) (fs : List Fld) (c k most : Nat) (pr : Option Prob) (w : World) (hS : Std w) (h : Scan w g line F fs.length c k pr) (hF : FieldsAt B w F fs) (h2 : k < fs.length) (hm : fs.length ≤ 1000) (hB : B ≤ g) (hN : 10 ≤ B) (h1 : ∀ p, pr = some p → 1 ≤ k) (hsz : (textAt fs k).size < 1073741824) :
    Calls Tryz.prog 43 #[.pointer (some ⟨g, 0, none⟩), .int .i64 most] w fun e w' => ListAny g line F fs c k most pr w e w' := by
  have hgl := h.lt
  cases pr with
  | none =>
    obtain ⟨⟨en, l⟩, hv⟩ : ∃ r, listV (textAt fs k) = r := ⟨_, rfl⟩
    have hfin : Hid (∀ e w', ListAny g line F fs c k most none w e w' = (∃ (k' : Nat) (l' : List ByteArray) (v : Value) (pr' : Option Prob), e = .returned v ∧ Own kStr 9 [] 0 w.heap.size w' v l' ∧ Scan w' g line F fs.length c k' pr' ∧ Only g w w' ∧ 1 ≤ k' ∧ k' ≤ k + 1 ∧ (none = (none : Option Prob) → k' = k + 1 ∧ l' = l ∧ pr' = noted (noted none (decide (en ≠ 0)) (line, colAt fs (k + 1), (en : Int))) (decide (most < l.length)) (line, colAt fs (k + 1), 2)) ∧ (∀ p, (none : Option Prob) = some p → pr' = some p ∧ l' = []))) := hide fun e w' => by
      unfold ListAny codesP
      rw [hv]
    go_enter Tryz.func43, Tryz.ntmps43
    go_wp2_with fail
    refine (fnext_go B g line F fs c k w h hF h2 hm hB).mono ?_
    rintro e w1 ⟨rfl, hs1, ho1⟩
    have hS1 : Std w1 := hS.below (ho1.below (Nat.le_refl _) (by omega)) (by omega)
    have hL := list_walk (textAt fs k) w1 hS1 hsz
    rw [hv] at hL
    have hF1 := hF.only ho1 hB (by omega)
    go_wp2_with fail
    refine hL.mono ?_
    clear hL
    rintro e w2 ⟨v2, rfl, hown, hb2⟩
    have hs2 := hs1.later hb2
    have ho2 := ho1.later hb2
    have hF2 := hF1.below (hb2.mono (by have := ho1.size; omega) : Below B _ _)
    have hown1 : Own kStr 9 [] 0 w.heap.size w2 v2 l := hown.lower ho1.size
    have hl9 := hown1.le
    obtain ⟨A, c', rfl⟩ := hown1.form
    have he0 : decide ((en : Int) ≠ 0) = decide (en ≠ 0) := decide_eq_decide.2 (by omega)
    clear hown hv hs1 ho1 hF1 hb2 hS1
    dsimp only
    go_wp2_with fail
    refine (fail_walk B g line F fs c (k + 1) none en w2 hs2 hF2 (by omega) (by omega) hm).mono ?_
    rintro e w3 ⟨rfl, hs3, ho3⟩
    have ho := ho2.trans ho3
    have hown3 := hown1.noting ho3 hgl
    have hF3 := hF2.only ho3 hB (by have := ho2.size; omega)
    rw [he0] at hs3
    clear hown1 hs2 hF2 ho2 ho3 he0
    by_cases hml : most < l.length
    · have hmi : (most : Int) < (l.length : Int) := by omega
      go_wp2_with fail
      refine (fail_walk B g line F fs c (k + 1) _ 2 w3 hs3 hF3 (by omega) (by omega) hm).mono ?_
      rintro e w4 ⟨rfl, hs4, ho4⟩
      have hown4 := hown3.noting ho4 hgl
      go_wp2_with fail
      go_ret
      rw [hfin.out]
      exact ⟨k + 1, l, _, _, rfl, hown4, hs4, ho.trans ho4, by omega, Nat.le_refl _, fun _ => ⟨rfl, rfl, by rw [decide_eq_true hml]; rfl⟩, fun p hp => by cases hp⟩
    · have hmi : ¬ (most : Int) < (l.length : Int) := by omega
      go_wp2_with fail
      go_ret
      rw [hfin.out]
      refine ⟨k + 1, l, _, _, rfl, hown3, hs3, ho, by omega, Nat.le_refl _, fun _ => ⟨rfl, rfl, ?_⟩, fun p hp => by cases hp⟩
      rw [decide_eq_false hml]
      cases hd : decide (en ≠ 0) <;> rfl
  | some p =>
    have hk := h1 p rfl
    have hL := list_walk ⟨#[]⟩ w hS (by decide)
    rw [show listV ⟨#[]⟩ = (0, []) from rfl] at hL
    have hfin : Hid (∀ e w', ListAny g line F fs c k most (some p) w e w' = (∃ (k' : Nat) (l' : List ByteArray) (v : Value) (pr' : Option Prob), e = .returned v ∧ Own kStr 9 [] 0 w.heap.size w' v l' ∧ Scan w' g line F fs.length c k' pr' ∧ Only g w w' ∧ 1 ≤ k' ∧ k' ≤ k + 1 ∧ (some p = (none : Option Prob) → k' = k + 1 ∧ l' = (listV (textAt fs k)).2 ∧ pr' = codesP most line (colAt fs (k + 1)) (textAt fs k)) ∧ (∀ q, (some p : Option Prob) = some q → pr' = some q ∧ l' = []))) := hide fun e w' => rfl
    go_enter Tryz.func43, Tryz.ntmps43
    go_wp2_with fail
    refine (fnext_stop g line F fs.length c k p w h).mono ?_
    rintro e w1 ⟨rfl, rfl⟩
    go_wp2_with fail
    refine hL.mono ?_
    clear hL
    rintro e w2 ⟨v2, rfl, hown, hb2⟩
    have hs2 := h.later hb2
    have ho2 : Only g w w2 := (Only.refl g w).later hb2
    have hF2 := hF.below (hb2.mono (by omega) : Below B _ _)
    replace hown : Own kStr 9 [] 0 w.heap.size w2 v2 [] := hown
    obtain ⟨A, c', rfl⟩ := hown.form
    dsimp only
    go_wp2_with fail
    refine (fail_walk B g line F fs c k (some p) 0 w2 hs2 hF2 hk (by omega) hm).mono ?_
    rintro e w3 ⟨rfl, hs3, ho3⟩
    have ho := ho2.trans ho3
    have hown3 := hown.noting ho3 hgl
    have hmi : ¬ (most : Int) < 0 := by omega
    clear hown
    go_wp2_with fail
    go_ret
    rw [hfin.out]
    exact ⟨k, [], _, some p, rfl, hown3, hs3, ho, hk, by omega, (fun hq => by cases hq), fun q hq => ⟨hq, rfl⟩⟩
end Go.Proofs.YtnbcaklnpflihaaGreatDoor

namespace Go.Proofs.YtnbcaklnpflihaaGreatDoor
open Go.RowKit
set_option maxRecDepth 100000

def TimesAny (d sl b m n : Int) (g : Nat) (line : Int) (F : Option Addr) (fs : List Fld) (c k : Nat) (pr : Option Prob) (w : World) (e : Ending) (w' : World) : Prop :=
  ∃ (k' : Nat) (ts : List T4) (v : Value) (pr' : Option Prob), e = .returned v ∧ TimesOwn w.heap.size w' v ts ∧ Scan w' g line F fs.length c k' pr' ∧ Only g w w' ∧ k' ≤ k + 1 ∧ (pr = none → k' = k + 1 ∧ ts = (partsOf (textAt fs k)).map (pieceV d sl b m n) ∧ pr' = probOf line (colAt fs (k + 1)) (timesE d sl b m n (partsOf (textAt fs k)))) ∧ (∀ p, pr = some p → pr' = some p ∧ ts = [])
theorem times_any (B g : Nat) (line : Int) (F : Option Addr) (fs : List Fld) (c k : Nat) (pr : Option Prob) (d sl b m n : Int) (w : World) (hS : Std w) (h : Scan w g line F fs.length c k pr) (hF : FieldsAt B w F fs) (h2 : k < fs.length) (hm : fs.length ≤ 1000) (hB : B ≤ g) (hG : 10 ≤ g) (hs : (textAt fs k).size < 1073741824) :
    Calls Tryz.prog 44 #[.pointer (some ⟨g, 0, none⟩), .agg #[.int .i64 d, .int .i64 sl, .int .i64 b, .int .i64 m], .int .i64 n] w fun e w' => TimesAny d sl b m n g line F fs c k pr w e w' := by
  cases pr with
  | none =>
    refine (ftimes_go B g line F fs c k d sl b m n w hS h hF h2 hm hB hG hs).mono fun e w' ⟨v, he, ht, hs', ho⟩ => ?_
    exact ⟨k + 1, _, v, _, he, ht, hs', ho, Nat.le_refl _, fun _ => ⟨rfl, rfl, rfl⟩, fun p hp => by cases hp⟩
  | some p =>
    refine (ftimes_stop g line F fs.length c k p d sl b m n w h).mono fun e w' ⟨he, hb⟩ => ?_
    exact ⟨k, [], _, _, he, World.ownsRow_nil _ _ _ _, h.later hb, only_of_below hb _, by omega, (fun hp => by cases hp), fun q hq => ⟨hq, rfl⟩⟩
end Go.Proofs.YtnbcaklnpflihaaGreatDoor
