/- Walk of coursefile.patterns. Conditions: the cells. Walk of coursefile.class. Conditions: the cells; a grid's bounds. Walks of coursefile.has, with slices.ContainsFunc and IndexFunc at classes, and of timetableref10.Index. Conditions: the classes' cells. Walk of timetableref10.check. Conditions: the cells; a grid's bounds. -/
import Derived.Test.YtimcdikeajbabaaGreatDoorShelfS
import Derived.Test.YtimcdikeajbabaaGreatDoorRows
import Derived.WalkKit
import Derived.WalkSpells
import Derived.WalkLawsBesides
import Derived.BigGuardPart
import Derived.Lib.Hide
import Derived.Laws.BitsAllLaws
import Derived.Laws.BitsLemmas
import Derived.Lib.LaidTab
import Derived.Test.YtimcdikeajbabaaGreatDoorShelf
import Derived.Lib.ConvBytes
import Derived.Deep.QuietTactic
import Derived.BigQuiet
import Derived.Laws.ResultCell
import Derived.RegionTactic
import Derived.BigRegion
import Derived.Deep.RegionHeld3
import Derived.Deep.DeepCutAuto
import Derived.Lib.SmallJoins
import Derived.Lib.SplitLaws
import Derived.Lib.CountLaws
import Derived.Lib.IndexMore
import Derived.Lib.Split
import Derived.Lib.Join
import Derived.Lib.ItoaNum
import Derived.Laws.AppendOwn
import Derived.Test.YtimcdikeajbabaaGreatDoorShelfT
import Derived.Lib.ItoaLen
import Derived.Lib.AppendIntMem
import Derived.Deep.AppendLies
import Derived.Lib.PathFns
import Derived.Maps.Range
import Derived.Lib.OwnBridge
import Derived.Sort.OwnSorted
import Derived.Sort.Walk0
import Derived.Test.YtimcdikeajbabaaGreatDoorCards
import Derived.Test.YtimcdikeajbabaaGreatDoorTie
import Derived.ProofKit
import Derived.OpenShut
import Derived.LaidMore
import Derived.Lay
import Derived.SevenTiedAt
import Derived.Stop.Joined
import Derived.Stop.LaidErr
import Derived.Deep.DeepHandedRow
import Derived.Lib.LaidU8
import Derived.LaidSub
import Derived.Deep.Slices
import Derived.Deep.Fields
import Derived.ChangeSame
import Derived.Test.YtimcdikeajbabaaGreatDoorUStartsC
import Derived.Test.YtimcdikeajbabaaGreatDoorUROneP
namespace Go.Proofs.YtimcdikeajbabaaGreatDoor
open Go.RowKit
set_option maxRecDepth 100000

theorem patsTo_bad {n : Int} {ps : List Int} {j N : Nat} {x : Int} (hx : ps[j]? = some x) (hj : j < N) (h : validB x n = false ∨ x ∈ ps.take j) : patsTo n ps N = false := by
  refine patsTo_false (k := j + 1) ?_ N (by omega)
  rw [patsTo, List.getD_eq_getElem?_getD, hx]
  rcases h with h | h
  · show (_ && (validB x n && _)) = false
    rw [h]; simp
  · have := List.contains_iff_mem.2 h
    show (_ && (_ && !(ps.take j).contains x)) = false
    rw [this]; simp
theorem patsTo_more {n : Int} {ps : List Int} {j : Nat} {x : Int} (hx : ps[j]? = some x) (h0 : patsTo n ps j = true) (h1 : validB x n = true) (h2 : x ∉ ps.take j) : patsTo n ps (j + 1) = true := by
  have : (ps.take j).contains x = false := by
    cases hc : (ps.take j).contains x with
    | false => rfl
    | true => exact absurd (List.contains_iff_mem.1 hc) h2
  rw [patsTo, List.getD_eq_getElem?_getD, hx, h0]
  show (true && (validB x n && !(ps.take j).contains x)) = true
  rw [h1, this]; rfl
set_option maxHeartbeats 4000000 in
theorem cpats_walk (A : Option Addr) (ps : List Int) (c : Nat) (n : Int) (w : World) (hn : ps.length ≤ 9223372036854775807) (hc : ps.length ≤ c) (h : At kInt AnyB w A ps) :
    Calls Tryz.prog 92 #[.slice A ps.length c, .int .i64 n] w fun e w' => e = .returned (.int .i64 (patsE n ps)) ∧ w = w' := by
  obtain ⟨N, hnn⟩ : ∃ N, ps.length = N := ⟨_, rfl⟩
  have hE : patsE n ps = if N = 0 then 16 else if 8 < N then 2 else if patsTo n ps N = false then 1 else 0 := by unfold patsE; rw [hnn]
  rw [hnn] at hn hc ⊢
  rw [hE]
  by_cases h0 : N = 0
  · rw [if_pos h0]
    have h0i : ((N : Int) == 0) = true := by simp; omega
    replace h0 := hide h0
    clear hE hnn h
    go_enter Tryz.func92, Tryz.ntmps92
    go_wp2
    go_ret
    exact ⟨rfl, rfl⟩
  · rw [if_neg h0]
    have h0i : ((N : Int) == 0) = false := by simp; omega
    by_cases h8 : 8 < N
    · rw [if_pos h8]
      have h8i : (8 : Int) < (N : Int) := by omega
      clear hE hnn h
      go_enter Tryz.func92, Tryz.ntmps92
      go_wp2
      go_ret
      exact ⟨rfl, rfl⟩
    · rw [if_neg h8]
      have h8i : ¬ (8 : Int) < (N : Int) := by omega
      obtain ⟨V, hV⟩ : ∃ V, (if patsTo n ps N = false then 1 else 0) = V := ⟨_, rfl⟩
      rw [hV]
      replace hV := hide hV
      replace hnn := hide hnn
      clear hE
      go_enter Tryz.func92, Tryz.ntmps92
      go_wp2_with fail
      go_loop [17] (fun v => ∃ j : Nat, j ≤ N ∧ v = .int .i64 j ∧ Hid (patsTo n ps j = true)) (fun v => N - (intOf v).toNat)
      case atStart => exact ⟨0, Nat.zero_le _, rfl, hide rfl⟩
      case round =>
        obtain ⟨j, hj, rfl, ho⟩ := hrel
        by_cases hlt : j < N
        · obtain ⟨x, hx⟩ : ∃ x, ps[j]? = some x := ⟨_, List.getElem?_eq_getElem (by rw [hnn.out]; exact hlt)⟩
          obtain ⟨b, off, rfl, -, hb, k0⟩ := h.int hx
          have hj0 : (0 : Int) ≤ (j : Int) := by omega
          have hj1 : (j : Int) < (N : Int) := by omega
          have hjc : (j : Int) ≤ (c : Int) := by omega
          have hcon := icontains_walk (some ⟨b, off, none⟩) (ps.take j) c x w (by rw [List.length_take]; omega) h.take.any
          rw [List.length_take, hnn.out, Nat.min_eq_left hj] at hcon
          have hval := wsValid_walk x n w
          cases hv : validB x n with
          | false =>
            obtain rfl : V = 1 := by rw [← hV.out, patsTo_bad hx hlt (Or.inl hv)]; rfl
            rw [hv] at hval
            clear hx h ho hcon hv
            go_wp2_with (go_at_call 79; refine hval.mono ?_; rintro e w4 ⟨rfl, rfl⟩)
            go_ret
            exact ⟨rfl, rfl⟩
          | true =>
            rw [hv] at hval
            by_cases hm : x ∈ ps.take j
            · obtain rfl : V = 1 := by rw [← hV.out, patsTo_bad hx hlt (Or.inr hm)]; rfl
              rw [decide_eq_true hm] at hcon
              clear hx h ho hv hm
              go_wp2_with (first | (go_at_call 79; refine hval.mono ?_; rintro e w4 ⟨rfl, rfl⟩) | (go_at_call 105; refine hcon.mono ?_; rintro e w4 ⟨rfl, rfl⟩))
              go_ret
              exact ⟨rfl, rfl⟩
            · have hnx := hide (patsTo_more hx ho.out hv hm)
              rw [decide_eq_false hm] at hcon
              clear hx h ho hv hm
              go_wp2_with (first | (go_at_call 79; refine hval.mono ?_; rintro e w4 ⟨rfl, rfl⟩) | (go_at_call 105; refine hcon.mono ?_; rintro e w4 ⟨rfl, rfl⟩))
              go_round
              case rel => exact ⟨j + 1, by omega, by go_num, hnx⟩
              case measure => simp [intOf]; omega
        · obtain rfl : j = N := by omega
          obtain rfl : V = 0 := by rw [← hV.out, ho.out]; rfl
          clear h ho
          go_wp2
          go_ret
          exact ⟨rfl, rfl⟩
end Go.Proofs.YtimcdikeajbabaaGreatDoor

namespace Go.Proofs.YtimcdikeajbabaaGreatDoor
open Go.RowKit
set_option maxRecDepth 100000

set_option maxHeartbeats 8000000 in
theorem cclass_walk (z co pa : ByteArray) (n : Int) (A4 : Option Addr) (n4 c4 : Nat) (mm : Int) (A6 : Option Addr) (n6 c6 : Nat) (A7 : Option Addr) (n7 c7 : Nat) (A8 : Option Addr) (n8 c8 : Nat) (ps : List Int) (fs st : List ByteArray) (ss : List (Int × Int)) (d sl b m k : Int) (w : World)
    (h4 : ps.length = n4) (h6 : fs.length = n6) (h7 : st.length = n7) (h8 : ss.length = n8) (m4 : n4 ≤ 9223372036854775807) (m6 : n6 ≤ 9223372036854775807) (m7 : n7 ≤ 9223372036854775807) (m8 : n8 ≤ 9223372036854775807) (q4 : n4 ≤ c4) (hsl : 1 ≤ sl ∧ sl ≤ 24)
    (a4 : At kInt AnyB w A4 ps) (a6 : At kStr AnyB w A6 fs) (a7 : At kStr AnyB w A7 st) (a8 : At kStart AnyB w A8 ss) :
    Calls Tryz.prog 58 #[.agg #[.string z, .string co, .string pa, .int .i64 n, .slice A4 n4 c4, .int .i64 mm, .slice A6 n6 c6, .slice A7 n7 c7, .slice A8 n8 c8], .agg #[.int .i64 d, .int .i64 sl, .int .i64 b, .int .i64 m], .int .i64 k] w fun e w' => e = .returned (.int .i64 (clsEx d sl k (z, co, pa, n, ps, mm, fs, st, ss))) ∧ Below w.heap.size w w' := by
  have hb0 : Below w.heap.size w ((w.alloc (.cells #[.string z, .string co, .string pa, .int .i64 n, .slice A4 n4 c4, .int .i64 mm, .slice A6 n6 c6, .slice A7 n7 c7, .slice A8 n8 c8] 47)).alloc (.cells #[.int .i64 d, .int .i64 sl, .int .i64 b, .int .i64 m] 24)) := (by repeat (first | exact Below.refl _ _ | refine ext_alloc ?_ _ | refine ext_drewN ?_ _ | refine ext_drew ?_ | refine ext_trans ?_ (by assumption)))
  have v0 := hide (fun (U : World) => cvalid_walk z U)
  have v1 := hide (fun (U : World) => cvalid_walk co U)
  have v2 := hide (fun (U : World) => cvalid_walk pa U)
  have hpt := cpats_walk A4 ps c4 k _ (by omega) (by omega) (a4.later hb0)
  have ha6 := fasc_walk A6 fs c6 _ (by omega) (a6.later hb0)
  have ha7 := fasc_walk A7 st c7 _ (by omega) (a7.later hb0)
  have hst0 := fun (h : 1 ≤ n ∧ n ≤ sl) => cstarts_walk z co pa n A4 n4 c4 mm A6 n6 c6 A7 n7 c7 A8 n8 c8 ss d sl b m _ h8 m8 h hsl.2 (a8.later hb0)
  rw [h4] at hpt
  rw [h6] at ha6
  rw [h7] at ha7
  have hE : clsEx d sl k (z, co, pa, n, ps, mm, fs, st, ss) = if codeB z = false then 10 else if codeB co = false then 10 else if codeB pa = false then 10 else if n < 1 then 3 else if sl < n then 3 else if patsE k ps ≠ 0 then patsE k ps else if mm < 0 then 3 else if 9999 < mm then 3 else if 8 < n6 then 2 else if 8 < n7 then 2 else if ascTo fs n6 = false then 10 else if ascTo st n7 = false then 10 else if 24 < n8 then 2 else if startsTo d sl n ss n8 = false then 14 else 0 := by
    unfold clsEx
    dsimp only
    rw [h6, h7, h8]
  rw [hE]
  clear hE a4 a6 a7 a8 h4 h6 h7 h8
  obtain ⟨hs1, hs2⟩ := hsl
  cases e0 : codeB z with
  | false =>
    rw [if_pos rfl]
    simp only [e0] at v0
    go_enter Tryz.func58, Tryz.ntmps58
    go_wp2_with (first | (go_at_call 91; first | ((with_reducible refine (v0.out _).mono ?_); rintro e w4 ⟨rfl, rfl⟩) | ((with_reducible refine (v1.out _).mono ?_); rintro e w4 ⟨rfl, rfl⟩) | ((with_reducible refine (v2.out _).mono ?_); rintro e w4 ⟨rfl, rfl⟩)) | (go_at_call 92; (with_reducible refine hpt.mono ?_); rintro e w4 ⟨rfl, rfl⟩) | (go_at_call 93; first | ((with_reducible refine ha6.mono ?_); rintro e w4 ⟨rfl, rfl⟩) | ((with_reducible refine ha7.mono ?_); rintro e w4 ⟨rfl, rfl⟩)) | (go_at_call 94; (with_reducible refine hst.out.mono ?_); rintro e w4 ⟨rfl, hb4⟩))
    all_goals try (exfalso; omega)
    all_goals
      go_ret
      exact ⟨rfl, hb0⟩
  | true =>
    rw [if_neg (by simp)]
    simp only [e0] at v0
    cases e1 : codeB co with
    | false =>
      rw [if_pos rfl]
      simp only [e1] at v1
      go_enter Tryz.func58, Tryz.ntmps58
      go_wp2_with (first | (go_at_call 91; first | ((with_reducible refine (v0.out _).mono ?_); rintro e w4 ⟨rfl, rfl⟩) | ((with_reducible refine (v1.out _).mono ?_); rintro e w4 ⟨rfl, rfl⟩) | ((with_reducible refine (v2.out _).mono ?_); rintro e w4 ⟨rfl, rfl⟩)) | (go_at_call 92; (with_reducible refine hpt.mono ?_); rintro e w4 ⟨rfl, rfl⟩) | (go_at_call 93; first | ((with_reducible refine ha6.mono ?_); rintro e w4 ⟨rfl, rfl⟩) | ((with_reducible refine ha7.mono ?_); rintro e w4 ⟨rfl, rfl⟩)) | (go_at_call 94; (with_reducible refine hst.out.mono ?_); rintro e w4 ⟨rfl, hb4⟩))
      all_goals try (exfalso; omega)
      all_goals
        go_ret
        exact ⟨rfl, hb0⟩
    | true =>
      rw [if_neg (by simp)]
      simp only [e1] at v1
      cases e2 : codeB pa with
      | false =>
        rw [if_pos rfl]
        simp only [e2] at v2
        go_enter Tryz.func58, Tryz.ntmps58
        go_wp2_with (first | (go_at_call 91; first | ((with_reducible refine (v0.out _).mono ?_); rintro e w4 ⟨rfl, rfl⟩) | ((with_reducible refine (v1.out _).mono ?_); rintro e w4 ⟨rfl, rfl⟩) | ((with_reducible refine (v2.out _).mono ?_); rintro e w4 ⟨rfl, rfl⟩)) | (go_at_call 92; (with_reducible refine hpt.mono ?_); rintro e w4 ⟨rfl, rfl⟩) | (go_at_call 93; first | ((with_reducible refine ha6.mono ?_); rintro e w4 ⟨rfl, rfl⟩) | ((with_reducible refine ha7.mono ?_); rintro e w4 ⟨rfl, rfl⟩)) | (go_at_call 94; (with_reducible refine hst.out.mono ?_); rintro e w4 ⟨rfl, hb4⟩))
        all_goals try (exfalso; omega)
        all_goals
          go_ret
          exact ⟨rfl, hb0⟩
      | true =>
        rw [if_neg (by simp)]
        simp only [e2] at v2
        by_cases l1 : n < 1
        · rw [if_pos l1]
          go_enter Tryz.func58, Tryz.ntmps58
          go_wp2_with (first | (go_at_call 91; first | ((with_reducible refine (v0.out _).mono ?_); rintro e w4 ⟨rfl, rfl⟩) | ((with_reducible refine (v1.out _).mono ?_); rintro e w4 ⟨rfl, rfl⟩) | ((with_reducible refine (v2.out _).mono ?_); rintro e w4 ⟨rfl, rfl⟩)) | (go_at_call 92; (with_reducible refine hpt.mono ?_); rintro e w4 ⟨rfl, rfl⟩) | (go_at_call 93; first | ((with_reducible refine ha6.mono ?_); rintro e w4 ⟨rfl, rfl⟩) | ((with_reducible refine ha7.mono ?_); rintro e w4 ⟨rfl, rfl⟩)) | (go_at_call 94; (with_reducible refine hst.out.mono ?_); rintro e w4 ⟨rfl, hb4⟩))
          all_goals try (exfalso; omega)
          all_goals
            go_ret
            exact ⟨rfl, hb0⟩
        · rw [if_neg l1]
          by_cases l2 : sl < n
          · rw [if_pos l2]
            go_enter Tryz.func58, Tryz.ntmps58
            go_wp2_with (first | (go_at_call 91; first | ((with_reducible refine (v0.out _).mono ?_); rintro e w4 ⟨rfl, rfl⟩) | ((with_reducible refine (v1.out _).mono ?_); rintro e w4 ⟨rfl, rfl⟩) | ((with_reducible refine (v2.out _).mono ?_); rintro e w4 ⟨rfl, rfl⟩)) | (go_at_call 92; (with_reducible refine hpt.mono ?_); rintro e w4 ⟨rfl, rfl⟩) | (go_at_call 93; first | ((with_reducible refine ha6.mono ?_); rintro e w4 ⟨rfl, rfl⟩) | ((with_reducible refine ha7.mono ?_); rintro e w4 ⟨rfl, rfl⟩)) | (go_at_call 94; (with_reducible refine hst.out.mono ?_); rintro e w4 ⟨rfl, hb4⟩))
            all_goals try (exfalso; omega)
            all_goals
              go_ret
              exact ⟨rfl, hb0⟩
          · rw [if_neg l2]
            obtain ⟨pe, hpe⟩ : ∃ pe, patsE k ps = pe := ⟨_, rfl⟩
            rw [hpe]
            rw [hpe] at hpt
            replace hpe := hide hpe
            by_cases hp0 : pe = 0
            · subst hp0
              rw [if_neg (by simp)]
              by_cases l3 : mm < 0
              · rw [if_pos l3]
                go_enter Tryz.func58, Tryz.ntmps58
                go_wp2_with (first | (go_at_call 91; first | ((with_reducible refine (v0.out _).mono ?_); rintro e w4 ⟨rfl, rfl⟩) | ((with_reducible refine (v1.out _).mono ?_); rintro e w4 ⟨rfl, rfl⟩) | ((with_reducible refine (v2.out _).mono ?_); rintro e w4 ⟨rfl, rfl⟩)) | (go_at_call 92; (with_reducible refine hpt.mono ?_); rintro e w4 ⟨rfl, rfl⟩) | (go_at_call 93; first | ((with_reducible refine ha6.mono ?_); rintro e w4 ⟨rfl, rfl⟩) | ((with_reducible refine ha7.mono ?_); rintro e w4 ⟨rfl, rfl⟩)) | (go_at_call 94; (with_reducible refine hst.out.mono ?_); rintro e w4 ⟨rfl, hb4⟩))
                all_goals try (exfalso; omega)
                all_goals
                  go_ret
                  exact ⟨rfl, hb0⟩
              · rw [if_neg l3]
                by_cases l4 : 9999 < mm
                · rw [if_pos l4]
                  go_enter Tryz.func58, Tryz.ntmps58
                  go_wp2_with (first | (go_at_call 91; first | ((with_reducible refine (v0.out _).mono ?_); rintro e w4 ⟨rfl, rfl⟩) | ((with_reducible refine (v1.out _).mono ?_); rintro e w4 ⟨rfl, rfl⟩) | ((with_reducible refine (v2.out _).mono ?_); rintro e w4 ⟨rfl, rfl⟩)) | (go_at_call 92; (with_reducible refine hpt.mono ?_); rintro e w4 ⟨rfl, rfl⟩) | (go_at_call 93; first | ((with_reducible refine ha6.mono ?_); rintro e w4 ⟨rfl, rfl⟩) | ((with_reducible refine ha7.mono ?_); rintro e w4 ⟨rfl, rfl⟩)) | (go_at_call 94; (with_reducible refine hst.out.mono ?_); rintro e w4 ⟨rfl, hb4⟩))
                  all_goals try (exfalso; omega)
                  all_goals
                    go_ret
                    exact ⟨rfl, hb0⟩
                · rw [if_neg l4]
                  by_cases l5 : 8 < n6
                  · rw [if_pos l5]
                    have l5i : (8 : Int) < (n6 : Int) := by omega
                    go_enter Tryz.func58, Tryz.ntmps58
                    go_wp2_with (first | (go_at_call 91; first | ((with_reducible refine (v0.out _).mono ?_); rintro e w4 ⟨rfl, rfl⟩) | ((with_reducible refine (v1.out _).mono ?_); rintro e w4 ⟨rfl, rfl⟩) | ((with_reducible refine (v2.out _).mono ?_); rintro e w4 ⟨rfl, rfl⟩)) | (go_at_call 92; (with_reducible refine hpt.mono ?_); rintro e w4 ⟨rfl, rfl⟩) | (go_at_call 93; first | ((with_reducible refine ha6.mono ?_); rintro e w4 ⟨rfl, rfl⟩) | ((with_reducible refine ha7.mono ?_); rintro e w4 ⟨rfl, rfl⟩)) | (go_at_call 94; (with_reducible refine hst.out.mono ?_); rintro e w4 ⟨rfl, hb4⟩))
                    all_goals try (exfalso; omega)
                    all_goals
                      go_ret
                      exact ⟨rfl, hb0⟩
                  · rw [if_neg l5]
                    have l5i : ¬ (8 : Int) < (n6 : Int) := by omega
                    by_cases l6 : 8 < n7
                    · rw [if_pos l6]
                      have l6i : (8 : Int) < (n7 : Int) := by omega
                      go_enter Tryz.func58, Tryz.ntmps58
                      go_wp2_with (first | (go_at_call 91; first | ((with_reducible refine (v0.out _).mono ?_); rintro e w4 ⟨rfl, rfl⟩) | ((with_reducible refine (v1.out _).mono ?_); rintro e w4 ⟨rfl, rfl⟩) | ((with_reducible refine (v2.out _).mono ?_); rintro e w4 ⟨rfl, rfl⟩)) | (go_at_call 92; (with_reducible refine hpt.mono ?_); rintro e w4 ⟨rfl, rfl⟩) | (go_at_call 93; first | ((with_reducible refine ha6.mono ?_); rintro e w4 ⟨rfl, rfl⟩) | ((with_reducible refine ha7.mono ?_); rintro e w4 ⟨rfl, rfl⟩)) | (go_at_call 94; (with_reducible refine hst.out.mono ?_); rintro e w4 ⟨rfl, hb4⟩))
                      all_goals try (exfalso; omega)
                      all_goals
                        go_ret
                        exact ⟨rfl, hb0⟩
                    · rw [if_neg l6]
                      have l6i : ¬ (8 : Int) < (n7 : Int) := by omega
                      cases e6 : ascTo fs n6 with
                      | false =>
                        rw [if_pos rfl]
                        simp only [e6] at ha6
                        go_enter Tryz.func58, Tryz.ntmps58
                        go_wp2_with (first | (go_at_call 91; first | ((with_reducible refine (v0.out _).mono ?_); rintro e w4 ⟨rfl, rfl⟩) | ((with_reducible refine (v1.out _).mono ?_); rintro e w4 ⟨rfl, rfl⟩) | ((with_reducible refine (v2.out _).mono ?_); rintro e w4 ⟨rfl, rfl⟩)) | (go_at_call 92; (with_reducible refine hpt.mono ?_); rintro e w4 ⟨rfl, rfl⟩) | (go_at_call 93; first | ((with_reducible refine ha6.mono ?_); rintro e w4 ⟨rfl, rfl⟩) | ((with_reducible refine ha7.mono ?_); rintro e w4 ⟨rfl, rfl⟩)) | (go_at_call 94; (with_reducible refine hst.out.mono ?_); rintro e w4 ⟨rfl, hb4⟩))
                        all_goals try (exfalso; omega)
                        all_goals
                          go_ret
                          exact ⟨rfl, hb0⟩
                      | true =>
                        rw [if_neg (by simp)]
                        simp only [e6] at ha6
                        cases e7 : ascTo st n7 with
                        | false =>
                          rw [if_pos rfl]
                          simp only [e7] at ha7
                          go_enter Tryz.func58, Tryz.ntmps58
                          go_wp2_with (first | (go_at_call 91; first | ((with_reducible refine (v0.out _).mono ?_); rintro e w4 ⟨rfl, rfl⟩) | ((with_reducible refine (v1.out _).mono ?_); rintro e w4 ⟨rfl, rfl⟩) | ((with_reducible refine (v2.out _).mono ?_); rintro e w4 ⟨rfl, rfl⟩)) | (go_at_call 92; (with_reducible refine hpt.mono ?_); rintro e w4 ⟨rfl, rfl⟩) | (go_at_call 93; first | ((with_reducible refine ha6.mono ?_); rintro e w4 ⟨rfl, rfl⟩) | ((with_reducible refine ha7.mono ?_); rintro e w4 ⟨rfl, rfl⟩)) | (go_at_call 94; (with_reducible refine hst.out.mono ?_); rintro e w4 ⟨rfl, hb4⟩))
                          all_goals try (exfalso; omega)
                          all_goals
                            go_ret
                            exact ⟨rfl, hb0⟩
                        | true =>
                          rw [if_neg (by simp)]
                          simp only [e7] at ha7
                          by_cases l7 : 24 < n8
                          · rw [if_pos l7]
                            have l7i : (24 : Int) < (n8 : Int) := by omega
                            go_enter Tryz.func58, Tryz.ntmps58
                            go_wp2_with (first | (go_at_call 91; first | ((with_reducible refine (v0.out _).mono ?_); rintro e w4 ⟨rfl, rfl⟩) | ((with_reducible refine (v1.out _).mono ?_); rintro e w4 ⟨rfl, rfl⟩) | ((with_reducible refine (v2.out _).mono ?_); rintro e w4 ⟨rfl, rfl⟩)) | (go_at_call 92; (with_reducible refine hpt.mono ?_); rintro e w4 ⟨rfl, rfl⟩) | (go_at_call 93; first | ((with_reducible refine ha6.mono ?_); rintro e w4 ⟨rfl, rfl⟩) | ((with_reducible refine ha7.mono ?_); rintro e w4 ⟨rfl, rfl⟩)) | (go_at_call 94; (with_reducible refine hst.out.mono ?_); rintro e w4 ⟨rfl, hb4⟩))
                            all_goals try (exfalso; omega)
                            all_goals
                              go_ret
                              exact ⟨rfl, hb0⟩
                          · rw [if_neg l7]
                            have l7i : ¬ (24 : Int) < (n8 : Int) := by omega
                            have hst := hst0 ⟨by omega, by omega⟩
                            clear hst0
                            cases e8 : startsTo d sl n ss n8 with
                            | false =>
                              rw [if_pos rfl]
                              rw [e8] at hst
                              replace hst := hide hst
                              go_enter Tryz.func58, Tryz.ntmps58
                              go_wp2_with (first | (go_at_call 91; first | ((with_reducible refine (v0.out _).mono ?_); rintro e w4 ⟨rfl, rfl⟩) | ((with_reducible refine (v1.out _).mono ?_); rintro e w4 ⟨rfl, rfl⟩) | ((with_reducible refine (v2.out _).mono ?_); rintro e w4 ⟨rfl, rfl⟩)) | (go_at_call 92; (with_reducible refine hpt.mono ?_); rintro e w4 ⟨rfl, rfl⟩) | (go_at_call 93; first | ((with_reducible refine ha6.mono ?_); rintro e w4 ⟨rfl, rfl⟩) | ((with_reducible refine ha7.mono ?_); rintro e w4 ⟨rfl, rfl⟩)) | (go_at_call 94; (with_reducible refine hst.out.mono ?_); rintro e w4 ⟨rfl, hb4⟩))
                              all_goals try (exfalso; omega)
                              all_goals
                                go_ret
                                exact ⟨rfl, ext_trans hb0 hb4⟩
                            | true =>
                              rw [if_neg (by simp)]
                              rw [e8] at hst
                              replace hst := hide hst
                              go_enter Tryz.func58, Tryz.ntmps58
                              go_wp2_with (first | (go_at_call 91; first | ((with_reducible refine (v0.out _).mono ?_); rintro e w4 ⟨rfl, rfl⟩) | ((with_reducible refine (v1.out _).mono ?_); rintro e w4 ⟨rfl, rfl⟩) | ((with_reducible refine (v2.out _).mono ?_); rintro e w4 ⟨rfl, rfl⟩)) | (go_at_call 92; (with_reducible refine hpt.mono ?_); rintro e w4 ⟨rfl, rfl⟩) | (go_at_call 93; first | ((with_reducible refine ha6.mono ?_); rintro e w4 ⟨rfl, rfl⟩) | ((with_reducible refine ha7.mono ?_); rintro e w4 ⟨rfl, rfl⟩)) | (go_at_call 94; (with_reducible refine hst.out.mono ?_); rintro e w4 ⟨rfl, hb4⟩))
                              all_goals try (exfalso; omega)
                              all_goals
                                go_ret
                                exact ⟨rfl, ext_trans hb0 hb4⟩
            · rw [if_pos hp0]
              have hpi : ((pe : Int) != 0) = true := by simp; omega
              have hpj : ¬ (pe : Int) = 0 := by omega
              replace hp0 := hide hp0
              go_enter Tryz.func58, Tryz.ntmps58
              go_wp2_with (first | (go_at_call 91; first | ((with_reducible refine (v0.out _).mono ?_); rintro e w4 ⟨rfl, rfl⟩) | ((with_reducible refine (v1.out _).mono ?_); rintro e w4 ⟨rfl, rfl⟩) | ((with_reducible refine (v2.out _).mono ?_); rintro e w4 ⟨rfl, rfl⟩)) | (go_at_call 92; (with_reducible refine hpt.mono ?_); rintro e w4 ⟨rfl, rfl⟩) | (go_at_call 93; first | ((with_reducible refine ha6.mono ?_); rintro e w4 ⟨rfl, rfl⟩) | ((with_reducible refine ha7.mono ?_); rintro e w4 ⟨rfl, rfl⟩)) | (go_at_call 94; (with_reducible refine hst.out.mono ?_); rintro e w4 ⟨rfl, hb4⟩))
              all_goals try (exfalso; omega)
              all_goals
                go_ret
                exact ⟨rfl, hb0⟩
end Go.Proofs.YtimcdikeajbabaaGreatDoor

namespace Go.Proofs.YtimcdikeajbabaaGreatDoor
open Go.RowKit
set_option maxRecDepth 100000

theorem codesK_get {l : List Cls} {j : Nat} {x : Cls} (h : l[j]? = some x) : (codesK l)[j]? = some x.1 := by unfold codesK; rw [List.getElem?_map, h]; rfl
set_option maxHeartbeats 1000000 in
theorem khas1_walk (q : Nine) (t : ByteArray) (x : Nat) (w : World) (hc : w.cell? ⟨x, 0, none⟩ = some (.string t)) :
    Calls Tryz.prog 96 #[q.val, .pointer (some ⟨x, 0, none⟩)] w fun e w' => e = .returned (.bool (q.z.toList == t.toList)) ∧ Below w.heap.size w w' := by
  have hlt := World.block_lt_of_cell? _ _ hc
  unfold Nine.val
  go_enter Tryz.func96, Tryz.ntmps96
  go_wp2
  go_ret
  exact ⟨rfl, (by repeat (first | exact Below.refl _ _ | refine ext_alloc ?_ _ | refine ext_drewN ?_ _ | refine ext_drew ?_ | refine ext_trans ?_ (by assumption)))⟩
set_option maxHeartbeats 4000000 in
theorem kidx_walk (A : Option Addr) (l : List Cls) (c g : Nat) (code : ByteArray) (w : World) (hn : l.length ≤ 9223372036854775807) (h : At kCls AnyB w A l) (hc : w.cell? ⟨g, 0, none⟩ = some (.string code)) :
    Calls Tryz.prog 137 #[.slice A l.length c, .func (.func 96) #[] #[.pointer (some ⟨g, 0, none⟩)]] w fun e w' => e = .returned (.int .i64 (idxS code (codesK l))) ∧ Below w.heap.size w w' := by
  have eg : ∀ args w, (callFunc 96 args).run Tryz.prog w = .ok (.enter 96 args) w := enters_of Tryz.func96 (by kernel_rfl) rfl
  obtain ⟨N, hnn⟩ : ∃ N, l.length = N := ⟨_, rfl⟩
  have hnl : (codesK l).length = N := by rw [← hnn]; exact List.length_map _
  rw [hnn] at hn ⊢
  replace hnn := hide hnn
  replace hnl := hide hnl
  go_enter Tryz.func137, Tryz.ntmps137
  go_wp2
  go_loopw [5, 8] (fun _ i wr => ∃ j : Nat, j ≤ N ∧ i = .int .i64 j ∧ Hid (∀ y ∈ (codesK l).take j, (y.toList == code.toList) = false) ∧ Below w.heap.size w wr) (fun _ i _ => N - (intOf i).toNat)
  case atStart => exact ⟨0, Nat.zero_le _, rfl, hide (fun y hy => by simp at hy), Below.refl _ _⟩
  case round =>
    obtain ⟨j, hj, rfl, ho, hb⟩ := hrel
    by_cases hlt : j < N
    · obtain ⟨x, hx⟩ : ∃ x, l[j]? = some x := ⟨_, List.getElem?_eq_getElem (by rw [hnn.out]; exact hlt)⟩
      obtain ⟨b, off, A4, c4, A6, c6, A7, c7, A8, c8, rfl, -, hbb, hq9, -, -, -, -, -⟩ := (h.later hb).clsF hx
      have hxn := codesK_get hx
      have hcall := khas1_walk (nineOf x A4 c4 A6 c6 A7 c7 A8 c8) code g wr (cell_later hb hc)
      obtain ⟨q, hqq⟩ : ∃ q, nineOf x A4 c4 A6 c6 A7 c7 A8 c8 = q := ⟨_, rfl⟩
      have hz : q.z = x.1 := by rw [← hqq]; rfl
      rw [hqq] at hq9 hcall
      rw [← hz] at hxn
      clear hqq hz
      unfold Nine.val at hcall
      obtain ⟨q0, q1, q2, q3, q4, q5, q6, q7, q8⟩ := hq9
      have hj0 : (0 : Int) ≤ (j : Int) := by omega
      have hj1 : (j : Int) < (N : Int) := by omega
      cases hq : (q.z.toList == code.toList) with
      | true =>
        have hit := hide (idxS_hit hxn ho.out hq)
        rw [hq] at hcall
        clear hx h ho hxn hq hc
        go_wp2_with (go_at_fn 96; refine hcall.mono ?_; rintro e w' ⟨rfl, hb2⟩)
        go_ret
        exact ⟨by rw [hit.out]; rfl, ext_trans hb hb2⟩
      | false =>
        have miss := hide (take_miss hxn ho.out hq)
        rw [hq] at hcall
        clear hx h ho hxn hq hc
        go_wp2_with (go_at_fn 96; refine hcall.mono ?_; rintro e w' ⟨rfl, hb2⟩)
        go_roundw
        case rel => exact ⟨j + 1, by omega, by go_num, miss, ext_trans hb hb2⟩
        case measure => simp [intOf]; omega
    · obtain rfl : j = N := by omega
      have hall : Hid (idxS code (codesK l) = -1) := hide (idxS_none fun y hy => ho.out y (by rw [List.take_of_length_le (by rw [hnl.out]; exact Nat.le_refl _)]; exact hy))
      clear h
      go_wp2
      go_ret
      exact ⟨by rw [hall.out]; rfl, hb⟩
set_option maxHeartbeats 2000000 in
theorem kcon_walk (A : Option Addr) (l : List Cls) (c g : Nat) (code : ByteArray) (w : World) (hn : l.length ≤ 9223372036854775807) (h : At kCls AnyB w A l) (hc : w.cell? ⟨g, 0, none⟩ = some (.string code)) :
    Calls Tryz.prog 95 #[.slice A l.length c, .func (.func 96) #[] #[.pointer (some ⟨g, 0, none⟩)]] w fun e w' => e = .returned (.bool (decide (0 ≤ idxS code (codesK l)))) ∧ Below w.heap.size w w' := by
  have hcall := kidx_walk A l c g code w hn h hc
  clear h
  go_enter Tryz.func95, Tryz.ntmps95
  go_wp2_with fail
  refine hcall.mono ?_
  rintro e w' ⟨rfl, hb⟩
  go_wp2
  go_ret
  exact ⟨rfl, hb⟩
set_option maxHeartbeats 2000000 in
theorem khas_walk (A : Option Addr) (l : List Cls) (c : Nat) (code : ByteArray) (w : World) (hn : l.length ≤ 9223372036854775807) (h : At kCls AnyB w A l) :
    Calls Tryz.prog 59 #[.slice A l.length c, .string code] w fun e w' => e = .returned (.bool (decide (0 ≤ idxS code (codesK l)))) ∧ Below w.heap.size w w' := by
  have hb0 : Below w.heap.size w (w.alloc (.cells #[.string code] 9)) := ext_alloc (Below.refl _ _) _
  have hcall := kcon_walk A l c w.heap.size code _ hn (h.later hb0) (by simp)
  clear h
  go_enter Tryz.func59, Tryz.ntmps59
  go_wp2_with fail
  refine hcall.mono ?_
  rintro e w' ⟨rfl, hb⟩
  go_wp2
  go_ret
  exact ⟨rfl, ext_trans hb0 hb⟩
set_option maxHeartbeats 4000000 in
theorem r10index_walk (A : Option Addr) (l : List Cls) (c : Nat) (code : ByteArray) (w : World) (hn : l.length ≤ 9223372036854775807) (h : At kCls AnyB w A l) :
    Calls Tryz.prog 61 #[.slice A l.length c, .string code] w fun e w' => e = .returned (.int .i64 (idxS code (codesK l))) ∧ w = w' := by
  obtain ⟨N, hnn⟩ : ∃ N, l.length = N := ⟨_, rfl⟩
  have hnl : (codesK l).length = N := by rw [← hnn]; exact List.length_map _
  rw [hnn] at hn ⊢
  replace hnn := hide hnn
  replace hnl := hide hnl
  go_enter Tryz.func61, Tryz.ntmps61
  go_wp2
  go_loop [5] (fun i => ∃ j : Nat, j ≤ N ∧ i = .int .i64 j ∧ Hid (∀ y ∈ (codesK l).take j, (y.toList == code.toList) = false)) (fun i => N - (intOf i).toNat)
  case atStart => exact ⟨0, Nat.zero_le _, rfl, hide (fun y hy => by simp at hy)⟩
  case round =>
    obtain ⟨j, hj, rfl, ho⟩ := hrel
    by_cases hlt : j < N
    · obtain ⟨x, hx⟩ : ∃ x, l[j]? = some x := ⟨_, List.getElem?_eq_getElem (by rw [hnn.out]; exact hlt)⟩
      obtain ⟨b, off, A4, c4, A6, c6, A7, c7, A8, c8, rfl, -, hbb, ⟨qz, -, -, -, -, -, -, -, -⟩, -, -, -, -, -⟩ := h.clsF hx
      have q0 : w.cell? ⟨b, off + j * 9, none⟩ = some (.string x.1) := qz
      clear qz
      have hxn := codesK_get hx
      have hj0 : (0 : Int) ≤ (j : Int) := by omega
      have hj1 : (j : Int) < (N : Int) := by omega
      cases hq : (x.1.toList == code.toList) with
      | true =>
        have hit := hide (idxS_hit hxn ho.out hq)
        clear hx h ho hxn
        go_wp2
        go_ret
        exact ⟨by rw [hit.out]; rfl, rfl⟩
      | false =>
        have miss := hide (take_miss hxn ho.out hq)
        clear hx h ho hxn
        go_wp2
        go_round
        case rel => exact ⟨j + 1, by omega, by go_num, miss⟩
        case measure => simp [intOf]; omega
    · obtain rfl : j = N := by omega
      have hall : Hid (idxS code (codesK l) = -1) := hide (idxS_none fun y hy => ho.out y (by rw [List.take_of_length_le (by rw [hnl.out]; exact Nat.le_refl _)]; exact hy))
      clear h
      go_wp2
      go_ret
      exact ⟨by rw [hall.out]; rfl, rfl⟩
end Go.Proofs.YtimcdikeajbabaaGreatDoor

namespace Go.Proofs.YtimcdikeajbabaaGreatDoor
open Go.RowKit
set_option maxRecDepth 100000

set_option maxHeartbeats 16000000 in
theorem r10check_walk (z co pa : ByteArray) (n : Int) (A4 : Option Addr) (n4 c4 : Nat) (mm : Int) (A6 : Option Addr) (n6 c6 : Nat) (A7 : Option Addr) (n7 c7 : Nat) (A8 : Option Addr) (n8 c8 : Nat) (ps : List Int) (fs st : List ByteArray) (ss : List (Int × Int)) (d sl b m k : Int) (w : World)
    (h4 : ps.length = n4) (h6 : fs.length = n6) (h7 : st.length = n7) (h8 : ss.length = n8) (m4 : n4 ≤ 9223372036854775807) (m6 : n6 ≤ 9223372036854775807) (m7 : n7 ≤ 9223372036854775807) (m8 : n8 ≤ 9223372036854775807) (hsl : 1 ≤ sl ∧ sl ≤ 24)
    (a4 : At kInt AnyB w A4 ps) (a6 : At kStr AnyB w A6 fs) (a7 : At kStr AnyB w A7 st) (a8 : At kStart AnyB w A8 ss) :
    Calls Tryz.prog 60 #[.agg #[.string z, .string co, .string pa, .int .i64 n, .slice A4 n4 c4, .int .i64 mm, .slice A6 n6 c6, .slice A7 n7 c7, .slice A8 n8 c8], .agg #[.int .i64 d, .int .i64 sl, .int .i64 b, .int .i64 m], .int .i64 k] w fun e w' => e = .returned (.int .i64 (clsEx d sl k (z, co, pa, n, ps, mm, fs, st, ss))) ∧ Below w.heap.size w w' := by
  have hb0 : Below w.heap.size w ((w.alloc (.cells #[.string z, .string co, .string pa, .int .i64 n, .slice A4 n4 c4, .int .i64 mm, .slice A6 n6 c6, .slice A7 n7 c7, .slice A8 n8 c8] 47)).alloc (.cells #[.int .i64 d, .int .i64 sl, .int .i64 b, .int .i64 m] 24)) := (by repeat (first | exact Below.refl _ _ | refine ext_alloc ?_ _ | refine ext_drewN ?_ _ | refine ext_drew ?_ | refine ext_trans ?_ (by assumption)))
  have v0 := hide (fun (U : World) => r3valid_walk z U)
  have v1 := hide (fun (U : World) => r3valid_walk co U)
  have v2 := hide (fun (U : World) => r3valid_walk pa U)
  have hE : clsEx d sl k (z, co, pa, n, ps, mm, fs, st, ss) = if codeB z = false then 10 else if codeB co = false then 10 else if codeB pa = false then 10 else if n < 1 then 3 else if sl < n then 3 else if patsE k ps ≠ 0 then patsE k ps else if mm < 0 then 3 else if 9999 < mm then 3 else if 8 < n6 then 2 else if 8 < n7 then 2 else if ascTo fs n6 = false then 10 else if ascTo st n7 = false then 10 else if 24 < n8 then 2 else if startsTo d sl n ss n8 = false then 14 else 0 := by
    unfold clsEx
    dsimp only
    rw [h6, h7, h8]
  have hP : patsE k ps = if n4 = 0 then 16 else if 8 < n4 then 2 else if patsTo k ps n4 = false then 1 else 0 := by unfold patsE; rw [h4]
  obtain ⟨pe, hpe⟩ : ∃ pe, patsE k ps = pe := ⟨_, rfl⟩
  obtain ⟨V, hV⟩ : ∃ V, clsEx d sl k (z, co, pa, n, ps, mm, fs, st, ss) = V := ⟨_, rfl⟩
  rw [hV] at hE ⊢
  rw [hpe] at hE hP
  obtain ⟨hs1, hs2⟩ := hsl
  replace h4 := hide h4
  replace h6 := hide h6
  replace h7 := hide h7
  replace h8 := hide h8
  clear hV hpe
  cases e0 : codeB z with
  | false =>
    obtain rfl : V = 10 := by rw [hE, if_pos e0]
    simp only [e0] at v0
    clear hE hP a4 a6 a7 a8
    (
        go_enter Tryz.func60, Tryz.ntmps60
        go_wp2_with (first | (go_at_call 88; first | ((with_reducible refine (v0.out _).mono ?_); rintro e w4 ⟨rfl, rfl⟩) | ((with_reducible refine (v1.out _).mono ?_); rintro e w4 ⟨rfl, rfl⟩) | ((with_reducible refine (v2.out _).mono ?_); rintro e w4 ⟨rfl, rfl⟩)))
        all_goals try (exfalso; omega)
        all_goals
          go_ret
          exact ⟨rfl, hb0⟩)
  | true =>
    rw [if_neg (by simp [e0])] at hE
    simp only [e0] at v0
    cases e1 : codeB co with
    | false =>
      obtain rfl : V = 10 := by rw [hE, if_pos e1]
      simp only [e1] at v1
      clear hE hP a4 a6 a7 a8
      (
          go_enter Tryz.func60, Tryz.ntmps60
          go_wp2_with (first | (go_at_call 88; first | ((with_reducible refine (v0.out _).mono ?_); rintro e w4 ⟨rfl, rfl⟩) | ((with_reducible refine (v1.out _).mono ?_); rintro e w4 ⟨rfl, rfl⟩) | ((with_reducible refine (v2.out _).mono ?_); rintro e w4 ⟨rfl, rfl⟩)))
          all_goals try (exfalso; omega)
          all_goals
            go_ret
            exact ⟨rfl, hb0⟩)
    | true =>
      rw [if_neg (by simp [e1])] at hE
      simp only [e1] at v1
      cases e2 : codeB pa with
      | false =>
        obtain rfl : V = 10 := by rw [hE, if_pos e2]
        simp only [e2] at v2
        clear hE hP a4 a6 a7 a8
        (
            go_enter Tryz.func60, Tryz.ntmps60
            go_wp2_with (first | (go_at_call 88; first | ((with_reducible refine (v0.out _).mono ?_); rintro e w4 ⟨rfl, rfl⟩) | ((with_reducible refine (v1.out _).mono ?_); rintro e w4 ⟨rfl, rfl⟩) | ((with_reducible refine (v2.out _).mono ?_); rintro e w4 ⟨rfl, rfl⟩)))
            all_goals try (exfalso; omega)
            all_goals
              go_ret
              exact ⟨rfl, hb0⟩)
      | true =>
        rw [if_neg (by simp [e2])] at hE
        simp only [e2] at v2
        by_cases l1 : n < 1
        · obtain rfl : V = 3 := by rw [hE, if_pos l1]
          clear hE hP a4 a6 a7 a8
          (
              go_enter Tryz.func60, Tryz.ntmps60
              go_wp2_with (first | (go_at_call 88; first | ((with_reducible refine (v0.out _).mono ?_); rintro e w4 ⟨rfl, rfl⟩) | ((with_reducible refine (v1.out _).mono ?_); rintro e w4 ⟨rfl, rfl⟩) | ((with_reducible refine (v2.out _).mono ?_); rintro e w4 ⟨rfl, rfl⟩)))
              all_goals try (exfalso; omega)
              all_goals
                go_ret
                exact ⟨rfl, hb0⟩)
        · rw [if_neg l1] at hE
          by_cases l2 : sl < n
          · obtain rfl : V = 3 := by rw [hE, if_pos l2]
            clear hE hP a4 a6 a7 a8
            (
                go_enter Tryz.func60, Tryz.ntmps60
                go_wp2_with (first | (go_at_call 88; first | ((with_reducible refine (v0.out _).mono ?_); rintro e w4 ⟨rfl, rfl⟩) | ((with_reducible refine (v1.out _).mono ?_); rintro e w4 ⟨rfl, rfl⟩) | ((with_reducible refine (v2.out _).mono ?_); rintro e w4 ⟨rfl, rfl⟩)))
                all_goals try (exfalso; omega)
                all_goals
                  go_ret
                  exact ⟨rfl, hb0⟩)
          · rw [if_neg l2] at hE
            by_cases l3 : n4 = 0
            · obtain rfl : V = 16 := by rw [hE, hP, if_pos l3]; simp
              have l3i : ((n4 : Int) == 0) = true := by simp; omega
              clear hE hP a4 a6 a7 a8 l3
              (
                  go_enter Tryz.func60, Tryz.ntmps60
                  go_wp2_with (first | (go_at_call 88; first | ((with_reducible refine (v0.out _).mono ?_); rintro e w4 ⟨rfl, rfl⟩) | ((with_reducible refine (v1.out _).mono ?_); rintro e w4 ⟨rfl, rfl⟩) | ((with_reducible refine (v2.out _).mono ?_); rintro e w4 ⟨rfl, rfl⟩)))
                  all_goals try (exfalso; omega)
                  all_goals
                    go_ret
                    exact ⟨rfl, hb0⟩)
            · have l3i : ((n4 : Int) == 0) = false := by simp; omega
              rw [if_neg l3] at hP
              by_cases l4 : 8 < n4
              · obtain rfl : V = 2 := by rw [hE, hP, if_pos l4]; simp
                have l4i : (8 : Int) < (n4 : Int) := by omega
                clear hE hP a4 a6 a7 a8 l3
                (
                    go_enter Tryz.func60, Tryz.ntmps60
                    go_wp2_with (first | (go_at_call 88; first | ((with_reducible refine (v0.out _).mono ?_); rintro e w4 ⟨rfl, rfl⟩) | ((with_reducible refine (v1.out _).mono ?_); rintro e w4 ⟨rfl, rfl⟩) | ((with_reducible refine (v2.out _).mono ?_); rintro e w4 ⟨rfl, rfl⟩)))
                    all_goals try (exfalso; omega)
                    all_goals
                      go_ret
                      exact ⟨rfl, hb0⟩)
              · have l4i : ¬ (8 : Int) < (n4 : Int) := by omega
                rw [if_neg l4] at hP
                have hz : (w.alloc (.cells #[.string z, .string co, .string pa, .int .i64 n, .slice A4 n4 c4, .int .i64 mm, .slice A6 n6 c6, .slice A7 n7 c7, .slice A8 n8 c8] 47)).heap.size = w.heap.size + 1 := World.size_alloc _ _
                have hC0 := (cbox_new w ⟨z, co, pa, n, A4, n4, c4, mm, A6, n6, c6, A7, n7, c7, A8, n8, c8⟩).alloc (.cells #[.int .i64 d, .int .i64 sl, .int .i64 b, .int .i64 m] 24)
                have bG := Box4.new (w.alloc (.cells #[.string z, .string co, .string pa, .int .i64 n, .slice A4 n4 c4, .int .i64 mm, .slice A6 n6 c6, .slice A7 n7 c7, .slice A8 n8 c8] 47)) 24 (.int .i64 d) (.int .i64 sl) (.int .i64 b) (.int .i64 m)
                rw [hz] at bG
                obtain ⟨W, hW⟩ : ∃ W, (w.alloc (.cells #[.string z, .string co, .string pa, .int .i64 n, .slice A4 n4 c4, .int .i64 mm, .slice A6 n6 c6, .slice A7 n7 c7, .slice A8 n8 c8] 47)).alloc (.cells #[.int .i64 d, .int .i64 sl, .int .i64 b, .int .i64 m] 24) = W := ⟨_, rfl⟩
                have hC : CBox W w.heap.size ⟨z, co, pa, n, A4, n4, c4, mm, A6, n6, c6, A7, n7, c7, A8, n8, c8⟩ := by rw [← hW]; exact hC0
                rw [hW] at hb0 bG
                have a4W := a4.later hb0
                have a6W := a6.later hb0
                have a7W := a7.later hb0
                have a8W := a8.later hb0
                obtain ⟨cb, hcb⟩ : ∃ cb, w.heap.size = cb := ⟨_, rfl⟩
                obtain ⟨gb, hgb⟩ : ∃ gb, w.heap.size + 1 = gb := ⟨_, rfl⟩
                rw [hcb] at hC
                rw [hgb] at bG
                replace hW := hide hW
                replace hcb := hide hcb
                replace hgb := hide hgb
                replace hE := hide hE
                replace hP := hide hP
                clear a4 a6 a7 a8 hz hC0
                go_enter Tryz.func60, Tryz.ntmps60
                go_upto_region 9 with (first | (go_at_call 88; first | ((with_reducible refine (v0.out _).mono ?_); rintro e w4 ⟨rfl, rfl⟩) | ((with_reducible refine (v1.out _).mono ?_); rintro e w4 ⟨rfl, rfl⟩) | ((with_reducible refine (v2.out _).mono ?_); rintro e w4 ⟨rfl, rfl⟩)))
                all_goals try (exfalso; omega)
                rw [hW.out, hgb.out, hcb.out]
                clear v0 v1 v2 l3i l4i
                go_wp2_with fail
                go_loopw [7] (fun v wr => ∃ j : Nat, j ≤ n4 ∧ v = .int .i64 j ∧ Hid (patsTo k ps j = true) ∧ Below W.heap.size W wr) (fun v _ => n4 - (intOf v).toNat)
                case atStart => exact ⟨0, Nat.zero_le _, rfl, hide rfl, Below.refl _ _⟩
                case round =>
                  obtain ⟨j, hj, rfl, ho, hb⟩ := hrel
                  have hCr := hC.later hb
                  have u4 := hCr.c4
                  dsimp only at u4
                  have hcl := hCr.lt
                  by_cases hlt : j < n4
                  · obtain ⟨p, hp⟩ : ∃ p, ps[j]? = some p := ⟨_, List.getElem?_eq_getElem (by rw [h4.out]; exact hlt)⟩
                    have hat := a4W.later hb
                    obtain ⟨pb, po, rfl, -, hpb, x0⟩ := hat.int hp
                    have hj0 : (0 : Int) ≤ (j : Int) := by omega
                    have hj1 : (j : Int) < (n4 : Int) := by omega
                    obtain ⟨q, hq⟩ : ∃ q, numI p ps = q := ⟨_, rfl⟩
                    have hqm : q < j ↔ p ∈ ps.take j := by rw [← hq]; exact numI_lt (by rw [h4.out]; omega)
                    have hnum := hide (fun (v : Later wr) => calls_same (v := .int .i64 (q : Int)) (n := v) (by
                      have := r10number_walk (some ⟨pb, po, none⟩) ps c4 p v.val (by rw [h4.out]; exact m4) (hat.later v.keeps)
                      rw [h4.out, hq] at this
                      exact this))
                    have hany := later_any wr
                    have k1 : ∀ v : Later wr, v.val.cell? ⟨cb, 4, none⟩ = some (.slice (some ⟨pb, po, none⟩) n4 c4) := fun v => cell_later v.keeps u4
                    have k2 : ∀ v : Later wr, v.val.cell? ⟨pb, po + j, none⟩ = some (.int .i64 p) := fun v => cell_later v.keeps x0
                    have hval0 := fun (v : Later wr) => calls_same (n := v) (r5Valid_walk p k v.val)
                    cases hv : validB p k with
                    | false =>
                      obtain rfl : V = 1 := by rw [hE.out, hP.out, patsTo_bad hp hlt (Or.inl hv)]; simp
                      rw [hv] at hval0
                      have hval := hide hval0
                      clear hval0 hv hp hat ho hq hqm
                      go_upto_region 12 with fail
                      refine wp_region_later (by kernel_rfl) (by kernel_rfl) ?_
                      repeat (go_big_quiet_step ((first | (go_at_call 51; with_reducible exact hval.out _) | (go_at_call 97; with_reducible exact hnum.out _))))
                      refine wpQuiet_nil ?_
                      clear hval hnum hany k1 k2
                      rintro _ ⟨n8', rfl⟩
                      have hb8 := n8'.keeps
                      generalize n8'.val = w8 at *
                      go_wp2_with fail
                      go_ret
                      exact ⟨rfl, ext_trans hb0 (ext_trans hb hb8)⟩
                    | true =>
                      rw [hv] at hval0
                      have hval := hide hval0
                      by_cases hqj : q < j
                      · obtain rfl : V = 1 := by rw [hE.out, hP.out, patsTo_bad hp hlt (Or.inr (hqm.1 hqj))]; simp
                        have hqi : (q : Int) < (j : Int) := by omega
                        clear hval0 hv hp hat ho hq hqm
                        go_upto_region 12 with fail
                        refine wp_region_later (by kernel_rfl) (by kernel_rfl) ?_
                        repeat (go_big_quiet_step ((first | (go_at_call 51; with_reducible exact hval.out _) | (go_at_call 97; with_reducible exact hnum.out _))))
                        refine wpQuiet_nil ?_
                        clear hval hnum hany k1 k2
                        rintro _ ⟨n8', rfl⟩
                        have hb8 := n8'.keeps
                        generalize n8'.val = w8 at *
                        go_wp2_with fail
                        go_ret
                        exact ⟨rfl, ext_trans hb0 (ext_trans hb hb8)⟩
                      · have hnx : Hid (patsTo k ps (j + 1) = true) := hide (patsTo_more hp ho.out hv (fun h => hqj (hqm.2 h)))
                        have hqi : ¬ (q : Int) < (j : Int) := by omega
                        clear hval0 hv hp hat ho hq hqm
                        go_upto_region 12 with fail
                        refine wp_region_later (by kernel_rfl) (by kernel_rfl) ?_
                        repeat (go_big_quiet_step ((first | (go_at_call 51; with_reducible exact hval.out _) | (go_at_call 97; with_reducible exact hnum.out _))))
                        refine wpQuiet_nil ?_
                        clear hval hnum hany k1 k2
                        rintro _ ⟨n8', rfl⟩
                        have hb8 := n8'.keeps
                        generalize n8'.val = w8 at *
                        go_wp2_with fail
                        go_roundw
                        case rel => exact ⟨j + 1, by omega, by go_num, hnx, ext_trans hb hb8⟩
                        case measure => simp [intOf]; omega
                  · obtain rfl : j = n4 := by omega
                    have hP0 : pe = 0 := by rw [hP.out, if_neg (by rw [ho.out]; simp)]
                    have hE2 := hE.out
                    rw [hP0, if_neg (by simp)] at hE2
                    have hbw := ext_trans hb0 hb
                    have u3 := hCr.c3
                    have u5 := hCr.c5
                    have u6 := hCr.c6
                    have u7 := hCr.c7
                    have u8 := hCr.c8
                    dsimp only at u3 u5 u6 u7 u8
                    obtain ⟨g0, g1, g2, g3⟩ := bG.later hb
                    have hgl := World.block_lt_of_cell? _ _ g0
                    have ha6 := r7codes_walk A6 fs c6 wr (by rw [h6.out]; exact m6) (a6W.later hb)
                    rw [h6.out] at ha6
                    have hji : ¬ (j : Int) < (j : Int) := by omega
                    have a7r := a7W.later hb
                    have a8r := a8W.later hb
                    clear hE hP hP0 hC bG ho hb0 a4W a6W a7W a8W hb
                    by_cases l5 : mm < 0
                    · obtain rfl : V = 3 := by rw [hE2, if_pos l5]
                      clear hE2 ha6 a7r a8r
                      (
                          go_wp2_with fail
                          all_goals try (exfalso; omega)
                          all_goals
                            go_ret
                            exact ⟨rfl, hbw⟩)
                    · rw [if_neg l5] at hE2
                      by_cases l6 : 9999 < mm
                      · obtain rfl : V = 3 := by rw [hE2, if_pos l6]
                        clear hE2 ha6 a7r a8r
                        (
                            go_wp2_with fail
                            all_goals try (exfalso; omega)
                            all_goals
                              go_ret
                              exact ⟨rfl, hbw⟩)
                      · rw [if_neg l6] at hE2
                        by_cases l7 : 8 < n6
                        · obtain rfl : V = 2 := by rw [hE2, if_pos l7]
                          have l7i : (8 : Int) < (n6 : Int) := by omega
                          clear hE2 ha6 a7r a8r
                          (
                              go_wp2_with fail
                              all_goals try (exfalso; omega)
                              all_goals
                                go_ret
                                exact ⟨rfl, hbw⟩)
                        · rw [if_neg l7] at hE2
                          have l7i : ¬ (8 : Int) < (n6 : Int) := by omega
                          by_cases l8 : 8 < n7
                          · obtain rfl : V = 2 := by rw [hE2, if_pos l8]
                            have l8i : (8 : Int) < (n7 : Int) := by omega
                            clear hE2 ha6 a7r a8r
                            (
                                go_wp2_with fail
                                all_goals try (exfalso; omega)
                                all_goals
                                  go_ret
                                  exact ⟨rfl, hbw⟩)
                          · rw [if_neg l8] at hE2
                            have l8i : ¬ (8 : Int) < (n7 : Int) := by omega
                            go_upto_region 18 with fail
                            all_goals try (exfalso; omega)
                            clear u5 l3 l4 l5 l6 l7 l8 l7i l8i hji
                            cases e6 : ascTo fs n6 with
                            | false =>
                              obtain rfl : V = 10 := by rw [hE2, if_pos e6]
                              rw [e6] at ha6
                              clear hE2 a7r a8r
                              go_wp2_with fail
                              refine ha6.mono ?_
                              rintro e w5 ⟨rfl, hb5⟩
                              replace hbw := ext_trans hbw hb5
                              (
                                  go_wp2_with fail
                                  all_goals try (exfalso; omega)
                                  all_goals
                                    go_ret
                                    exact ⟨rfl, hbw⟩)
                            | true =>
                              rw [if_neg (by simp [e6])] at hE2
                              rw [e6] at ha6
                              go_wp2_with fail
                              refine ha6.mono ?_
                              clear ha6
                              rintro e w5 ⟨rfl, hb5⟩
                              replace hbw := ext_trans hbw hb5
                              replace u3 := cell_later hb5 u3
                              replace u7 := cell_later hb5 u7
                              replace u8 := cell_later hb5 u8
                              replace g0 := cell_later hb5 g0
                              replace g1 := cell_later hb5 g1
                              replace g2 := cell_later hb5 g2
                              replace g3 := cell_later hb5 g3
                              have ha7 := r7codes_walk A7 st c7 w5 (by rw [h7.out]; exact m7) (a7r.later hb5)
                              rw [h7.out] at ha7
                              replace a8r := a8r.later hb5
                              have hcl := World.block_lt_of_cell? _ _ u3
                              have hgl := World.block_lt_of_cell? _ _ g0
                              clear a7r hb5 u6 e6
                              cases e7 : ascTo st n7 with
                              | false =>
                                obtain rfl : V = 10 := by rw [hE2, if_pos e7]
                                rw [e7] at ha7
                                clear hE2 a8r
                                go_wp2_with fail
                                refine ha7.mono ?_
                                rintro e w6 ⟨rfl, hb6⟩
                                replace hbw := ext_trans hbw hb6
                                (
                                    go_wp2_with fail
                                    all_goals try (exfalso; omega)
                                    all_goals
                                      go_ret
                                      exact ⟨rfl, hbw⟩)
                              | true =>
                                rw [if_neg (by simp [e7])] at hE2
                                rw [e7] at ha7
                                go_wp2_with fail
                                refine ha7.mono ?_
                                clear ha7
                                rintro e w6 ⟨rfl, hb6⟩
                                replace hbw := ext_trans hbw hb6
                                replace u3 := cell_later hb6 u3
                                replace u8 := cell_later hb6 u8
                                replace g0 := cell_later hb6 g0
                                replace g1 := cell_later hb6 g1
                                replace g2 := cell_later hb6 g2
                                replace g3 := cell_later hb6 g3
                                replace a8r := a8r.later hb6
                                replace hcl := World.block_lt_of_cell? _ _ u3
                                replace hgl := World.block_lt_of_cell? _ _ g0
                                clear hb6 u7 e7
                                by_cases l9 : 24 < n8
                                · obtain rfl : V = 2 := by rw [hE2, if_pos l9]
                                  have l9i : (24 : Int) < (n8 : Int) := by omega
                                  clear hE2 a8r
                                  (
                                      go_wp2_with fail
                                      all_goals try (exfalso; omega)
                                      all_goals
                                        go_ret
                                        exact ⟨rfl, hbw⟩)
                                · rw [if_neg l9] at hE2
                                  have l9i : ¬ (24 : Int) < (n8 : Int) := by omega
                                  replace hE2 := hide hE2
                                  go_wp2_with fail
                                  clear l9i l9
                                  go_loopw [8] (fun v wr => ∃ i : Nat, i ≤ n8 ∧ v = .int .i64 i ∧ Hid (startsTo d sl n ss i = true) ∧ Below w6.heap.size w6 wr) (fun v _ => n8 - (intOf v).toNat)
                                  case atStart => exact ⟨0, Nat.zero_le _, rfl, hide rfl, Below.refl _ _⟩
                                  case round =>
                                    obtain ⟨i, hi, rfl, ho, hb⟩ := hrel
                                    replace u3 := cell_later hb u3
                                    replace u8 := cell_later hb u8
                                    replace g0 := cell_later hb g0
                                    replace g1 := cell_later hb g1
                                    replace g2 := cell_later hb g2
                                    replace g3 := cell_later hb g3
                                    replace hcl := World.block_lt_of_cell? _ _ u3
                                    replace hgl := World.block_lt_of_cell? _ _ g0
                                    by_cases hlt : i < n8
                                    · obtain ⟨x, hx⟩ : ∃ x, ss[i]? = some x := ⟨_, List.getElem?_eq_getElem (by rw [h8.out]; exact hlt)⟩
                                      obtain ⟨sb, so, rfl, -, hsb, x0, x1⟩ := (a8r.later hb).start hx
                                      obtain ⟨y1, y2⟩ := x
                                      dsimp only at x0 x1
                                      have hi0 : (0 : Int) ≤ (i : Int) := by omega
                                      have hi1 : (i : Int) < (n8 : Int) := by omega
                                      have hbq := ext_trans hbw hb
                                      have hcp0 := fun (v : Later wr) => r10poss_walk y1 y2 n d sl b m (by omega) (by omega) v.val
                                      cases hp : possB d sl n (y1, y2) with
                                      | false =>
                                        obtain rfl : V = 14 := by rw [hE2.out, if_pos (startsTo_bad hx hlt hp)]
                                        rw [hp] at hcp0
                                        have hcp := hide (fun (v : Later wr) => calls_later (v := .bool false) (n := v) (hcp0 v))
                                        have hle := hide True.intro
                                        have f9 := True.intro
                                        have f10 := True.intro
                                        clear hx ho hp hcp0 a8r hE2
                                        go_upto_region 25 with fail
                                        (
                                            have hany := later_any wr
                                            have f1 := fun (v : Later wr) => cell_later v.keeps u3
                                            have f2 := fun (v : Later wr) => cell_later v.keeps u8
                                            have f3 := fun (v : Later wr) => cell_later v.keeps g0
                                            have f4 := fun (v : Later wr) => cell_later v.keeps g1
                                            have f5 := fun (v : Later wr) => cell_later v.keeps g2
                                            have f6 := fun (v : Later wr) => cell_later v.keeps g3
                                            have f7 := fun (v : Later wr) => cell_later v.keeps x0
                                            have f8 := fun (v : Later wr) => cell_later v.keeps x1)
                                        (
                                            refine wp_region_later (by kernel_rfl) (by kernel_rfl) ?_
                                            repeat (go_big_quiet_step ((first | (go_at_call 99; with_reducible exact hcp.out _) | (go_at_call 100; with_reducible exact hle.out _))))
                                            refine wpQuiet_nil ?_
                                            clear hcp hle hany f1 f2 f3 f4 f5 f6 f7 f8 f9 f10
                                            rintro _ ⟨n8', rfl⟩
                                            have hb8 := n8'.keeps
                                            generalize n8'.val = w8 at *
                                            go_wp2_with fail)
                                        go_ret
                                        exact ⟨rfl, ext_trans hbq hb8⟩
                                      | true =>
                                        rw [hp] at hcp0
                                        have hcp := hide (fun (v : Later wr) => calls_later (v := .bool true) (n := v) (hcp0 v))
                                        by_cases hi00 : i = 0
                                        · have hnx : Hid (startsTo d sl n ss (i + 1) = true) := hide (by
                                            subst hi00
                                            exact startsTo_first hx hp)
                                          have hin : ¬ 0 < i := by omega
                                          have hii : ¬ (0 : Int) < (i : Int) := by omega
                                          replace hi00 := hide hi00
                                          have hle := hide True.intro
                                          have f9 := True.intro
                                          have f10 := True.intro
                                          clear hx ho hp hcp0
                                          go_upto_region 25 with fail
                                          (
                                              have hany := later_any wr
                                              have f1 := fun (v : Later wr) => cell_later v.keeps u3
                                              have f2 := fun (v : Later wr) => cell_later v.keeps u8
                                              have f3 := fun (v : Later wr) => cell_later v.keeps g0
                                              have f4 := fun (v : Later wr) => cell_later v.keeps g1
                                              have f5 := fun (v : Later wr) => cell_later v.keeps g2
                                              have f6 := fun (v : Later wr) => cell_later v.keeps g3
                                              have f7 := fun (v : Later wr) => cell_later v.keeps x0
                                              have f8 := fun (v : Later wr) => cell_later v.keeps x1)
                                          (
                                              refine wp_region_later (by kernel_rfl) (by kernel_rfl) ?_
                                              repeat (go_big_quiet_step ((first | (go_at_call 99; with_reducible exact hcp.out _) | (go_at_call 100; with_reducible exact hle.out _))))
                                              refine wpQuiet_nil ?_
                                              clear hcp hle hany f1 f2 f3 f4 f5 f6 f7 f8 f9 f10
                                              rintro _ ⟨n8', rfl⟩
                                              have hb8 := n8'.keeps
                                              generalize n8'.val = w8 at *
                                              go_wp2_with fail)
                                          go_roundw
                                          case rel => exact ⟨i + 1, by omega, by go_num, hnx, ext_trans hb hb8⟩
                                          case measure => simp [intOf]; omega
                                        · obtain ⟨p, hpp⟩ : ∃ p, i = p + 1 := ⟨i - 1, by omega⟩
                                          obtain ⟨y, hy⟩ : ∃ y, ss[p]? = some y := ⟨_, List.getElem?_eq_getElem (by rw [h8.out]; omega)⟩
                                          have hx' : ss[p + 1]? = some (y1, y2) := by rw [← hpp]; exact hx
                                          obtain ⟨sb', so', e1, -, -, p0, p1⟩ := (a8r.later hb).start hy
                                          injection e1 with e1
                                          injection e1 with e2 e3 _
                                          subst e2 e3
                                          obtain ⟨q1, q2⟩ := y
                                          dsimp only at p0 p1
                                          have hii : (0 : Int) < (i : Int) := by omega
                                          have hin : 0 < i := by omega
                                          have hki : (i : Int) - 1 = (p : Int) := by omega
                                          have hkw : IntKind.i64.wrap (p : Int) = (p : Int) := IntWalk.i64_in _ (by omega)
                                          have hk0 : (0 : Int) ≤ (p : Int) := by omega
                                          have hk1 : (p : Int) < (n8 : Int) := by omega
                                          have hle0 := fun (v : Later wr) => r10less_walk q1 q2 y1 y2 v.val
                                          have f9 := fun (v : Later wr) => cell_later v.keeps p0
                                          have f10 := fun (v : Later wr) => cell_later v.keeps p1
                                          cases hl : lessB (q1, q2) (y1, y2) with
                                          | false =>
                                            obtain rfl : V = 14 := by rw [hE2.out, if_pos (startsTo_low hx' hy (by omega) hl)]
                                            rw [hl] at hle0
                                            have hle := hide (fun (v : Later wr) => calls_later (v := .bool false) (n := v) (hle0 v))
                                            replace hpp := hide hpp
                                            clear hx hx' hy ho hp hcp0 hle0 hl hi00 a8r hE2
                                            go_upto_region 25 with fail
                                            (
                                                have hany := later_any wr
                                                have f1 := fun (v : Later wr) => cell_later v.keeps u3
                                                have f2 := fun (v : Later wr) => cell_later v.keeps u8
                                                have f3 := fun (v : Later wr) => cell_later v.keeps g0
                                                have f4 := fun (v : Later wr) => cell_later v.keeps g1
                                                have f5 := fun (v : Later wr) => cell_later v.keeps g2
                                                have f6 := fun (v : Later wr) => cell_later v.keeps g3
                                                have f7 := fun (v : Later wr) => cell_later v.keeps x0
                                                have f8 := fun (v : Later wr) => cell_later v.keeps x1)
                                            (
                                                refine wp_region_later (by kernel_rfl) (by kernel_rfl) ?_
                                                repeat (go_big_quiet_step ((first | (go_at_call 99; with_reducible exact hcp.out _) | (go_at_call 100; with_reducible exact hle.out _))))
                                                refine wpQuiet_nil ?_
                                                clear hcp hle hany f1 f2 f3 f4 f5 f6 f7 f8 f9 f10
                                                rintro _ ⟨n8', rfl⟩
                                                have hb8 := n8'.keeps
                                                generalize n8'.val = w8 at *
                                                go_wp2_with fail)
                                            go_ret
                                            exact ⟨rfl, ext_trans hbq hb8⟩
                                          | true =>
                                            have hnx : Hid (startsTo d sl n ss (i + 1) = true) := hide (by
                                              have := ho.out
                                              rw [hpp] at this ⊢
                                              exact startsTo_more this hx' hy hp hl)
                                            rw [hl] at hle0
                                            have hle := hide (fun (v : Later wr) => calls_later (v := .bool true) (n := v) (hle0 v))
                                            replace hpp := hide hpp
                                            clear hx hx' hy ho hp hcp0 hle0 hl hi00
                                            go_upto_region 25 with fail
                                            (
                                                have hany := later_any wr
                                                have f1 := fun (v : Later wr) => cell_later v.keeps u3
                                                have f2 := fun (v : Later wr) => cell_later v.keeps u8
                                                have f3 := fun (v : Later wr) => cell_later v.keeps g0
                                                have f4 := fun (v : Later wr) => cell_later v.keeps g1
                                                have f5 := fun (v : Later wr) => cell_later v.keeps g2
                                                have f6 := fun (v : Later wr) => cell_later v.keeps g3
                                                have f7 := fun (v : Later wr) => cell_later v.keeps x0
                                                have f8 := fun (v : Later wr) => cell_later v.keeps x1)
                                            (
                                                refine wp_region_later (by kernel_rfl) (by kernel_rfl) ?_
                                                repeat (go_big_quiet_step ((first | (go_at_call 99; with_reducible exact hcp.out _) | (go_at_call 100; with_reducible exact hle.out _))))
                                                refine wpQuiet_nil ?_
                                                clear hcp hle hany f1 f2 f3 f4 f5 f6 f7 f8 f9 f10
                                                rintro _ ⟨n8', rfl⟩
                                                have hb8 := n8'.keeps
                                                generalize n8'.val = w8 at *
                                                go_wp2_with fail)
                                            go_roundw
                                            case rel => exact ⟨i + 1, by omega, by go_num, hnx, ext_trans hb hb8⟩
                                            case measure => simp [intOf]; omega
                                    · obtain rfl : i = n8 := by omega
                                      obtain rfl : V = 0 := by rw [hE2.out, if_neg (by rw [ho.out]; simp)]
                                      have hii : ¬ (i : Int) < (i : Int) := by omega
                                      have hbq := ext_trans hbw hb
                                      clear ho a8r hE2
                                      go_wp2_with fail
                                      go_ret
                                      exact ⟨rfl, hbq⟩
end Go.Proofs.YtimcdikeajbabaaGreatDoor
