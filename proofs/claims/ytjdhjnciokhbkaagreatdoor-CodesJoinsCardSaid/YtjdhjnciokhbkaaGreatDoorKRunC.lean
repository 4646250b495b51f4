/- Walk of codes.run: how many of the first codes are a range. Conditions: short codes; what the program's variables hold. -/
import Derived.Test.YtjdhjnciokhbkaaGreatDoorKJoinP
import Derived.Test.YtjdhjnciokhbkaaGreatDoorKAwake3
import Derived.Deep.RegionHeld3
import Derived.Deep.DeepCutAuto
namespace Go.Proofs.YtjdhjnciokhbkaaGreatDoor
open Go.RowKit
set_option maxRecDepth 100000

theorem preL_len {a : ByteArray} : (preL a).length ≤ a.size := by unfold preL; rw [List.length_take, len_size]; omega
theorem widT_le {a : ByteArray} : widT a ≤ a.size := by unfold widT; omega
set_option maxHeartbeats 4000000 in
theorem run_walk (A : Option Addr) (a : ByteArray) (r : List ByteArray) (c : Nat) (w : World) (hS : Std w) (hA : At kStr AnyB w A (a :: r)) (hl : (a :: r).length ≤ 64) (ha : a.size ≤ 16) :
    Calls Tryz.prog 86 #[.slice A (a :: r).length c] w fun e w' => e = .returned (.int .i64 (runV (a :: r))) ∧ Below w.heap.size w w' := by
  obtain ⟨b, off, rfl, -, hlt, k0⟩ := hA.str (j := 0) rfl
  rw [Nat.add_zero] at k0
  have hbig := hS.big
  have p1 := parts_is a w hS (by omega)
  have na := numT_le a ha
  have hpl : (preL a).length ≤ 16 := Nat.le_trans preL_len ha
  have hwl : widT a ≤ 16 := Nat.le_trans widT_le ha
  have hnf : ∀ k, ranF a k = mkB (preL a ++ wrL (numT a + k) (widT a)) := fun _ => rfl
  obtain ⟨N, hN⟩ : ∃ N, (a :: r).length = N := ⟨_, rfl⟩
  have hN1 : 0 < N := by rw [← hN]; simp
  have hrl : r.length = N - 1 := by rw [← hN]; simp
  rw [hN] at hl ⊢
  by_cases hok : tailAt a < a.size
  · rw [if_pos hok, decide_eq_true hok] at p1
    have hR : runV (a :: r) = runC a 1 r + 1 := if_pos hok
    have hRle := runC_le a r 1
    have hnext : ∀ j, 1 ≤ j → j < runC a 1 r + 1 → (a :: r)[j]? = some (ranF a j) := fun j h1 hj => by
      obtain ⟨i, rfl⟩ : ∃ i, j = i + 1 := ⟨j - 1, by omega⟩
      rw [List.getElem?_cons_succ, runC_next (a := a) (j := 1) (by omega), Nat.add_comm]
    have hstop : ∀ x, (a :: r)[runC a 1 r + 1]? = some x → x ≠ ranF a (runC a 1 r + 1) := fun x hx => by
      rw [List.getElem?_cons_succ] at hx
      rw [Nat.add_comm]; exact runC_stop hx
    rw [hR]
    obtain ⟨R, hRR⟩ : ∃ R, runC a 1 r = R := ⟨_, rfl⟩
    rw [hRR] at hRle hnext hstop ⊢
    obtain ⟨n, hn⟩ : ∃ n, numT a = n := ⟨_, rfl⟩
    obtain ⟨d, hd⟩ : ∃ d, widT a = d := ⟨_, rfl⟩
    obtain ⟨p, hp⟩ : ∃ p, preL a = p := ⟨_, rfl⟩
    obtain ⟨f, hf⟩ : ∃ f, ranF a = f := ⟨_, rfl⟩
    have hA2 : ∀ j x, (a :: r)[j]? = some x → w.cell? ⟨b, off + j, none⟩ = some (.string x) := fun j x hx => by
      obtain ⟨b', off', e, -, -, hc⟩ := hA.str hx
      injection e with e
      injection e with e1 e2
      subst e1 e2
      exact hc
    obtain ⟨L, hL⟩ : ∃ L, a :: r = L := ⟨_, rfl⟩
    rw [hL] at hN hA2 hnext hstop
    rw [hn] at na
    rw [hn, hd, hp] at p1
    rw [hd] at hwl
    rw [hp] at hpl
    simp only [hn, hd, hp, hf] at hnf hnext hstop
    replace hnf := hide hnf
    replace hnext := hide hnext
    replace hstop := hide hstop
    replace hA2 := hide hA2
    replace hN := hide hN
    clear hn hd hp hf hok hA hR hRR hL
    go_enter Tryz.func86, Tryz.ntmps86
    go_wp2_with (go_at_call 98; (with_reducible refine p1.mono ?_); rintro e w1 ⟨rfl, hb1⟩)
    go_loopw [7] (fun v wr => ∃ j, 1 ≤ j ∧ j ≤ R + 1 ∧ v = .int .i64 (j : Int) ∧ Below w.heap.size w wr) (fun v _ => R + 2 - (intOf v).toNat)
    case atStart => exact ⟨1, Nat.le_refl _, by omega, rfl, hb1⟩
    case round =>
      obtain ⟨j, hj1, hj, rfl, hb⟩ := hrel
      have hw1 : IntKind.i64.wrap ((n : Int) + (j : Int)) = ((n + j : Nat) : Int) := by rw [IntKind.wrap_i64]; omega
      have hcall := hide (fun (V : World) (hV : Below wr.heap.size wr V) (b off : Nat) (x : ByteArray) (hc : Cn1 b off ((.string x)) wr) => (written_is p (n + j) d V (hS.after (ext_trans hb hV)) (by omega) (by omega) (by omega)).mono fun e w' ⟨he, hb'⟩ => (⟨by rw [he, ← hnf.out j], ext_trans hV hb', hc.later (ext_trans hV hb')⟩ : e = Ending.returned (.string (f j)) ∧ Below wr.heap.size wr w' ∧ Cn1 b off ((.string x)) w'))
      obtain ⟨F, hF⟩ : ∃ F, f j = F := ⟨_, rfl⟩
      by_cases hlt2 : j < N
      · have hci : (j : Int) < (N : Int) := by omega
        have hc0 : (0 : Int) ≤ (j : Int) := by omega
        obtain ⟨x, hx⟩ : ∃ x, L[j]? = some x := ⟨_, List.getElem?_eq_getElem (by rw [hN.out]; exact hlt2)⟩
        have hcell := ((bcell hb).1 _ _ hlt).trans (hA2.out j x hx)
        have hSL : Cn1 b (off + j) ((.string x)) wr := hcell
        have hcall2 := hide (fun V hV => hcall.out V hV b (off + j) x hSL)
        rw [hF] at hcall2
        have hSd := hSL.drew
        have hrefl := Below.refl wr.heap.size wr
        have hbl : b < wr.heap.size := Nat.lt_of_lt_of_le hlt hb.size
        by_cases hiR : j < R + 1
        · have hxF : x = F := by
            have := hnext.out j hj1 hiR
            rw [hx] at this
            rw [← hF]; exact Option.some.inj this
          subst hxF
          clear hx hF hcall hnext hstop hA2 hnf p1 k0
          go_upto_region 3 with fail
          go_region_held3 (fun W' => W'.cell? ⟨b, off + j, none⟩ = some ((.string x))) (first | ((repeat (first | (with_reducible assumption) | (with_reducible refine Cn1.alloc ?_ _) | (with_reducible refine Cn1.drew ?_) | (with_reducible refine Cn1.set ?_ ?_ _) | omega)); done)) (first | (go_at_call 99; refine (hcall2.out _ (by repeat (first | (with_reducible assumption) | (with_reducible refine ext_alloc ?_ _) | (with_reducible refine ext_drew ?_)))).mono ?_; rintro e w2 ⟨rfl, hb2, hx2⟩))
          all_goals
            go_wp2_with fail
            go_roundw
            case rel => exact ⟨j + 1, by omega, by omega, by go_num, ext_trans hb hb2⟩
            case measure => simp [intOf]; omega
        · have hjR : Hid (j = R + 1) := hide (by omega)
          have hne := toList_no (X := x) (Y := F) (fun e => hstop.out x (by rw [← hjR.out]; exact hx) (by rw [← hjR.out, hF]; exact dat_inj e))
          clear hx hF hcall hnext hstop hA2 hnf p1 k0 hiR
          go_upto_region 3 with fail
          go_region_held3 (fun W' => W'.cell? ⟨b, off + j, none⟩ = some ((.string x))) (first | ((repeat (first | (with_reducible assumption) | (with_reducible refine Cn1.alloc ?_ _) | (with_reducible refine Cn1.drew ?_) | (with_reducible refine Cn1.set ?_ ?_ _) | omega)); done)) (first | (go_at_call 99; refine (hcall2.out _ (by repeat (first | (with_reducible assumption) | (with_reducible refine ext_alloc ?_ _) | (with_reducible refine ext_drew ?_)))).mono ?_; rintro e w2 ⟨rfl, hb2, hx2⟩))
          all_goals
            go_wp2_with fail
            go_ret
            exact ⟨by have e := hjR.out; subst e; rfl, ext_trans hb hb2⟩
      · have hjR : Hid (j = R + 1) := hide (by omega)
        have hci : ¬ (j : Int) < (N : Int) := by omega
        clear hF hcall hnext hstop hA2 hnf p1 k0
        go_upto_region 3 with fail
        go_region
        all_goals
          go_wp2
          go_ret
          exact ⟨by have e := hjR.out; subst e; rfl, by first | exact hb | exact ext_drew hb⟩
  · rw [if_neg hok, decide_eq_false hok] at p1
    have hR : runV (a :: r) = 1 := if_neg hok
    rw [hR]
    clear hok hA hR hnf hN
    go_enter Tryz.func86, Tryz.ntmps86
    go_wp2_with (go_at_call 98; (with_reducible refine p1.mono ?_); rintro e w1 ⟨rfl, hb1⟩)
    go_loopw [7] (fun v wr => v = .int .i64 1 ∧ Below w.heap.size w wr) (fun _ _ => 0)
    case atStart => exact ⟨rfl, hb1⟩
    case round =>
      obtain ⟨rfl, hb⟩ := hrel
      go_upto_region 3 with fail
      go_region
      all_goals
        go_wp2
        go_ret
        exact ⟨rfl, by first | exact hb | exact ext_drew hb⟩
end Go.Proofs.YtjdhjnciokhbkaaGreatDoor
