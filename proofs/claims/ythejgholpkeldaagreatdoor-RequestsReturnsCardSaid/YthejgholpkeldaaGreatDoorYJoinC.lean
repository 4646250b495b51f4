/- Walk of codes.run: how many of the first codes are a range. Conditions: short codes; what the program's variables hold. Walk of codes.Join. Conditions: the cells; what the program's variables hold. -/
import Derived.Test.YthejgholpkeldaaGreatDoorShelfS
import Derived.Test.YthejgholpkeldaaGreatDoorRows
import Derived.WalkKit
import Derived.WalkSpells
import Derived.WalkLawsBesides
import Derived.BigGuardPart
import Derived.Lib.Hide
import Derived.Laws.BitsAllLaws
import Derived.Laws.BitsLemmas
import Derived.Lib.LaidTab
import Derived.Test.YthejgholpkeldaaGreatDoorShelf
import Derived.Lib.ConvBytes
import Derived.Deep.QuietTactic
import Derived.BigQuiet
import Derived.Laws.ResultCell
import Derived.RegionTactic
import Derived.BigRegion
import Derived.Deep.RegionHeld3
import Derived.Deep.DeepCutAuto
import Derived.Lib.SmallJoins
import Derived.Lib.SplitLaws
import Derived.Lib.CountLaws
import Derived.Lib.IndexMore
import Derived.Lib.Split
import Derived.Lib.Join
import Derived.Lib.ItoaNum
import Derived.Laws.AppendOwn
import Derived.Test.YthejgholpkeldaaGreatDoorShelfT
import Derived.Lib.ItoaLen
import Derived.Lib.AppendIntMem
import Derived.Deep.AppendLies
import Derived.Lib.PathFns
import Derived.Maps.Range
import Derived.Lib.OwnBridge
import Derived.Sort.OwnSorted
import Derived.Test.YthejgholpkeldaaGreatDoorYSameL
import Derived.Test.YthejgholpkeldaaGreatDoorYListC
import Derived.Test.YthejgholpkeldaaGreatDoorYJoinP
import Derived.Test.YthejgholpkeldaaGreatDoorYWriteT
namespace Go.Proofs.YthejgholpkeldaaGreatDoor
open Go.RowKit
set_option maxRecDepth 100000

theorem preL_len {a : ByteArray} : (preL a).length ≤ a.size := by unfold preL; rw [List.length_take, len_size]; omega
theorem widT_le {a : ByteArray} : widT a ≤ a.size := by unfold widT; omega
set_option maxHeartbeats 4000000 in
theorem run_walk (A : Option Addr) (a : ByteArray) (r : List ByteArray) (c : Nat) (w : World) (hS : Std w) (hA : At kStr AnyB w A (a :: r)) (hl : (a :: r).length ≤ 64) (ha : a.size ≤ 16) :
    Calls Tryz.prog 88 #[.slice A (a :: r).length c] w fun e w' => e = .returned (.int .i64 (runV (a :: r))) ∧ Below w.heap.size w w' := by
  obtain ⟨b, off, rfl, -, hlt, k0⟩ := hA.str (j := 0) rfl
  rw [Nat.add_zero] at k0
  have hbig := hS.big
  have p1 := parts_is a w hS (by omega)
  have na := numT_le a ha
  have hpl : (preL a).length ≤ 16 := Nat.le_trans preL_len ha
  have hwl : widT a ≤ 16 := Nat.le_trans widT_le ha
  have hnf : ∀ k, ranF a k = mkB (preL a ++ wrL (numT a + k) (widT a)) := fun _ => rfl
  obtain ⟨N, hN⟩ : ∃ N, (a :: r).length = N := ⟨_, rfl⟩
  have hN1 : 0 < N := by rw [← hN]; simp
  have hrl : r.length = N - 1 := by rw [← hN]; simp
  rw [hN] at hl ⊢
  by_cases hok : tailAt a < a.size
  · rw [if_pos hok, decide_eq_true hok] at p1
    have hR : runV (a :: r) = runC a 1 r + 1 := if_pos hok
    have hRle := runC_le a r 1
    have hnext : ∀ j, 1 ≤ j → j < runC a 1 r + 1 → (a :: r)[j]? = some (ranF a j) := fun j h1 hj => by
      obtain ⟨i, rfl⟩ : ∃ i, j = i + 1 := ⟨j - 1, by omega⟩
      rw [List.getElem?_cons_succ, runC_next (a := a) (j := 1) (by omega), Nat.add_comm]
    have hstop : ∀ x, (a :: r)[runC a 1 r + 1]? = some x → x ≠ ranF a (runC a 1 r + 1) := fun x hx => by
      rw [List.getElem?_cons_succ] at hx
      rw [Nat.add_comm]; exact runC_stop hx
    rw [hR]
    obtain ⟨R, hRR⟩ : ∃ R, runC a 1 r = R := ⟨_, rfl⟩
    rw [hRR] at hRle hnext hstop ⊢
    obtain ⟨n, hn⟩ : ∃ n, numT a = n := ⟨_, rfl⟩
    obtain ⟨d, hd⟩ : ∃ d, widT a = d := ⟨_, rfl⟩
    obtain ⟨p, hp⟩ : ∃ p, preL a = p := ⟨_, rfl⟩
    obtain ⟨f, hf⟩ : ∃ f, ranF a = f := ⟨_, rfl⟩
    have hA2 : ∀ j x, (a :: r)[j]? = some x → w.cell? ⟨b, off + j, none⟩ = some (.string x) := fun j x hx => by
      obtain ⟨b', off', e, -, -, hc⟩ := hA.str hx
      injection e with e
      injection e with e1 e2
      subst e1 e2
      exact hc
    obtain ⟨L, hL⟩ : ∃ L, a :: r = L := ⟨_, rfl⟩
    rw [hL] at hN hA2 hnext hstop
    rw [hn] at na
    rw [hn, hd, hp] at p1
    rw [hd] at hwl
    rw [hp] at hpl
    simp only [hn, hd, hp, hf] at hnf hnext hstop
    replace hnf := hide hnf
    replace hnext := hide hnext
    replace hstop := hide hstop
    replace hA2 := hide hA2
    replace hN := hide hN
    clear hn hd hp hf hok hA hR hRR hL
    go_enter Tryz.func88, Tryz.ntmps88
    go_wp2_with (go_at_call 120; (with_reducible refine p1.mono ?_); rintro e w1 ⟨rfl, hb1⟩)
    go_loopw [7] (fun v wr => ∃ j, 1 ≤ j ∧ j ≤ R + 1 ∧ v = .int .i64 (j : Int) ∧ Below w.heap.size w wr) (fun v _ => R + 2 - (intOf v).toNat)
    case atStart => exact ⟨1, Nat.le_refl _, by omega, rfl, hb1⟩
    case round =>
      obtain ⟨j, hj1, hj, rfl, hb⟩ := hrel
      have hw1 : IntKind.i64.wrap ((n : Int) + (j : Int)) = ((n + j : Nat) : Int) := by rw [IntKind.wrap_i64]; omega
      have hcall := hide (fun (V : World) (hV : Below wr.heap.size wr V) (b off : Nat) (x : ByteArray) (hc : Cn1 b off ((.string x)) wr) => (written_is p (n + j) d V (hS.after (ext_trans hb hV)) (by omega) (by omega) (by omega)).mono fun e w' ⟨he, hb'⟩ => (⟨by rw [he, ← hnf.out j], ext_trans hV hb', hc.later (ext_trans hV hb')⟩ : e = Ending.returned (.string (f j)) ∧ Below wr.heap.size wr w' ∧ Cn1 b off ((.string x)) w'))
      obtain ⟨F, hF⟩ : ∃ F, f j = F := ⟨_, rfl⟩
      by_cases hlt2 : j < N
      · have hci : (j : Int) < (N : Int) := by omega
        have hc0 : (0 : Int) ≤ (j : Int) := by omega
        obtain ⟨x, hx⟩ : ∃ x, L[j]? = some x := ⟨_, List.getElem?_eq_getElem (by rw [hN.out]; exact hlt2)⟩
        have hcell := ((bcell hb).1 _ _ hlt).trans (hA2.out j x hx)
        have hSL : Cn1 b (off + j) ((.string x)) wr := hcell
        have hcall2 := hide (fun V hV => hcall.out V hV b (off + j) x hSL)
        rw [hF] at hcall2
        have hSd := hSL.drew
        have hrefl := Below.refl wr.heap.size wr
        have hbl : b < wr.heap.size := Nat.lt_of_lt_of_le hlt hb.size
        by_cases hiR : j < R + 1
        · have hxF : x = F := by
            have := hnext.out j hj1 hiR
            rw [hx] at this
            rw [← hF]; exact Option.some.inj this
          subst hxF
          clear hx hF hcall hnext hstop hA2 hnf p1 k0
          go_upto_region 3 with fail
          go_region_held3 (fun W' => W'.cell? ⟨b, off + j, none⟩ = some ((.string x))) (first | ((repeat (first | (with_reducible assumption) | (with_reducible refine Cn1.alloc ?_ _) | (with_reducible refine Cn1.drew ?_) | (with_reducible refine Cn1.set ?_ ?_ _) | omega)); done)) (first | (go_at_call 121; refine (hcall2.out _ (by repeat (first | (with_reducible assumption) | (with_reducible refine ext_alloc ?_ _) | (with_reducible refine ext_drew ?_)))).mono ?_; rintro e w2 ⟨rfl, hb2, hx2⟩))
          all_goals
            go_wp2_with fail
            go_roundw
            case rel => exact ⟨j + 1, by omega, by omega, by go_num, ext_trans hb hb2⟩
            case measure => simp [intOf]; omega
        · have hjR : Hid (j = R + 1) := hide (by omega)
          have hne := toList_no (X := x) (Y := F) (fun e => hstop.out x (by rw [← hjR.out]; exact hx) (by rw [← hjR.out, hF]; exact dat_inj e))
          clear hx hF hcall hnext hstop hA2 hnf p1 k0 hiR
          go_upto_region 3 with fail
          go_region_held3 (fun W' => W'.cell? ⟨b, off + j, none⟩ = some ((.string x))) (first | ((repeat (first | (with_reducible assumption) | (with_reducible refine Cn1.alloc ?_ _) | (with_reducible refine Cn1.drew ?_) | (with_reducible refine Cn1.set ?_ ?_ _) | omega)); done)) (first | (go_at_call 121; refine (hcall2.out _ (by repeat (first | (with_reducible assumption) | (with_reducible refine ext_alloc ?_ _) | (with_reducible refine ext_drew ?_)))).mono ?_; rintro e w2 ⟨rfl, hb2, hx2⟩))
          all_goals
            go_wp2_with fail
            go_ret
            exact ⟨by have e := hjR.out; subst e; rfl, ext_trans hb hb2⟩
      · have hjR : Hid (j = R + 1) := hide (by omega)
        have hci : ¬ (j : Int) < (N : Int) := by omega
        clear hF hcall hnext hstop hA2 hnf p1 k0
        go_upto_region 3 with fail
        go_region
        all_goals
          go_wp2
          go_ret
          exact ⟨by have e := hjR.out; subst e; rfl, by first | exact hb | exact ext_drew hb⟩
  · rw [if_neg hok, decide_eq_false hok] at p1
    have hR : runV (a :: r) = 1 := if_neg hok
    rw [hR]
    clear hok hA hR hnf hN
    go_enter Tryz.func88, Tryz.ntmps88
    go_wp2_with (go_at_call 120; (with_reducible refine p1.mono ?_); rintro e w1 ⟨rfl, hb1⟩)
    go_loopw [7] (fun v wr => v = .int .i64 1 ∧ Below w.heap.size w wr) (fun _ _ => 0)
    case atStart => exact ⟨rfl, hb1⟩
    case round =>
      obtain ⟨rfl, hb⟩ := hrel
      go_upto_region 3 with fail
      go_region
      all_goals
        go_wp2
        go_ret
        exact ⟨rfl, by first | exact hb | exact ext_drew hb⟩
end Go.Proofs.YthejgholpkeldaaGreatDoor

namespace Go.Proofs.YthejgholpkeldaaGreatDoor
open Go.RowKit
set_option maxRecDepth 100000

def lenV : Value → Nat
  | .slice _ n _ => n
  | _ => 0
theorem At.drop_str {S : Nat → Prop} {w : World} {b off k : Nat} {l : List ByteArray} (h : At kStr S w (some ⟨b, off, none⟩) l) : At kStr S w (some ⟨b, off + k, none⟩) (l.drop k) := by
  intro hn
  rw [List.length_drop] at hn
  obtain ⟨b', off', e, hs, hlt, hc⟩ := h (by omega)
  injection e with e
  injection e with e1 e2
  subst e1 e2
  refine ⟨b, off + k, rfl, hs, hlt, fun j x hx => ?_⟩
  rw [List.getElem?_drop] at hx
  obtain ⟨vs, hr, hcell⟩ := hc (k + j) x hx
  refine ⟨vs, hr, fun i u hu => ?_⟩
  have := hcell i u hu
  rw [show off + (k + j) * kStr.k + i = off + k + j * kStr.k + i from by simp only [show kStr.k = 1 from rfl]; omega] at this
  exact this
theorem rangeT_eq (A B : ByteArray) : A ++ (⟨#[46, 46]⟩ : ByteArray) ++ B = rangeT A B := by
  refine dat_inj ?_
  unfold rangeT
  rw [mkB_list]
  simp
theorem rangeT_size (A B : ByteArray) : (rangeT A B).size = A.size + 2 + B.size := by
  unfold rangeT
  rw [mkB_size, List.length_append, len_size]
  simp only [List.length_cons, len_size]
  omega
def JoinIs (r : Nat × ByteArray) (w : World) (e : Ending) (w' : World) : Prop := e = .returned (.tuple #[.string r.2, .int .i64 (r.1 : Int)]) ∧ Below w.heap.size w w'
theorem join_err {n : Nat} {w w' : World} (hb : Below w.heap.size w w') : JoinIs (n, ⟨#[]⟩) w (.returned (.tuple #[.string ⟨#[]⟩, .int .i64 (n : Int)])) w' := ⟨rfl, hb⟩
def JoinSt (B : Nat) (w : World) (P : List ByteArray) (v0 v6 : Value) (wr : World) : Prop :=
  ∃ (rest dn : List ByteArray) (A : Option Addr) (c : Nat), v0 = .slice A rest.length c ∧ rest.length ≤ c ∧ At kStr (· < B) w A rest ∧ (∀ x ∈ rest, codeB x = true) ∧ dn ++ pieceS 0 rest = P ∧ dn.length + rest.length ≤ 64 ∧ (∀ p ∈ dn, p.data.toList.length ≤ 40) ∧ Own kStr 9 [] 0 B wr v6 dn ∧ Below B w wr
theorem join_next {B M cn c' b off c8 : Nat} {w w8 : World} {P rest dn : List ByteArray} {T : ByteArray} {A8 : Option Addr} (hl2 : rest.length = M - cn) (hcc : M ≤ c') (hr2 : cn ≤ M) (hnext : At kStr (· < B) w (some ⟨b, off + cn, none⟩) rest) (hco : ∀ x ∈ rest, codeB x = true) (hdn : dn ++ T :: pieceS 0 rest = P) (hlen : dn.length + M ≤ 64) (h1 : 1 ≤ cn) (hsz : ∀ p ∈ dn ++ [T], p.data.toList.length ≤ 40) (hown : Own kStr 9 [] 0 B w8 (.slice A8 (dn ++ [T]).length c8) (dn ++ [T])) (hb : Below B w w8) :
    JoinSt B w P (.slice (if c' = cn then some ⟨b, off, none⟩ else some ⟨b, off + cn, none⟩) (M - cn) (c' - cn)) (.slice A8 (dn ++ [T]).length c8) w8 := by
  refine ⟨rest, dn ++ [T], _, _, by rw [hl2], by omega, ?_, hco, by rw [← hdn]; simp, by rw [List.length_append, hl2]; simp; omega, hsz, hown, hb⟩
  by_cases e : c' = cn
  · intro hn; omega
  · rw [if_neg e]; exact hnext
set_option maxHeartbeats 8000000 in
theorem cjoin_walk (A : Option Addr) (l : List ByteArray) (c : Nat) (w : World) (hS : Std w) (hA : At kStr AnyB w A l) (hl : l.length ≤ 9223372036854775807) (hlc : l.length ≤ c) :
    Calls Tryz.prog 61 #[.slice A l.length c] w fun e w' => JoinIs (joinV l) w e w' := by
  obtain ⟨V, hV⟩ : ∃ V, joinV l = V := ⟨_, rfl⟩
  rw [hV]
  have hbig := hS.big
  by_cases h64 : 64 < l.length
  · have hV' : V = (2, ⟨#[]⟩) := by rw [← hV]; exact if_pos h64
    have h64i : (64 : Int) < (l.length : Int) := by omega
    rw [hV']
    clear hV hV' hA
    obtain ⟨N, hN⟩ : ∃ N, l.length = N := ⟨_, rfl⟩
    rw [hN] at h64i hl hlc ⊢
    clear hN
    go_enter Tryz.func61, Tryz.ntmps61
    go_wp2_with fail
    go_ret2
    exact join_err (Below.refl _ _)
  · have hV' : (if jErr l l.length ≠ 0 then (jErr l l.length, (⟨#[]⟩ : ByteArray)) else (0, mkB (Lib.join ((pieceS 0 l).map (·.data.toList)) [59]))) = V := by rw [← hV]; exact (if_neg h64).symm
    obtain ⟨N, hN⟩ : ∃ N, l.length = N := ⟨_, rfl⟩
    have h64i : ¬ (64 : Int) < (N : Int) := by omega
    have hcodes := jErr_code (l := l)
    rw [hN] at hV' hl hlc hcodes ⊢
    have hN64 : N ≤ 64 := by omega
    replace hV' := hide hV'
    replace hN := hide hN
    replace hcodes := hide hcodes
    clear hV h64
    go_enter Tryz.func61, Tryz.ntmps61
    go_wp2_with fail
    go_loop [15] (fun i => ∃ j : Nat, j ≤ N ∧ i = .int .i64 j ∧ jErr l j = 0) (fun i => N - (intOf i).toNat)
    case atStart => exact ⟨0, Nat.zero_le _, rfl, rfl⟩
    case round =>
      obtain ⟨j, hj, rfl, ho⟩ := hrel
      replace ho := hide ho
      by_cases hlt : j < N
      · obtain ⟨z, hz⟩ : ∃ z, l[j]? = some z := ⟨_, List.getElem?_eq_getElem (by rw [hN.out]; exact hlt)⟩
        obtain ⟨b, off, rfl, -, hbb, k0⟩ := hA.str hz
        have hj0 : (0 : Int) ≤ (j : Int) := by omega
        have hj1 : (j : Int) < (N : Int) := by omega
        have hjc : (j : Int) ≤ (c : Int) := by omega
        have hcv := cvalid_walk z w
        have hE : jE l j = if codeB z = false then 10 else if 0 ≤ idxS z (l.take j) then 11 else 0 := by
          unfold jE; rw [List.getD_eq_getElem?_getD, hz]; rfl
        have hcon := scontains_walk (some ⟨b, off, none⟩) (l.take j) c z w (by rw [List.length_take]; omega) hA.take
        rw [List.length_take, hN.out, Nat.min_eq_left hj] at hcon
        cases hv : codeB z with
        | false =>
          have h10 : jE l j = 10 := by rw [hE, hv]; rfl
          have hVV : Hid (V = (10, ⟨#[]⟩)) := hide (by
            rw [← hV'.out, jErr_hit ho.out (by rw [h10]; decide) N hlt, h10]; rfl)
          rw [hv] at hcv
          clear hv hE hcon hA hz h10 hj
          go_wp2_with (go_at_call 84; refine hcv.mono ?_; rintro e w2 ⟨rfl, rfl⟩)
          go_ret2
          rw [hVV.out]
          exact join_err (Below.refl _ _)
        | true =>
          rw [hv] at hE hcv
          cases hx : decide (0 ≤ idxS z (l.take j)) with
          | true =>
            have h11 : jE l j = 11 := by rw [hE, if_neg (by simp), if_pos (of_decide_eq_true hx)]
            have hVV : Hid (V = (11, ⟨#[]⟩)) := hide (by
              rw [← hV'.out, jErr_hit ho.out (by rw [h11]; decide) N hlt, h11]; rfl)
            rw [hx] at hcon
            clear hv hE hA hz h11 hj hx
            go_wp2_with (first | (go_at_call 84; refine hcv.mono ?_; rintro e w2 ⟨rfl, rfl⟩) | (go_at_call 67; refine hcon.mono ?_; rintro e w2 ⟨rfl, rfl⟩))
            go_ret2
            rw [hVV.out]
            exact join_err (Below.refl _ _)
          | false =>
            have h0 : Hid (jErr l (j + 1) = 0) := hide (by rw [jErr_next ho.out, hE, if_neg (by simp), if_neg (of_decide_eq_false hx)])
            rw [hx] at hcon
            clear hv hE hA hz hj hx
            go_wp2_with (first | (go_at_call 84; refine hcv.mono ?_; rintro e w2 ⟨rfl, rfl⟩) | (go_at_call 67; refine hcon.mono ?_; rintro e w2 ⟨rfl, rfl⟩))
            go_round
            case rel => exact ⟨j + 1, by omega, by go_num, h0.out⟩
            case measure => simp [intOf]; omega
      · obtain rfl : j = N := by omega
        have hall := hcodes.out ho.out
        have hVV : Hid (V = (0, mkB (Lib.join ((pieceS 0 l).map (·.data.toList)) [59]))) := hide (by
          rw [← hV'.out, if_neg (by rw [ho.out]; simp)])
        clear hcodes hV' ho
        have hPl : ∃ P, pieceS 0 l = P := ⟨_, rfl⟩
        obtain ⟨P, hP⟩ := hPl
        rw [hP] at hVV
        have hAl := hA.lo
        go_wp2_with fail
        rw [← hN.out]
        go_loopw [0, 6] (fun v0 v6 wr => JoinSt w.heap.size w P v0 v6 wr) (fun v0 _ _ => lenV v0)
        case atStart => exact ⟨l, [], A, c, rfl, by rw [hN.out]; exact hlc, hAl, hall, hP, by rw [hN.out]; simpa using hN64, fun p hp => by simp at hp, Own.nil, Below.refl _ _⟩
        case round =>
          obtain ⟨rest, dn, A', c', rfl, hcc, hat, hco, hdn, hlen, hsz, hown, hb⟩ := hrel
          clear hA hAl hall hP hl hlc hN64 h64i
          cases rest with
          | nil =>
            have hdP : dn = P := by rw [← hdn]; simp [pieceS]
            subst hdP
            have hjl := lens59 40 (dn.map (·.data.toList)) (fun x hx => by obtain ⟨p, hp, rfl⟩ := List.mem_map.1 hx; exact hsz p hp)
            rw [List.length_map] at hjl
            simp only [List.length_nil, Nat.add_zero] at hlen
            have hjoin := joinC_walk 59 wr u6 dn hown (by omega) (by omega)
            obtain ⟨A6, c6, rfl⟩ := hown.form
            clear hown hdn hco hat hsz hjl
            rw [show ([] : List ByteArray).length = 0 from rfl]
            go_wp2_with (go_at_call 89; refine hjoin.mono ?_; rintro e w2 ⟨rfl, hb2⟩)
            go_ret2
            rw [hVV.out]
            exact ⟨rfl, ext_trans hb hb2⟩
          | cons a r =>
            obtain ⟨b, off, rfl, hbB, hbb, k0⟩ := hat.str (j := 0) rfl
            rw [Nat.add_zero] at k0
            have ha := hco a (by simp)
            have has := code_size ha
            have hatr := hat.below hb
            have hrun := fun (V : World) (hV : Below wr.heap.size wr V) => run_walk (some ⟨b, off, none⟩) a r c' V (hS.after (ext_trans hb hV)) (hatr.later hV).any (by omega) has.2
            have hr1 := runV_pos (a := a) (r := r)
            have hr2 := runV_le (a :: r)
            have k0r := ((bcell hb).1 _ _ hbb).trans k0
            have hbr : b < wr.heap.size := Nat.lt_of_lt_of_le hbb hb.size
            obtain ⟨A6, c6, rfl⟩ := hown.form
            by_cases h3 : 3 ≤ runV (a :: r)
            · have hdn2 := hdn
              rw [piece_run h3] at hdn2
              obtain ⟨m, hm⟩ : ∃ m, runV (a :: r) = m + 1 := ⟨runV (a :: r) - 1, by omega⟩
              have hz : (a :: r)[m]? = some ((a :: r).getD m ⟨#[]⟩) := by
                rw [List.getD_eq_getElem?_getD, List.getElem?_eq_getElem (by omega)]; rfl
              rw [hm] at hdn2 hrun hr2 h3
              rw [show m + 1 - 1 = m from rfl] at hdn2
              obtain ⟨z, hzz⟩ : ∃ z, (a :: r).getD m ⟨#[]⟩ = z := ⟨_, rfl⟩
              rw [hzz] at hz hdn2
              have hzs := code_size (hco z (List.mem_of_getElem? hz))
              obtain ⟨b2, off2, e2, -, -, k1⟩ := hatr.str hz
              injection e2 with e2
              injection e2 with e2 e3
              subst e2 e3
              have hT := rangeT_eq a z
              have hTs := rangeT_size a z
              obtain ⟨T, hTT⟩ : ∃ T, rangeT a z = T := ⟨_, rfl⟩
              rw [hTT] at hT hTs hdn2
              have hnext : At kStr (· < w.heap.size) w (some ⟨b, off + (m + 1), none⟩) ((a :: r).drop (m + 1)) := hat.drop_str
              have hco2 : ∀ x ∈ (a :: r).drop (m + 1), codeB x = true := fun x hx => hco x (List.mem_of_mem_drop hx)
              have hl2 : ((a :: r).drop (m + 1)).length = (a :: r).length - (m + 1) := List.length_drop
              have hTl : T.data.toList.length ≤ 40 := by rw [len_size]; omega
              have hsz2 : ∀ p ∈ dn ++ [T], p.data.toList.length ≤ 40 := fun p hp => by
                rcases List.mem_append.1 hp with h | h
                · exact hsz p h
                · simp at h; subst h; exact hTl
              obtain ⟨M, hM⟩ : ∃ M, (a :: r).length = M := ⟨_, rfl⟩
              obtain ⟨cn, hcn⟩ : ∃ cn, m + 1 = cn := ⟨_, rfl⟩
              obtain ⟨rest, hrest⟩ : ∃ rest, (a :: r).drop cn = rest := ⟨_, rfl⟩
              rw [hcn] at hdn2 hrun hr2 h3 hnext hco2 hl2
              rw [hrest] at hdn2 hnext hco2 hl2
              rw [hM] at hrun hr2 hl2 hcc hlen ⊢
              have hci : (cn : Int) - 1 = (m : Int) := by omega
              have hcw : IntKind.i64.wrap ((cn : Int) - 1) = (m : Int) := by rw [IntKind.wrap_i64]; omega
              have h3i : (3 : Int) ≤ (cn : Int) := by omega
              have hmM : (m : Int) < (M : Int) := by omega
              have hcM : (cn : Int) ≤ (M : Int) := by omega
              have hcc2 : (cn : Int) ≤ (c' : Int) := by omega
              have hM0 : (0 : Int) < (M : Int) := by omega
              have o1 : (9223372036854775807 < a.size + 2) = False := by simp; omega
              have o2 : (9223372036854775807 < a.size + 2 + z.size) = False := by simp; omega
              replace hsz2 := hide hsz2
              replace hrun := hide hrun
              clear hat hco hdn hm hz hzz hTT hrest hsz hTl hatr
              go_upto_region 13 with fail
              go_region
              all_goals
                go_wp2_with (go_at_call 88; (with_reducible refine (hrun.out _ ?_).mono ?_); (first | exact Below.refl _ _ | exact ext_drew (Below.refl _ _)); rintro e w2 ⟨rfl, hb2⟩)
              all_goals
                have hbw2 : Below wr.heap.size wr w2 := by first | exact hb2 | exact ext_trans (ext_drew (Below.refl _ _)) hb2
                have k0s := ((bcell hbw2).1 _ _ hbr).trans k0r
                have k1s := ((bcell hbw2).1 _ _ hbr).trans k1
                have hbs : b < w2.heap.size := Nat.lt_of_lt_of_le hbr hbw2.size
                have hown2 := hown.later hbw2
                have hbb2 := ext_trans hb hbw2
                clear hrun hb2 hbw2 k0 k0r k1 hown
                go_upto_region 16 with fail
                go_region
              all_goals
                have hown3 := hown2.drew
                have hbd := hbb2.drew
                go_wp2_with (at_builtin; refine wpList_own rfl _ _ rfl apd_strs (by decide) rfl (hown3.alloc _) ?d1 (by decide) ⟨w2.drew.heap.size, 0, none⟩ 1 rfl T [.string T] rfl (World.news_of_block (cs := #[.string T]) (t := 9) (fr := (0, 0)) (heap_alloc_new _ _)) (by decide) (Nat.zero_le _) ?d2 ?_)
                case d1 => omega
                case d2 => exact (ext_alloc hbd _).size
                intro v8 w8 hown8 hgrow
                have hb8 := (hown3.alloc _).below_grown (ext_alloc hbd _) (Nat.le_refl _) hgrow
                obtain ⟨A8, c8, rfl⟩ := hown8.form
                clear hgrow hown2 hown3 hbd hbb2
                go_wp2_with fail
                go_roundw
                case rel => exact join_next hl2 hcc hr2 hnext hco2 hdn2 hlen (by omega) hsz2.out hown8 hb8
                case measure => simp only [lenV]; omega
            · rw [piece_one h3] at hdn
              have hnext : At kStr (· < w.heap.size) w (some ⟨b, off + 1, none⟩) r := hat.drop_str (k := 1)
              have hco2 : ∀ x ∈ r, codeB x = true := fun x hx => hco x (List.mem_cons_of_mem _ hx)
              have hsz2 : ∀ p ∈ dn ++ [a], p.data.toList.length ≤ 40 := fun p hp => by
                rcases List.mem_append.1 hp with h | h
                · exact hsz p h
                · simp at h; subst h; rw [len_size]; omega
              have hl2 : r.length = (a :: r).length - 1 := by simp
              obtain ⟨M, hM⟩ : ∃ M, (a :: r).length = M := ⟨_, rfl⟩
              obtain ⟨cn, hcn⟩ : ∃ cn, runV (a :: r) = cn := ⟨_, rfl⟩
              have hM1 : 1 ≤ M := by rw [← hM]; simp
              rw [hcn] at hrun h3
              rw [hM] at hrun hl2 hcc hlen ⊢
              have h3i : ¬ (3 : Int) ≤ (cn : Int) := by omega
              have hM0 : (0 : Int) < (M : Int) := by omega
              have hcM : (1 : Int) ≤ (M : Int) := by omega
              have hcc2 : (1 : Int) ≤ (c' : Int) := by omega
              replace hsz2 := hide hsz2
              replace hrun := hide hrun
              clear hat hsz hatr hco hM hcn hr1 hr2
              go_upto_region 13 with fail
              go_region
              all_goals
                go_wp2_with (first | (go_at_call 88; (with_reducible refine (hrun.out _ ?_).mono ?_); (first | exact Below.refl _ _ | exact ext_drew (Below.refl _ _)); rintro e w2 ⟨rfl, hb2⟩; have hbw2 : Below wr.heap.size wr w2 := (by first | exact hb2 | exact ext_trans (ext_drew (Below.refl _ _)) hb2); have hown2 := hown.later hbw2; have hbb2 := ext_trans hb hbw2; clear hrun hb2 hbw2 hown) | (at_builtin; refine wpList_own rfl _ _ rfl apd_strs (by decide) rfl (hown2.alloc _) ?d1 (by decide) ⟨w2.heap.size, 0, none⟩ 1 rfl a [.string a] rfl (World.news_of_block (cs := #[.string a]) (t := 9) (fr := (0, 0)) (heap_alloc_new _ _)) (by decide) (Nat.zero_le _) ?d2 ?_))
                case d1 => omega
                case d2 => exact (ext_alloc hbb2 _).size
                intro v8 w8 hown8 hgrow
                have hb8 := (hown2.alloc _).below_grown (ext_alloc hbb2 _) (Nat.le_refl _) hgrow
                obtain ⟨A8, c8, rfl⟩ := hown8.form
                clear hgrow hown2 hbb2
                go_wp2_with fail
                go_roundw
                case rel => exact join_next hl2 hcc hM1 hnext hco2 hdn hlen (Nat.le_refl _) hsz2.out hown8 hb8
                case measure => simp only [lenV]; omega
end Go.Proofs.YthejgholpkeldaaGreatDoor
