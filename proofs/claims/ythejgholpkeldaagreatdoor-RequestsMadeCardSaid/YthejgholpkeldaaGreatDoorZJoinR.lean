/- Walk of codes.run: how many of the first codes are a range. Conditions: short codes; what the program's variables hold. Walk of codes.Join. Conditions: the cells; what the program's variables hold. Walk of timetableref03.written: bytes put in front of a row. Conditions: a number that is an int; a width of at most 1000. Walk of timetableref03.follows: is a code the next one. Conditions: a code of at most 16 bytes, a width of at most 100. Walk of timetableref03.Join. Conditions: the cells. -/
import Derived.Test.YthejgholpkeldaaGreatDoorShelfS
import Derived.Test.YthejgholpkeldaaGreatDoorRows
import Derived.WalkKit
import Derived.WalkSpells
import Derived.WalkLawsBesides
import Derived.BigGuardPart
import Derived.Lib.Hide
import Derived.Laws.BitsAllLaws
import Derived.Laws.BitsLemmas
import Derived.Lib.LaidTab
import Derived.Test.YthejgholpkeldaaGreatDoorShelf
import Derived.Lib.ConvBytes
import Derived.Deep.QuietTactic
import Derived.BigQuiet
import Derived.Laws.ResultCell
import Derived.RegionTactic
import Derived.BigRegion
import Derived.Deep.RegionHeld3
import Derived.Deep.DeepCutAuto
import Derived.Lib.SmallJoins
import Derived.Lib.SplitLaws
import Derived.Lib.CountLaws
import Derived.Lib.IndexMore
import Derived.Lib.Split
import Derived.Lib.Join
import Derived.Lib.ItoaNum
import Derived.Laws.AppendOwn
import Derived.Test.YthejgholpkeldaaGreatDoorShelfT
import Derived.Lib.ItoaLen
import Derived.Lib.AppendIntMem
import Derived.Deep.AppendLies
import Derived.Lib.PathFns
import Derived.Maps.Range
import Derived.Lib.OwnBridge
import Derived.Sort.OwnSorted
import Derived.Test.YthejgholpkeldaaGreatDoorZSameL
import Derived.Test.YthejgholpkeldaaGreatDoorZListC
import Derived.Test.YthejgholpkeldaaGreatDoorZWide
import Derived.Test.YthejgholpkeldaaGreatDoorZWriteT
import Derived.Test.YthejgholpkeldaaGreatDoorZIdxS
namespace Go.Proofs.YthejgholpkeldaaGreatDoor
open Go.RowKit
set_option maxRecDepth 100000

theorem preL_len {a : ByteArray} : (preL a).length ≤ a.size := by unfold preL; rw [List.length_take, len_size]; omega
theorem widT_le {a : ByteArray} : widT a ≤ a.size := by unfold widT; omega
set_option maxHeartbeats 4000000 in
theorem run_walk (A : Option Addr) (a : ByteArray) (r : List ByteArray) (c : Nat) (w : World) (hS : Std w) (hA : At kStr AnyB w A (a :: r)) (hl : (a :: r).length ≤ 64) (ha : a.size ≤ 16) :
    Calls Tryz.prog 88 #[.slice A (a :: r).length c] w fun e w' => e = .returned (.int .i64 (runV (a :: r))) ∧ Below w.heap.size w w' := by
  obtain ⟨b, off, rfl, -, hlt, k0⟩ := hA.str (j := 0) rfl
  rw [Nat.add_zero] at k0
  have hbig := hS.big
  have p1 := parts_is a w hS (by omega)
  have na := numT_le a ha
  have hpl : (preL a).length ≤ 16 := Nat.le_trans preL_len ha
  have hwl : widT a ≤ 16 := Nat.le_trans widT_le ha
  have hnf : ∀ k, ranF a k = mkB (preL a ++ wrL (numT a + k) (widT a)) := fun _ => rfl
  obtain ⟨N, hN⟩ : ∃ N, (a :: r).length = N := ⟨_, rfl⟩
  have hN1 : 0 < N := by rw [← hN]; simp
  have hrl : r.length = N - 1 := by rw [← hN]; simp
  rw [hN] at hl ⊢
  by_cases hok : tailAt a < a.size
  · rw [if_pos hok, decide_eq_true hok] at p1
    have hR : runV (a :: r) = runC a 1 r + 1 := if_pos hok
    have hRle := runC_le a r 1
    have hnext : ∀ j, 1 ≤ j → j < runC a 1 r + 1 → (a :: r)[j]? = some (ranF a j) := fun j h1 hj => by
      obtain ⟨i, rfl⟩ : ∃ i, j = i + 1 := ⟨j - 1, by omega⟩
      rw [List.getElem?_cons_succ, runC_next (a := a) (j := 1) (by omega), Nat.add_comm]
    have hstop : ∀ x, (a :: r)[runC a 1 r + 1]? = some x → x ≠ ranF a (runC a 1 r + 1) := fun x hx => by
      rw [List.getElem?_cons_succ] at hx
      rw [Nat.add_comm]; exact runC_stop hx
    rw [hR]
    obtain ⟨R, hRR⟩ : ∃ R, runC a 1 r = R := ⟨_, rfl⟩
    rw [hRR] at hRle hnext hstop ⊢
    obtain ⟨n, hn⟩ : ∃ n, numT a = n := ⟨_, rfl⟩
    obtain ⟨d, hd⟩ : ∃ d, widT a = d := ⟨_, rfl⟩
    obtain ⟨p, hp⟩ : ∃ p, preL a = p := ⟨_, rfl⟩
    obtain ⟨f, hf⟩ : ∃ f, ranF a = f := ⟨_, rfl⟩
    have hA2 : ∀ j x, (a :: r)[j]? = some x → w.cell? ⟨b, off + j, none⟩ = some (.string x) := fun j x hx => by
      obtain ⟨b', off', e, -, -, hc⟩ := hA.str hx
      injection e with e
      injection e with e1 e2
      subst e1 e2
      exact hc
    obtain ⟨L, hL⟩ : ∃ L, a :: r = L := ⟨_, rfl⟩
    rw [hL] at hN hA2 hnext hstop
    rw [hn] at na
    rw [hn, hd, hp] at p1
    rw [hd] at hwl
    rw [hp] at hpl
    simp only [hn, hd, hp, hf] at hnf hnext hstop
    replace hnf := hide hnf
    replace hnext := hide hnext
    replace hstop := hide hstop
    replace hA2 := hide hA2
    replace hN := hide hN
    clear hn hd hp hf hok hA hR hRR hL
    go_enter Tryz.func88, Tryz.ntmps88
    go_wp2_with (go_at_call 120; (with_reducible refine p1.mono ?_); rintro e w1 ⟨rfl, hb1⟩)
    go_loopw [7] (fun v wr => ∃ j, 1 ≤ j ∧ j ≤ R + 1 ∧ v = .int .i64 (j : Int) ∧ Below w.heap.size w wr) (fun v _ => R + 2 - (intOf v).toNat)
    case atStart => exact ⟨1, Nat.le_refl _, by omega, rfl, hb1⟩
    case round =>
      obtain ⟨j, hj1, hj, rfl, hb⟩ := hrel
      have hw1 : IntKind.i64.wrap ((n : Int) + (j : Int)) = ((n + j : Nat) : Int) := by rw [IntKind.wrap_i64]; omega
      have hcall := hide (fun (V : World) (hV : Below wr.heap.size wr V) (b off : Nat) (x : ByteArray) (hc : Cn1 b off ((.string x)) wr) => (written_is p (n + j) d V (hS.after (ext_trans hb hV)) (by omega) (by omega) (by omega)).mono fun e w' ⟨he, hb'⟩ => (⟨by rw [he, ← hnf.out j], ext_trans hV hb', hc.later (ext_trans hV hb')⟩ : e = Ending.returned (.string (f j)) ∧ Below wr.heap.size wr w' ∧ Cn1 b off ((.string x)) w'))
      obtain ⟨F, hF⟩ : ∃ F, f j = F := ⟨_, rfl⟩
      by_cases hlt2 : j < N
      · have hci : (j : Int) < (N : Int) := by omega
        have hc0 : (0 : Int) ≤ (j : Int) := by omega
        obtain ⟨x, hx⟩ : ∃ x, L[j]? = some x := ⟨_, List.getElem?_eq_getElem (by rw [hN.out]; exact hlt2)⟩
        have hcell := ((bcell hb).1 _ _ hlt).trans (hA2.out j x hx)
        have hSL : Cn1 b (off + j) ((.string x)) wr := hcell
        have hcall2 := hide (fun V hV => hcall.out V hV b (off + j) x hSL)
        rw [hF] at hcall2
        have hSd := hSL.drew
        have hrefl := Below.refl wr.heap.size wr
        have hbl : b < wr.heap.size := Nat.lt_of_lt_of_le hlt hb.size
        by_cases hiR : j < R + 1
        · have hxF : x = F := by
            have := hnext.out j hj1 hiR
            rw [hx] at this
            rw [← hF]; exact Option.some.inj this
          subst hxF
          clear hx hF hcall hnext hstop hA2 hnf p1 k0
          go_upto_region 3 with fail
          go_region_held3 (fun W' => W'.cell? ⟨b, off + j, none⟩ = some ((.string x))) (first | ((repeat (first | (with_reducible assumption) | (with_reducible refine Cn1.alloc ?_ _) | (with_reducible refine Cn1.drew ?_) | (with_reducible refine Cn1.set ?_ ?_ _) | omega)); done)) (first | (go_at_call 121; refine (hcall2.out _ (by repeat (first | (with_reducible assumption) | (with_reducible refine ext_alloc ?_ _) | (with_reducible refine ext_drew ?_)))).mono ?_; rintro e w2 ⟨rfl, hb2, hx2⟩))
          all_goals
            go_wp2_with fail
            go_roundw
            case rel => exact ⟨j + 1, by omega, by omega, by go_num, ext_trans hb hb2⟩
            case measure => simp [intOf]; omega
        · have hjR : Hid (j = R + 1) := hide (by omega)
          have hne := toList_no (X := x) (Y := F) (fun e => hstop.out x (by rw [← hjR.out]; exact hx) (by rw [← hjR.out, hF]; exact dat_inj e))
          clear hx hF hcall hnext hstop hA2 hnf p1 k0 hiR
          go_upto_region 3 with fail
          go_region_held3 (fun W' => W'.cell? ⟨b, off + j, none⟩ = some ((.string x))) (first | ((repeat (first | (with_reducible assumption) | (with_reducible refine Cn1.alloc ?_ _) | (with_reducible refine Cn1.drew ?_) | (with_reducible refine Cn1.set ?_ ?_ _) | omega)); done)) (first | (go_at_call 121; refine (hcall2.out _ (by repeat (first | (with_reducible assumption) | (with_reducible refine ext_alloc ?_ _) | (with_reducible refine ext_drew ?_)))).mono ?_; rintro e w2 ⟨rfl, hb2, hx2⟩))
          all_goals
            go_wp2_with fail
            go_ret
            exact ⟨by have e := hjR.out; subst e; rfl, ext_trans hb hb2⟩
      · have hjR : Hid (j = R + 1) := hide (by omega)
        have hci : ¬ (j : Int) < (N : Int) := by omega
        clear hF hcall hnext hstop hA2 hnf p1 k0
        go_upto_region 3 with fail
        go_region
        all_goals
          go_wp2
          go_ret
          exact ⟨by have e := hjR.out; subst e; rfl, by first | exact hb | exact ext_drew hb⟩
  · rw [if_neg hok, decide_eq_false hok] at p1
    have hR : runV (a :: r) = 1 := if_neg hok
    rw [hR]
    clear hok hA hR hnf hN
    go_enter Tryz.func88, Tryz.ntmps88
    go_wp2_with (go_at_call 120; (with_reducible refine p1.mono ?_); rintro e w1 ⟨rfl, hb1⟩)
    go_loopw [7] (fun v wr => v = .int .i64 1 ∧ Below w.heap.size w wr) (fun _ _ => 0)
    case atStart => exact ⟨rfl, hb1⟩
    case round =>
      obtain ⟨rfl, hb⟩ := hrel
      go_upto_region 3 with fail
      go_region
      all_goals
        go_wp2
        go_ret
        exact ⟨rfl, by first | exact hb | exact ext_drew hb⟩
end Go.Proofs.YthejgholpkeldaaGreatDoor

namespace Go.Proofs.YthejgholpkeldaaGreatDoor
open Go.RowKit
set_option maxRecDepth 100000

def lenV : Value → Nat
  | .slice _ n _ => n
  | _ => 0
theorem At.drop_str {S : Nat → Prop} {w : World} {b off k : Nat} {l : List ByteArray} (h : At kStr S w (some ⟨b, off, none⟩) l) : At kStr S w (some ⟨b, off + k, none⟩) (l.drop k) := by
  intro hn
  rw [List.length_drop] at hn
  obtain ⟨b', off', e, hs, hlt, hc⟩ := h (by omega)
  injection e with e
  injection e with e1 e2
  subst e1 e2
  refine ⟨b, off + k, rfl, hs, hlt, fun j x hx => ?_⟩
  rw [List.getElem?_drop] at hx
  obtain ⟨vs, hr, hcell⟩ := hc (k + j) x hx
  refine ⟨vs, hr, fun i u hu => ?_⟩
  have := hcell i u hu
  rw [show off + (k + j) * kStr.k + i = off + k + j * kStr.k + i from by simp only [show kStr.k = 1 from rfl]; omega] at this
  exact this
theorem rangeT_eq (A B : ByteArray) : A ++ (⟨#[46, 46]⟩ : ByteArray) ++ B = rangeT A B := by
  refine dat_inj ?_
  unfold rangeT
  rw [mkB_list]
  simp
theorem rangeT_size (A B : ByteArray) : (rangeT A B).size = A.size + 2 + B.size := by
  unfold rangeT
  rw [mkB_size, List.length_append, len_size]
  simp only [List.length_cons, len_size]
  omega
def JoinIs (r : Nat × ByteArray) (w : World) (e : Ending) (w' : World) : Prop := e = .returned (.tuple #[.string r.2, .int .i64 (r.1 : Int)]) ∧ Below w.heap.size w w'
theorem join_err {n : Nat} {w w' : World} (hb : Below w.heap.size w w') : JoinIs (n, ⟨#[]⟩) w (.returned (.tuple #[.string ⟨#[]⟩, .int .i64 (n : Int)])) w' := ⟨rfl, hb⟩
def JoinSt (B : Nat) (w : World) (P : List ByteArray) (v0 v6 : Value) (wr : World) : Prop :=
  ∃ (rest dn : List ByteArray) (A : Option Addr) (c : Nat), v0 = .slice A rest.length c ∧ rest.length ≤ c ∧ At kStr (· < B) w A rest ∧ (∀ x ∈ rest, codeB x = true) ∧ dn ++ pieceS 0 rest = P ∧ dn.length + rest.length ≤ 64 ∧ (∀ p ∈ dn, p.data.toList.length ≤ 40) ∧ Own kStr 9 [] 0 B wr v6 dn ∧ Below B w wr
theorem join_next {B M cn c' b off c8 : Nat} {w w8 : World} {P rest dn : List ByteArray} {T : ByteArray} {A8 : Option Addr} (hl2 : rest.length = M - cn) (hcc : M ≤ c') (hr2 : cn ≤ M) (hnext : At kStr (· < B) w (some ⟨b, off + cn, none⟩) rest) (hco : ∀ x ∈ rest, codeB x = true) (hdn : dn ++ T :: pieceS 0 rest = P) (hlen : dn.length + M ≤ 64) (h1 : 1 ≤ cn) (hsz : ∀ p ∈ dn ++ [T], p.data.toList.length ≤ 40) (hown : Own kStr 9 [] 0 B w8 (.slice A8 (dn ++ [T]).length c8) (dn ++ [T])) (hb : Below B w w8) :
    JoinSt B w P (.slice (if c' = cn then some ⟨b, off, none⟩ else some ⟨b, off + cn, none⟩) (M - cn) (c' - cn)) (.slice A8 (dn ++ [T]).length c8) w8 := by
  refine ⟨rest, dn ++ [T], _, _, by rw [hl2], by omega, ?_, hco, by rw [← hdn]; simp, by rw [List.length_append, hl2]; simp; omega, hsz, hown, hb⟩
  by_cases e : c' = cn
  · intro hn; omega
  · rw [if_neg e]; exact hnext
set_option maxHeartbeats 8000000 in
theorem cjoin_walk (A : Option Addr) (l : List ByteArray) (c : Nat) (w : World) (hS : Std w) (hA : At kStr AnyB w A l) (hl : l.length ≤ 9223372036854775807) (hlc : l.length ≤ c) :
    Calls Tryz.prog 61 #[.slice A l.length c] w fun e w' => JoinIs (joinV l) w e w' := by
  obtain ⟨V, hV⟩ : ∃ V, joinV l = V := ⟨_, rfl⟩
  rw [hV]
  have hbig := hS.big
  by_cases h64 : 64 < l.length
  · have hV' : V = (2, ⟨#[]⟩) := by rw [← hV]; exact if_pos h64
    have h64i : (64 : Int) < (l.length : Int) := by omega
    rw [hV']
    clear hV hV' hA
    obtain ⟨N, hN⟩ : ∃ N, l.length = N := ⟨_, rfl⟩
    rw [hN] at h64i hl hlc ⊢
    clear hN
    go_enter Tryz.func61, Tryz.ntmps61
    go_wp2_with fail
    go_ret2
    exact join_err (Below.refl _ _)
  · have hV' : (if jErr l l.length ≠ 0 then (jErr l l.length, (⟨#[]⟩ : ByteArray)) else (0, mkB (Lib.join ((pieceS 0 l).map (·.data.toList)) [59]))) = V := by rw [← hV]; exact (if_neg h64).symm
    obtain ⟨N, hN⟩ : ∃ N, l.length = N := ⟨_, rfl⟩
    have h64i : ¬ (64 : Int) < (N : Int) := by omega
    have hcodes := jErr_code (l := l)
    rw [hN] at hV' hl hlc hcodes ⊢
    have hN64 : N ≤ 64 := by omega
    replace hV' := hide hV'
    replace hN := hide hN
    replace hcodes := hide hcodes
    clear hV h64
    go_enter Tryz.func61, Tryz.ntmps61
    go_wp2_with fail
    go_loop [15] (fun i => ∃ j : Nat, j ≤ N ∧ i = .int .i64 j ∧ jErr l j = 0) (fun i => N - (intOf i).toNat)
    case atStart => exact ⟨0, Nat.zero_le _, rfl, rfl⟩
    case round =>
      obtain ⟨j, hj, rfl, ho⟩ := hrel
      replace ho := hide ho
      by_cases hlt : j < N
      · obtain ⟨z, hz⟩ : ∃ z, l[j]? = some z := ⟨_, List.getElem?_eq_getElem (by rw [hN.out]; exact hlt)⟩
        obtain ⟨b, off, rfl, -, hbb, k0⟩ := hA.str hz
        have hj0 : (0 : Int) ≤ (j : Int) := by omega
        have hj1 : (j : Int) < (N : Int) := by omega
        have hjc : (j : Int) ≤ (c : Int) := by omega
        have hcv := cvalid_walk z w
        have hE : jE l j = if codeB z = false then 10 else if 0 ≤ idxS z (l.take j) then 11 else 0 := by
          unfold jE; rw [List.getD_eq_getElem?_getD, hz]; rfl
        have hcon := scontains_walk (some ⟨b, off, none⟩) (l.take j) c z w (by rw [List.length_take]; omega) hA.take
        rw [List.length_take, hN.out, Nat.min_eq_left hj] at hcon
        cases hv : codeB z with
        | false =>
          have h10 : jE l j = 10 := by rw [hE, hv]; rfl
          have hVV : Hid (V = (10, ⟨#[]⟩)) := hide (by
            rw [← hV'.out, jErr_hit ho.out (by rw [h10]; decide) N hlt, h10]; rfl)
          rw [hv] at hcv
          clear hv hE hcon hA hz h10 hj
          go_wp2_with (go_at_call 84; refine hcv.mono ?_; rintro e w2 ⟨rfl, rfl⟩)
          go_ret2
          rw [hVV.out]
          exact join_err (Below.refl _ _)
        | true =>
          rw [hv] at hE hcv
          cases hx : decide (0 ≤ idxS z (l.take j)) with
          | true =>
            have h11 : jE l j = 11 := by rw [hE, if_neg (by simp), if_pos (of_decide_eq_true hx)]
            have hVV : Hid (V = (11, ⟨#[]⟩)) := hide (by
              rw [← hV'.out, jErr_hit ho.out (by rw [h11]; decide) N hlt, h11]; rfl)
            rw [hx] at hcon
            clear hv hE hA hz h11 hj hx
            go_wp2_with (first | (go_at_call 84; refine hcv.mono ?_; rintro e w2 ⟨rfl, rfl⟩) | (go_at_call 67; refine hcon.mono ?_; rintro e w2 ⟨rfl, rfl⟩))
            go_ret2
            rw [hVV.out]
            exact join_err (Below.refl _ _)
          | false =>
            have h0 : Hid (jErr l (j + 1) = 0) := hide (by rw [jErr_next ho.out, hE, if_neg (by simp), if_neg (of_decide_eq_false hx)])
            rw [hx] at hcon
            clear hv hE hA hz hj hx
            go_wp2_with (first | (go_at_call 84; refine hcv.mono ?_; rintro e w2 ⟨rfl, rfl⟩) | (go_at_call 67; refine hcon.mono ?_; rintro e w2 ⟨rfl, rfl⟩))
            go_round
            case rel => exact ⟨j + 1, by omega, by go_num, h0.out⟩
            case measure => simp [intOf]; omega
      · obtain rfl : j = N := by omega
        have hall := hcodes.out ho.out
        have hVV : Hid (V = (0, mkB (Lib.join ((pieceS 0 l).map (·.data.toList)) [59]))) := hide (by
          rw [← hV'.out, if_neg (by rw [ho.out]; simp)])
        clear hcodes hV' ho
        have hPl : ∃ P, pieceS 0 l = P := ⟨_, rfl⟩
        obtain ⟨P, hP⟩ := hPl
        rw [hP] at hVV
        have hAl := hA.lo
        go_wp2_with fail
        rw [← hN.out]
        go_loopw [0, 6] (fun v0 v6 wr => JoinSt w.heap.size w P v0 v6 wr) (fun v0 _ _ => lenV v0)
        case atStart => exact ⟨l, [], A, c, rfl, by rw [hN.out]; exact hlc, hAl, hall, hP, by rw [hN.out]; simpa using hN64, fun p hp => by simp at hp, Own.nil, Below.refl _ _⟩
        case round =>
          obtain ⟨rest, dn, A', c', rfl, hcc, hat, hco, hdn, hlen, hsz, hown, hb⟩ := hrel
          clear hA hAl hall hP hl hlc hN64 h64i
          cases rest with
          | nil =>
            have hdP : dn = P := by rw [← hdn]; simp [pieceS]
            subst hdP
            have hjl := lens59 40 (dn.map (·.data.toList)) (fun x hx => by obtain ⟨p, hp, rfl⟩ := List.mem_map.1 hx; exact hsz p hp)
            rw [List.length_map] at hjl
            simp only [List.length_nil, Nat.add_zero] at hlen
            have hjoin := joinC_walk 59 wr u6 dn hown (by omega) (by omega)
            obtain ⟨A6, c6, rfl⟩ := hown.form
            clear hown hdn hco hat hsz hjl
            rw [show ([] : List ByteArray).length = 0 from rfl]
            go_wp2_with (go_at_call 89; refine hjoin.mono ?_; rintro e w2 ⟨rfl, hb2⟩)
            go_ret2
            rw [hVV.out]
            exact ⟨rfl, ext_trans hb hb2⟩
          | cons a r =>
            obtain ⟨b, off, rfl, hbB, hbb, k0⟩ := hat.str (j := 0) rfl
            rw [Nat.add_zero] at k0
            have ha := hco a (by simp)
            have has := code_size ha
            have hatr := hat.below hb
            have hrun := fun (V : World) (hV : Below wr.heap.size wr V) => run_walk (some ⟨b, off, none⟩) a r c' V (hS.after (ext_trans hb hV)) (hatr.later hV).any (by omega) has.2
            have hr1 := runV_pos (a := a) (r := r)
            have hr2 := runV_le (a :: r)
            have k0r := ((bcell hb).1 _ _ hbb).trans k0
            have hbr : b < wr.heap.size := Nat.lt_of_lt_of_le hbb hb.size
            obtain ⟨A6, c6, rfl⟩ := hown.form
            by_cases h3 : 3 ≤ runV (a :: r)
            · have hdn2 := hdn
              rw [piece_run h3] at hdn2
              obtain ⟨m, hm⟩ : ∃ m, runV (a :: r) = m + 1 := ⟨runV (a :: r) - 1, by omega⟩
              have hz : (a :: r)[m]? = some ((a :: r).getD m ⟨#[]⟩) := by
                rw [List.getD_eq_getElem?_getD, List.getElem?_eq_getElem (by omega)]; rfl
              rw [hm] at hdn2 hrun hr2 h3
              rw [show m + 1 - 1 = m from rfl] at hdn2
              obtain ⟨z, hzz⟩ : ∃ z, (a :: r).getD m ⟨#[]⟩ = z := ⟨_, rfl⟩
              rw [hzz] at hz hdn2
              have hzs := code_size (hco z (List.mem_of_getElem? hz))
              obtain ⟨b2, off2, e2, -, -, k1⟩ := hatr.str hz
              injection e2 with e2
              injection e2 with e2 e3
              subst e2 e3
              have hT := rangeT_eq a z
              have hTs := rangeT_size a z
              obtain ⟨T, hTT⟩ : ∃ T, rangeT a z = T := ⟨_, rfl⟩
              rw [hTT] at hT hTs hdn2
              have hnext : At kStr (· < w.heap.size) w (some ⟨b, off + (m + 1), none⟩) ((a :: r).drop (m + 1)) := hat.drop_str
              have hco2 : ∀ x ∈ (a :: r).drop (m + 1), codeB x = true := fun x hx => hco x (List.mem_of_mem_drop hx)
              have hl2 : ((a :: r).drop (m + 1)).length = (a :: r).length - (m + 1) := List.length_drop
              have hTl : T.data.toList.length ≤ 40 := by rw [len_size]; omega
              have hsz2 : ∀ p ∈ dn ++ [T], p.data.toList.length ≤ 40 := fun p hp => by
                rcases List.mem_append.1 hp with h | h
                · exact hsz p h
                · simp at h; subst h; exact hTl
              obtain ⟨M, hM⟩ : ∃ M, (a :: r).length = M := ⟨_, rfl⟩
              obtain ⟨cn, hcn⟩ : ∃ cn, m + 1 = cn := ⟨_, rfl⟩
              obtain ⟨rest, hrest⟩ : ∃ rest, (a :: r).drop cn = rest := ⟨_, rfl⟩
              rw [hcn] at hdn2 hrun hr2 h3 hnext hco2 hl2
              rw [hrest] at hdn2 hnext hco2 hl2
              rw [hM] at hrun hr2 hl2 hcc hlen ⊢
              have hci : (cn : Int) - 1 = (m : Int) := by omega
              have hcw : IntKind.i64.wrap ((cn : Int) - 1) = (m : Int) := by rw [IntKind.wrap_i64]; omega
              have h3i : (3 : Int) ≤ (cn : Int) := by omega
              have hmM : (m : Int) < (M : Int) := by omega
              have hcM : (cn : Int) ≤ (M : Int) := by omega
              have hcc2 : (cn : Int) ≤ (c' : Int) := by omega
              have hM0 : (0 : Int) < (M : Int) := by omega
              have o1 : (9223372036854775807 < a.size + 2) = False := by simp; omega
              have o2 : (9223372036854775807 < a.size + 2 + z.size) = False := by simp; omega
              replace hsz2 := hide hsz2
              replace hrun := hide hrun
              clear hat hco hdn hm hz hzz hTT hrest hsz hTl hatr
              go_upto_region 13 with fail
              go_region
              all_goals
                go_wp2_with (go_at_call 88; (with_reducible refine (hrun.out _ ?_).mono ?_); (first | exact Below.refl _ _ | exact ext_drew (Below.refl _ _)); rintro e w2 ⟨rfl, hb2⟩)
              all_goals
                have hbw2 : Below wr.heap.size wr w2 := by first | exact hb2 | exact ext_trans (ext_drew (Below.refl _ _)) hb2
                have k0s := ((bcell hbw2).1 _ _ hbr).trans k0r
                have k1s := ((bcell hbw2).1 _ _ hbr).trans k1
                have hbs : b < w2.heap.size := Nat.lt_of_lt_of_le hbr hbw2.size
                have hown2 := hown.later hbw2
                have hbb2 := ext_trans hb hbw2
                clear hrun hb2 hbw2 k0 k0r k1 hown
                go_upto_region 16 with fail
                go_region
              all_goals
                have hown3 := hown2.drew
                have hbd := hbb2.drew
                go_wp2_with (at_builtin; refine wpList_own rfl _ _ rfl apd_strs (by decide) rfl (hown3.alloc _) ?d1 (by decide) ⟨w2.drew.heap.size, 0, none⟩ 1 rfl T [.string T] rfl (World.news_of_block (cs := #[.string T]) (t := 9) (fr := (0, 0)) (heap_alloc_new _ _)) (by decide) (Nat.zero_le _) ?d2 ?_)
                case d1 => omega
                case d2 => exact (ext_alloc hbd _).size
                intro v8 w8 hown8 hgrow
                have hb8 := (hown3.alloc _).below_grown (ext_alloc hbd _) (Nat.le_refl _) hgrow
                obtain ⟨A8, c8, rfl⟩ := hown8.form
                clear hgrow hown2 hown3 hbd hbb2
                go_wp2_with fail
                go_roundw
                case rel => exact join_next hl2 hcc hr2 hnext hco2 hdn2 hlen (by omega) hsz2.out hown8 hb8
                case measure => simp only [lenV]; omega
            · rw [piece_one h3] at hdn
              have hnext : At kStr (· < w.heap.size) w (some ⟨b, off + 1, none⟩) r := hat.drop_str (k := 1)
              have hco2 : ∀ x ∈ r, codeB x = true := fun x hx => hco x (List.mem_cons_of_mem _ hx)
              have hsz2 : ∀ p ∈ dn ++ [a], p.data.toList.length ≤ 40 := fun p hp => by
                rcases List.mem_append.1 hp with h | h
                · exact hsz p h
                · simp at h; subst h; rw [len_size]; omega
              have hl2 : r.length = (a :: r).length - 1 := by simp
              obtain ⟨M, hM⟩ : ∃ M, (a :: r).length = M := ⟨_, rfl⟩
              obtain ⟨cn, hcn⟩ : ∃ cn, runV (a :: r) = cn := ⟨_, rfl⟩
              have hM1 : 1 ≤ M := by rw [← hM]; simp
              rw [hcn] at hrun h3
              rw [hM] at hrun hl2 hcc hlen ⊢
              have h3i : ¬ (3 : Int) ≤ (cn : Int) := by omega
              have hM0 : (0 : Int) < (M : Int) := by omega
              have hcM : (1 : Int) ≤ (M : Int) := by omega
              have hcc2 : (1 : Int) ≤ (c' : Int) := by omega
              replace hsz2 := hide hsz2
              replace hrun := hide hrun
              clear hat hsz hatr hco hM hcn hr1 hr2
              go_upto_region 13 with fail
              go_region
              all_goals
                go_wp2_with (first | (go_at_call 88; (with_reducible refine (hrun.out _ ?_).mono ?_); (first | exact Below.refl _ _ | exact ext_drew (Below.refl _ _)); rintro e w2 ⟨rfl, hb2⟩; have hbw2 : Below wr.heap.size wr w2 := (by first | exact hb2 | exact ext_trans (ext_drew (Below.refl _ _)) hb2); have hown2 := hown.later hbw2; have hbb2 := ext_trans hb hbw2; clear hrun hb2 hbw2 hown) | (at_builtin; refine wpList_own rfl _ _ rfl apd_strs (by decide) rfl (hown2.alloc _) ?d1 (by decide) ⟨w2.heap.size, 0, none⟩ 1 rfl a [.string a] rfl (World.news_of_block (cs := #[.string a]) (t := 9) (fr := (0, 0)) (heap_alloc_new _ _)) (by decide) (Nat.zero_le _) ?d2 ?_))
                case d1 => omega
                case d2 => exact (ext_alloc hbb2 _).size
                intro v8 w8 hown8 hgrow
                have hb8 := (hown2.alloc _).below_grown (ext_alloc hbb2 _) (Nat.le_refl _) hgrow
                obtain ⟨A8, c8, rfl⟩ := hown8.form
                clear hgrow hown2 hbb2
                go_wp2_with fail
                go_roundw
                case rel => exact join_next hl2 hcc hM1 hnext hco2 hdn hlen (Nat.le_refl _) hsz2.out hown8 hb8
                case measure => simp only [lenV]; omega
end Go.Proofs.YthejgholpkeldaaGreatDoor

namespace Go.Proofs.YthejgholpkeldaaGreatDoor
open Go.RowKit
set_option maxRecDepth 100000

def kU8 : Kind UInt8 := ⟨1, fun _ _ a vs => vs = [.int .u8 (a.toNat : Int)], fun h _ => h, fun h => by rw [h]; rfl, fun h u hu => by rw [h] at hu; simp at hu; subst hu; rfl⟩
theorem apd_u8 : Apd Tryz.prog 46 5 1 1 := apd Tryz.underlying46 (z := .int .u8 0) (by kernel_rfl) rfl
/-- A row that is one byte. -/
theorem own_byte (w : World) (B : Nat) (hB : B ≤ w.heap.size) (c : UInt8) (x : Int) (hx : x = (c.toNat : Int)) : Own kU8 5 [] 0 B (w.alloc (.cells #[.int .u8 x] 5)) (.slice (some ⟨w.heap.size, 0, none⟩) 1 1) [c] := by
  subst hx
  refine ⟨[[.int .u8 (c.toNat : Int)]], rfl, ⟨rfl, .inr ⟨w.heap.size, 1, #[.int .u8 (c.toNat : Int)], rfl, hB, heap_alloc_new _ _, Nat.le_refl _, by decide, rfl, rfl⟩⟩, ?_⟩
  intro j x vs hj hv
  match j, hj, hv with
  | 0, hj, hv =>
    obtain rfl := Option.some.inj hj
    exact (Option.some.inj hv).symm
/-- The cells of a row of bytes. -/
theorem own_bytes {B : Nat} {w : World} {v : Value} {L : List UInt8} (h : Own kU8 5 [] 0 B w v L) (h0 : 0 < L.length) : ∃ g cap, v = .slice (some ⟨g, 0, none⟩) L.length cap ∧ g < w.heap.size ∧ ∀ j (hj : j < L.length), w.cell? ⟨g, j, none⟩ = some (.int .u8 (L[j].toNat : Int)) := by
  have hat := h.any
  obtain ⟨vss, e1, e2, e3⟩ := h
  obtain ⟨A, c, e, -, ha⟩ := hat
  rcases e2.2 with ⟨-, h1⟩ | ⟨g, cap, cur, rfl, -⟩
  · omega
  · injection e with q1 q2 q3
    subst q1 q3
    obtain ⟨b, off, vs, q, -, hlt, -⟩ := ha.get (j := 0) (List.getElem?_eq_getElem h0)
    injection q with q
    injection q with q1 q2
    subst q1 q2
    refine ⟨_, _, rfl, hlt, fun j hj => ?_⟩
    obtain ⟨b', off', vs, q', -, -, hr, hc⟩ := ha.get (List.getElem?_eq_getElem hj)
    injection q' with q'
    injection q' with q1' q2'
    subst q1' q2'
    have hr : vs = [.int .u8 (L[j].toNat : Int)] := hr
    subst hr
    have := hc 0 _ rfl
    simpa [kU8] using this
theorem flat_bytes (l : List UInt8) : (l.map fun b => [Value.int .u8 (b.toNat : Int)]).flatten = l.map fun b => Value.int .u8 (b.toNat : Int) := by
  induction l with
  | nil => rfl
  | cons x l ih => rw [List.map_cons, List.flatten_cons, ih]; rfl
theorem own_front {B : Nat} {w : World} {v : Value} {L : List UInt8} (h : Own kU8 5 [] 0 B w v L) (h0 : 0 < L.length) : ∃ g cap, v = .slice (some ⟨g, 0, none⟩) L.length cap ∧ g < w.heap.size ∧ ∀ j u, (L.map fun b => [Value.int .u8 (b.toNat : Int)]).flatten[j]? = some u → w.cell? ((⟨g, 0, none⟩ : Addr).add j) = some u := by
  obtain ⟨g, cap, rfl, hg, hc⟩ := own_bytes h h0
  refine ⟨g, cap, rfl, hg, fun j u hu => ?_⟩
  rw [flat_bytes, List.getElem?_map] at hu
  obtain ⟨x, hx, rfl⟩ := Option.map_eq_some_iff.1 hu
  obtain ⟨hl, rfl⟩ := List.getElem?_eq_some_iff.1 hx
  rw [Addr.add_lit, Nat.zero_add]
  exact hc j hl
theorem rep_bytes {S : Nat → Prop} {w : World} {l : List UInt8} : ∀ (j : Nat) (x : UInt8) (vs : List Value), l[j]? = some x → (l.map fun b => [Value.int .u8 (b.toNat : Int)])[j]? = some vs → kU8.rep S w x vs := by
  intro j x vs h1 h2
  rw [List.getElem?_map, h1] at h2
  exact (Option.some.inj h2).symm
set_option maxHeartbeats 4000000 in
theorem r3written_walk (n width : Nat) (w : World) (hn : n ≤ 9223372036854775807) (hw : width ≤ 1000) :
    Calls Tryz.prog 80 #[.int .i64 n, .int .i64 width] w fun e w' => e = .returned (.string (mkB (wrL n width))) ∧ Below w.heap.size w w' := by
  have hlen := Lib.itoa_length_le n (by omega) (by omega)
  rw [Lib.itoa_nonneg] at hlen
  obtain ⟨F, hF⟩ : ∃ F, Lib.decDigits n = F := ⟨_, rfl⟩
  have hfin : Hid (wrL n width = List.replicate (width - F.length) 48 ++ F) := hide (by rw [wrL_eq, ← hF, Lib.decDigits_length])
  have hst : preN n [] = F := by rw [preN_start, hF]
  have hF1 : 1 ≤ F.length := by rw [← hF, Lib.decDigits_length]; exact Lib.nDigits_pos n
  rw [hF] at hlen
  clear hF
  obtain ⟨W, hWr⟩ : ∃ W, mkB (wrL n width) = W := ⟨_, rfl⟩
  rw [hWr]
  replace hWr := hide hWr
  go_enter Tryz.func80, Tryz.ntmps80
  go_wp2
  go_loopw [0, 5] (fun i v wr => ∃ (m : Nat) (L : List UInt8), m ≤ 9223372036854775807 ∧ i = .int .i64 m ∧ Own kU8 5 [] 0 w.heap.size wr v L ∧ (L = [] → v = .slice none 0 0) ∧ preN m L = F ∧ Below w.heap.size w wr) (fun i v _ => (intOf i).toNat + (1 - lenV v))
  case atStart => exact ⟨n, [], hn, rfl, Own.nil, fun _ => rfl, hst, Below.refl _ _⟩
  case round =>
    obtain ⟨m, L, hm, rfl, hown, hnil, hp, hb⟩ := hrel
    have hLl := preN_len m L
    rw [hp] at hLl
    have hL21 : L.length ≤ 21 := Nat.le_trans hLl hlen
    by_cases hc : m = 0 ∧ L ≠ []
    · obtain ⟨rfl, hx⟩ := hc
      rw [preN_end hx] at hp
      subst hp
      have hL0 : 0 < L.length := Nat.pos_of_ne_zero fun e => hx (List.eq_nil_of_length_eq_zero e)
      obtain ⟨g, cap, rfl, -, -⟩ := own_front hown hL0
      have hLi : ((L.length : Int) == 0) = false := by simpa using hx
      clear hst hnil hLl hx
      go_wp2_with fail
      rw [show ((0 : Nat) : Int) = 0 from rfl]
      go_loopw [5] (fun v wr => ∃ (k : Nat) (Y : List UInt8), Own kU8 5 [] 0 w.heap.size wr v Y ∧ Y.length = k + L.length ∧ Y = List.replicate k 48 ++ L ∧ (k = 0 ∨ Y.length ≤ width) ∧ Below w.heap.size w wr) (fun v _ => width - lenV v)
      case atStart => exact ⟨0, L, hown, by omega, rfl, .inl rfl, hb⟩
      case round =>
        obtain ⟨k, Y, hownY, hYs, hY, hk, hb⟩ := hrel
        have hY0 : 0 < Y.length := by omega
        clear hown hLi hL21
        by_cases hlt : Y.length < width
        · have hli : (Y.length : Int) < (width : Int) := by omega
          obtain ⟨g, cap, rfl, -, hnews⟩ := own_front (hownY.alloc (.cells #[.int .u8 48] 5)) hY0
          have hn : Hid (48 :: Y = List.replicate (k + 1) 48 ++ L) := hide (by rw [← rep_snoc, ← hY])
          replace hYs := hide hYs
          clear hY hownY
          go_wp2_with (at_builtin; refine wpList_own_many rfl _ _ rfl apd_u8 (by decide) rfl (own_byte wr w.heap.size hb.size 48 48 rfl) Y (Y.map fun b => [Value.int .u8 (b.toNat : Int)]) (List.length_map _) ?d1 (by decide) ⟨g, 0, none⟩ Y.length cap rfl rfl rep_bytes hnews (by decide) (Nat.zero_le _) ?d2 ?_)
          case d1 => simp; omega
          case d2 => exact (ext_alloc hb _).size
          intro v8 w8 hown8 hgrow
          have hb8 := (own_byte wr w.heap.size hb.size 48 48 rfl).below_grown (ext_alloc hb _) (Nat.le_refl _) hgrow
          clear hgrow hnews
          obtain ⟨A8, c8, rfl⟩ := hown8.form
          go_wp2_with fail
          go_roundw
          case rel => exact ⟨k + 1, 48 :: Y, hown8, by rw [List.length_cons, hYs.out]; omega, hn.out, .inr (by rw [List.length_cons]; omega), hb8⟩
          case measure => simp only [lenV, List.length_cons]; omega
        · have hli : ¬ (Y.length : Int) < (width : Int) := by omega
          obtain ⟨g, cap, rfl, hg, hcells⟩ := own_bytes hownY hY0
          have hfe : (⟨Y.toArray⟩ : ByteArray) = W := by
            rw [← hWr.out, hfin.out]
            unfold mkB
            rw [hY, show width - L.length = k from by omega]
          have hconv : (convert 46 9 (.slice (some ⟨g, 0, none⟩) Y.length cap)).run Tryz.prog wr = .ok (.string ⟨Y.toArray⟩) wr :=
            run_convert_bytes_back _ 46 9 5 ⟨g, 0, none⟩ cap Y Tryz.underlying46 Tryz.underlying5 Tryz.underlying9 (fun j hj => by
              rw [Addr.add_lit, Nat.zero_add]; exact hcells j hj)
          rw [hfe] at hconv
          replace hYs := hide hYs
          clear hY hfin hownY hcells hfe
          go_wp2_with fail
          go_ret
          exact ⟨rfl, hb⟩
    · have hcc : m ≠ 0 ∨ L = [] := by
        by_cases h : m = 0
        · exact .inr (Classical.byContradiction fun hx => hc ⟨h, hx⟩)
        · exact .inl h
      have hstep := preN_step hcc
      rw [hp] at hstep
      obtain ⟨ch, hch⟩ : ∃ c, UInt8.ofNat (48 + m % 10) = c := ⟨_, rfl⟩
      have hchi : 48 + (m : Int) % 10 = (ch.toNat : Int) := by rw [← hch, UInt8.toNat_ofNat']; omega
      have hm0 : (0 : Int) ≤ (m : Int) := by omega
      rw [hch] at hstep
      clear hch hst hp hc
      by_cases hL : L = []
      · subst hL
        obtain rfl := hnil rfl
        clear hnil hcc hown
        by_cases hmz : 0 < m
        · have hown := own_byte wr w.heap.size hb.size ch _ rfl
          have hmi : (0 : Int) < (m : Int) := by omega
          go_wp2_with fail
          go_roundw
          case rel => exact ⟨m / 10, [ch], by omega, by go_num, hown, fun h => by simp at h, hstep, ext_alloc hb _⟩
          case measure => simp only [intOf, lenV]; omega
        · obtain rfl : m = 0 := by omega
          have hown := own_byte wr w.heap.size hb.size ch 48 (by omega)
          go_wp2_with fail
          go_roundw
          case rel => exact ⟨0, [ch], by omega, by go_num, hown, fun h => by simp at h, hstep, ext_alloc hb _⟩
          case measure => simp [intOf, lenV]
      · have hL0 : 0 < L.length := Nat.pos_of_ne_zero fun e => hL (List.eq_nil_of_length_eq_zero e)
        have hmz : 0 < m := by rcases hcc with h | h; omega; exact absurd h hL
        have hmi : (0 : Int) < (m : Int) := by omega
        obtain ⟨g, cap, rfl, -, hnews⟩ := own_front (hown.alloc (.cells #[.int .u8 (ch.toNat : Int)] 5)) hL0
        clear hnil hcc hown
        go_wp2_with (at_builtin; refine wpList_own_many rfl _ _ rfl apd_u8 (by decide) rfl (own_byte wr w.heap.size hb.size ch _ rfl) L (L.map fun b => [Value.int .u8 (b.toNat : Int)]) (List.length_map _) ?d1 (by decide) ⟨g, 0, none⟩ L.length cap rfl rfl rep_bytes hnews (by decide) (Nat.zero_le _) ?d2 ?_)
        case d1 => simp; omega
        case d2 => exact (ext_alloc hb _).size
        intro v8 w8 hown8 hgrow
        have hb8 := (own_byte wr w.heap.size hb.size ch _ rfl).below_grown (ext_alloc hb _) (Nat.le_refl _) hgrow
        clear hgrow hnews
        obtain ⟨A8, c8, rfl⟩ := hown8.form
        go_wp2_with fail
        go_roundw
        case rel => exact ⟨m / 10, ch :: L, by omega, by go_num, hown8, fun h => by simp at h, hstep, hb8⟩
        case measure => simp only [intOf, lenV, List.length_cons]; omega
end Go.Proofs.YthejgholpkeldaaGreatDoor

namespace Go.Proofs.YthejgholpkeldaaGreatDoor
open Go.RowKit
set_option maxRecDepth 100000

theorem tail_is (a : ByteArray) (w : World) (hs : a.size ≤ 9223372036854775807) :
    Calls Tryz.prog 55 #[.string a] w fun e w' => e = .returned (.tuple #[.string (mkB (preL a)), .string (mkB (a.data.toList.drop (tailAt a)))]) ∧ Below w.heap.size w w' := by
  refine (r3tail_walk a w hs).mono ?_
  rintro e w' ⟨X, Y, rfl, hX, hY, hb⟩
  exact ⟨by rw [mkB_of hX, mkB_of hY]; rfl, hb⟩
theorem tail_digs (a : ByteArray) : ∀ b ∈ a.data.toList.drop (tailAt a), digN b.toNat = true := by
  have := tail_digS a
  unfold digS at this
  rw [ext_list, List.take_of_length_le (by simp), List.all_eq_true] at this
  exact this
theorem digS_mk {l : List UInt8} (h : ∀ b ∈ l, digN b.toNat = true) : digS (mkB l) = true := by
  unfold digS
  rw [mkB_list, List.all_eq_true]
  exact h
theorem valS_mk (l : List UInt8) : valS (mkB l) = valL l := by unfold valS valL; rw [mkB_list]
set_option maxHeartbeats 4000000 in
theorem fol_walk (b a : ByteArray) (d : Nat) (w : World) (ha : a.size ≤ 16) (hd : d ≤ 100) :
    Calls Tryz.prog 56 #[.string b, .string a, .int .i64 d] w fun e w' => e = .returned (.bool (folB b a d)) ∧ Below w.heap.size w w' := by
  have ht := tail_is a w (by omega)
  have hds := tail_digs a
  have hul : (a.data.toList.drop (tailAt a)).length = a.size - tailAt a := by rw [List.length_drop, len_size]
  have hn := numT_le a ha
  have hpl : (preL a).length ≤ 16 := Nat.le_trans preL_len ha
  have hnum := fun (W : World) => r3number_walk (mkB (a.data.toList.drop (tailAt a))) (by rw [mkB_size]; omega) (digS_mk hds) W
  rw [valS_mk, show valL (a.data.toList.drop (tailAt a)) = numT a from rfl] at hnum
  have hwr := fun (W : World) => r3written_walk (numT a + 1) d W (by omega) (by omega)
  have hus : (mkB (a.data.toList.drop (tailAt a))).size = a.size - tailAt a := by rw [mkB_size, hul]
  have hwl : (wrL (numT a + 1) d).length ≤ 120 := by
    have h1 := nDigits_le 18 (numT a + 1) (by omega)
    rw [len_wrL]; omega
  obtain ⟨U, hU⟩ : ∃ U, mkB (a.data.toList.drop (tailAt a)) = U := ⟨_, rfl⟩
  rw [hU] at ht hnum hus
  unfold folB
  by_cases hok : tailAt a < a.size
  · have e0 := isEmpty_false U (by omega)
    have e1 : U.toList ≠ [] := fun e => by rw [e] at e0; cases e0
    obtain ⟨X, hX⟩ : ∃ X, mkB (preL a) = X := ⟨_, rfl⟩
    obtain ⟨Y, hY⟩ : ∃ Y, mkB (wrL (numT a + 1) d) = Y := ⟨_, rfl⟩
    obtain ⟨Z, hZ⟩ : ∃ Z, mkB (preL a ++ wrL (numT a + 1) d) = Z := ⟨_, rfl⟩
    have hXY : X ++ Y = Z := by
      refine dat_inj ?_
      rw [← hX, ← hY, ← hZ, mkB_list]
      simp [mkB]
    have hov : (9223372036854775807 < X.size + Y.size) = False := by
      rw [← hX, ← hY, mkB_size, mkB_size]; simp; omega
    rw [hX] at ht
    rw [hY] at hwr
    rw [hZ]
    obtain ⟨n, hnn⟩ : ∃ n, numT a = n := ⟨_, rfl⟩
    rw [hnn] at hn hnum hwr
    obtain ⟨m, hm⟩ : ∃ m, n + 1 = m := ⟨_, rfl⟩
    rw [hm] at hwr
    have hww : IntKind.i64.wrap ((n : Int) + 1) = (m : Int) := by rw [IntKind.wrap_i64]; omega
    have hww2 : (n : Int) + 1 = (m : Int) := by omega
    clear hm
    replace hnum := hide hnum
    replace hwr := hide hwr
    clear hds hul hU hX hY hZ hnn hus hwl hpl
    by_cases hb : b = Z
    · rw [decide_eq_true ⟨hok, hb⟩]
      subst hb
      clear hok
      go_enter Tryz.func56, Tryz.ntmps56
      go_wp2_with (first | (go_at_call 55; (with_reducible refine ht.mono ?_); rintro e w1 ⟨rfl, hb1⟩) | (go_at_call 81; (with_reducible refine (hnum.out _).mono ?_); rintro e w2 ⟨rfl, rfl⟩) | (go_at_call 80; (with_reducible refine (hwr.out _).mono ?_); rintro e w3 ⟨rfl, hb3⟩))
      go_ret
      exact ⟨rfl, ext_trans hb1 hb3⟩
    · rw [decide_eq_false fun h => hb h.2]
      have hne := toList_no (X := b) (Y := Z) (fun e => hb (dat_inj e))
      clear hok hb
      go_enter Tryz.func56, Tryz.ntmps56
      go_wp2_with (first | (go_at_call 55; (with_reducible refine ht.mono ?_); rintro e w1 ⟨rfl, hb1⟩) | (go_at_call 81; (with_reducible refine (hnum.out _).mono ?_); rintro e w2 ⟨rfl, rfl⟩) | (go_at_call 80; (with_reducible refine (hwr.out _).mono ?_); rintro e w3 ⟨rfl, hb3⟩))
      go_ret
      exact ⟨rfl, ext_trans hb1 hb3⟩
  · rw [decide_eq_false fun h => hok h.1]
    have e0 := isEmpty_true U (by omega)
    have e1 : U.toList = [] := List.isEmpty_iff.1 e0
    clear hok hnum hwr hds hul hus hU hwl hpl
    go_enter Tryz.func56, Tryz.ntmps56
    go_wp2_with (go_at_call 55; (with_reducible refine ht.mono ?_); rintro e w1 ⟨rfl, hb1⟩)
    go_ret
    exact ⟨rfl, hb1⟩
end Go.Proofs.YthejgholpkeldaaGreatDoor

namespace Go.Proofs.YthejgholpkeldaaGreatDoor
open Go.RowKit
set_option maxRecDepth 100000

/-- The loop that looks for the next code of a range goes on as long as the run does. -/
theorem fol_run {a x prev : ByteArray} {r : List ByteArray} {j : Nat} (h1 : 1 ≤ j) (hj : j ≤ runV (a :: r)) (hx : (a :: r)[j]? = some x) (hp : (a :: r)[j - 1]? = some prev) : folB x prev (widT a) = decide (j < runV (a :: r)) := by
  rw [runV] at hj ⊢
  obtain ⟨i, rfl⟩ : ∃ i, j = i + 1 := ⟨j - 1, by omega⟩
  rw [List.getElem?_cons_succ] at hx
  rw [Nat.add_sub_cancel] at hp
  by_cases ht : tailAt a < a.size
  · rw [if_pos ht] at hj ⊢
    have hpr : prev = ranF a i := by
      cases i with
      | zero => rw [ran_zero ht]; exact (Option.some.inj hp).symm
      | succ i =>
        rw [List.getElem?_cons_succ, runC_next (a := a) (j := 1) (by omega)] at hp
        rw [← Option.some.inj hp, Nat.add_comm]
    rw [hpr, fol_ran]
    by_cases hlt : i < runC a 1 r
    · rw [runC_next (a := a) (j := 1) hlt] at hx
      rw [decide_eq_true (p := i + 1 < runC a 1 r + 1) (by omega)]
      exact decide_eq_true (by rw [← Option.some.inj hx, Nat.add_comm])
    · obtain rfl : i = runC a 1 r := by omega
      have := runC_stop hx
      rw [Nat.add_comm] at this
      rw [decide_eq_false (p := runC a 1 r + 1 < runC a 1 r + 1) (by omega)]
      exact decide_eq_false this
  · rw [if_neg ht] at hj ⊢
    obtain rfl : i = 0 := by omega
    obtain rfl : a = prev := Option.some.inj hp
    unfold folB
    rw [decide_eq_false (fun h => ht h.1)]
    rfl
/-- The text so far, with the next part behind it. -/
theorem out_next {dn : List ByteArray} {out T out' : ByteArray} (h : out.data.toList = Lib.join (dn.map (·.data.toList)) [59]) (h' : out'.data.toList = if dn = [] then out.data.toList ++ T.data.toList else out.data.toList ++ 59 :: T.data.toList) : out'.data.toList = Lib.join ((dn ++ [T]).map (·.data.toList)) [59] := by
  rw [List.map_append, h']
  show _ = Lib.join (dn.map (·.data.toList) ++ [T.data.toList]) [59]
  rw [join_snoc59]
  by_cases e : dn = []
  · subst e
    rw [if_pos rfl, h]
    rfl
  · rw [if_neg e, if_neg (by simpa using e), h]
/-- The codes before place i are parts; the text of them. -/
def RJoin (l P : List ByteArray) (N : Nat) (out : ByteArray) (i : Nat) : Prop :=
  ∃ dn : List ByteArray, out.data.toList = Lib.join (dn.map (·.data.toList)) [59] ∧ dn ++ pieceS 0 (l.drop i) = P ∧ (dn = [] ↔ i = 0) ∧ dn.length ≤ i ∧ i ≤ N ∧ ∀ p ∈ dn, p.data.toList.length ≤ 40
theorem RJoin.size {l P : List ByteArray} {N i : Nat} {out : ByteArray} (h : RJoin l P N out i) (hN : N ≤ 64) : out.size ≤ 2624 := by
  obtain ⟨dn, h1, -, -, h4, h5, h6⟩ := h
  have := lens59 40 (dn.map (·.data.toList)) (fun x hx => by obtain ⟨p, hp, rfl⟩ := List.mem_map.1 hx; exact h6 p hp)
  rw [List.length_map] at this
  rw [← len_size, h1]
  omega
theorem RJoin.next {l P : List ByteArray} {N i k : Nat} {out out' T : ByteArray} (h : RJoin l P N out i) (hp : pieceS 0 (l.drop i) = T :: pieceS 0 (l.drop (i + k))) (hk : 1 ≤ k) (hN : i + k ≤ N) (hT : T.data.toList.length ≤ 40)
    (ho : out'.data.toList = if i = 0 then out.data.toList ++ T.data.toList else out.data.toList ++ 59 :: T.data.toList) : RJoin l P N out' (i + k) := by
  obtain ⟨dn, h1, h2, h3, h4, -, h6⟩ := h
  refine ⟨dn ++ [T], out_next h1 ?_, by rw [← h2, hp]; simp, ⟨fun e => by simp at e, fun e => by omega⟩, by rw [List.length_append]; simp; omega, hN, fun p hp => ?_⟩
  · rw [ho]
    by_cases e : i = 0
    · rw [if_pos e, if_pos (h3.2 e)]
    · rw [if_neg e, if_neg (fun q => e (h3.1 q))]
  · rcases List.mem_append.1 hp with h | h
    · exact h6 p h
    · simp at h; subst h; exact hT
theorem RJoin.done {l P : List ByteArray} {N : Nat} {out : ByteArray} (h : RJoin l P N out N) (hl : l.length = N) : out = mkB (Lib.join (P.map (·.data.toList)) [59]) := by
  obtain ⟨dn, h1, h2, -⟩ := h
  rw [List.drop_of_length_le (by omega)] at h2
  have : dn = P := by rw [← h2]; simp [pieceS]
  rw [← this]
  exact mkB_of h1
theorem drop_cons {l r : List ByteArray} {a : ByteArray} {i : Nat} (h : l[i]? = some a) (hr : l.drop (i + 1) = r) : l.drop i = a :: r := by
  have hl := (List.getElem?_eq_some_iff.1 h).1
  rw [List.drop_eq_getElem_cons hl, hr]
  congr 1
  rw [List.getElem?_eq_getElem hl] at h
  exact Option.some.inj h
theorem RJoin.step_run {l P r : List ByteArray} {N i : Nat} {out O1 a z : ByteArray} (h : RJoin l P N out i) (hd : l.drop i = a :: r) (h3 : 3 ≤ runV (a :: r)) (hz : l[i + runV (a :: r) - 1]? = some z) (hN : i + runV (a :: r) ≤ N) (ha : a.size ≤ 16) (hzs : z.size ≤ 16)
    (hO : O1.data.toList = if i = 0 then out.data.toList else out.data.toList ++ [59]) : RJoin l P N (O1 ++ rangeT a z) (i + runV (a :: r)) := by
  refine h.next (T := rangeT a z) ?_ (by omega) hN (by rw [len_size, rangeT_size]; omega) ?_
  · have e : (a :: r).getD (runV (a :: r) - 1) ⟨#[]⟩ = z := by
      have e2 : (a :: r)[runV (a :: r) - 1]? = some z := by
        obtain ⟨q, hq⟩ : ∃ q, runV (a :: r) - 1 = q := ⟨_, rfl⟩
        rw [hq, ← hd, List.getElem?_drop, show i + q = i + runV (a :: r) - 1 from by omega]
        exact hz
      rw [List.getD_eq_getElem?_getD, e2]
      rfl
    have e3 : l.drop (i + runV (a :: r)) = (a :: r).drop (runV (a :: r)) := by
      obtain ⟨q, hq⟩ : ∃ q, runV (a :: r) = q := ⟨_, rfl⟩
      rw [hq, ← hd, List.drop_drop]
    rw [hd, piece_run h3, e, e3]
  · rw [show (O1 ++ rangeT a z).data.toList = O1.data.toList ++ (rangeT a z).data.toList from by simp, hO]
    by_cases e : i = 0
    · rw [if_pos e, if_pos e]
    · rw [if_neg e, if_neg e, List.append_assoc]; rfl
theorem RJoin.step_one {l P r : List ByteArray} {N i : Nat} {out O1 a : ByteArray} (h : RJoin l P N out i) (hd : l.drop i = a :: r) (h3 : ¬ 3 ≤ runV (a :: r)) (hr : l.drop (i + 1) = r) (hN : i + 1 ≤ N) (ha : a.size ≤ 16)
    (hO : O1.data.toList = if i = 0 then out.data.toList else out.data.toList ++ [59]) : RJoin l P N (O1 ++ a) (i + 1) := by
  refine h.next (T := a) ?_ (Nat.le_refl _) hN (by rw [len_size]; omega) ?_
  · rw [hd, piece_one h3, hr]
  · rw [show (O1 ++ a).data.toList = O1.data.toList ++ a.data.toList from by simp, hO]
    by_cases e : i = 0
    · rw [if_pos e, if_pos e]
    · rw [if_neg e, if_neg e, List.append_assoc]; rfl
set_option maxHeartbeats 8000000 in
theorem r3join_walk (A : Option Addr) (l : List ByteArray) (c : Nat) (w : World) (hA : At kStr AnyB w A l) (hl : l.length ≤ 9223372036854775807) :
    Calls Tryz.prog 28 #[.slice A l.length c] w fun e w' => JoinIs (joinV l) w e w' := by
  obtain ⟨V, hV⟩ : ∃ V, joinV l = V := ⟨_, rfl⟩
  rw [hV]
  by_cases h64 : 64 < l.length
  · have hV' : V = (2, ⟨#[]⟩) := by rw [← hV]; exact if_pos h64
    have h64i : (64 : Int) < (l.length : Int) := by omega
    rw [hV']
    clear hV hV' hA
    obtain ⟨N, hN⟩ : ∃ N, l.length = N := ⟨_, rfl⟩
    rw [hN] at h64i hl ⊢
    clear hN
    go_enter Tryz.func28, Tryz.ntmps28
    go_wp2_with fail
    go_ret2
    exact join_err (Below.refl _ _)
  · have hV' : (if jErr l l.length ≠ 0 then (jErr l l.length, (⟨#[]⟩ : ByteArray)) else (0, mkB (Lib.join ((pieceS 0 l).map (·.data.toList)) [59]))) = V := by rw [← hV]; exact (if_neg h64).symm
    obtain ⟨N, hN⟩ : ∃ N, l.length = N := ⟨_, rfl⟩
    have h64i : ¬ (64 : Int) < (N : Int) := by omega
    have hcodes := jErr_code (l := l)
    rw [hN] at hV' hl hcodes ⊢
    have hN64 : N ≤ 64 := by omega
    replace hV' := hide hV'
    replace hN := hide hN
    replace hcodes := hide hcodes
    clear hV h64
    go_enter Tryz.func28, Tryz.ntmps28
    go_wp2_with fail
    go_loopw [4] (fun i wr => ∃ j : Nat, j ≤ N ∧ i = .int .i64 j ∧ jErr l j = 0 ∧ Below w.heap.size w wr) (fun i _ => N - (intOf i).toNat)
    case atStart => exact ⟨0, Nat.zero_le _, rfl, rfl, Below.refl _ _⟩
    case round =>
      obtain ⟨j, hj, rfl, ho, hb⟩ := hrel
      replace ho := hide ho
      by_cases hlt : j < N
      · obtain ⟨z, hz⟩ : ∃ z, l[j]? = some z := ⟨_, List.getElem?_eq_getElem (by rw [hN.out]; exact hlt)⟩
        obtain ⟨b, off, rfl, -, hbw, -⟩ := hA.str hz
        have hAr := hA.later hb
        obtain ⟨b', off', e', -, hbb, k0⟩ := hAr.str hz
        injection e' with e'
        injection e' with e1 e2
        subst e1 e2
        have hj0 : (0 : Int) ≤ (j : Int) := by omega
        have hj1 : (j : Int) < (N : Int) := by omega
        have hcv := r3valid_walk z wr
        have hE : jE l j = if codeB z = false then 10 else if 0 ≤ idxS z (l.take j) then 11 else 0 := by
          unfold jE; rw [List.getD_eq_getElem?_getD, hz]; rfl
        cases hv : codeB z with
        | false =>
          have h10 : jE l j = 10 := by rw [hE, hv]; rfl
          have hVV : Hid (V = (10, ⟨#[]⟩)) := hide (by
            rw [← hV'.out, jErr_hit ho.out (by rw [h10]; decide) N hlt, h10]; rfl)
          rw [hv] at hcv
          clear hv hE hAr hA hz h10 hj
          go_wp2_with (go_at_call 52; refine hcv.mono ?_; rintro e w2 ⟨rfl, rfl⟩)
          go_ret2
          rw [hVV.out]
          exact join_err hb
        | true =>
          rw [hv] at hE hcv
          rw [if_neg (by simp)] at hE
          replace hE := hide hE
          clear hv
          go_wp2_with (go_at_call 52; refine hcv.mono ?_; rintro e w2 ⟨rfl, rfl⟩)
          rename World => wo
          go_loopw [5] (fun k wr => ∃ m : Nat, m ≤ j ∧ k = .int .i64 m ∧ (∀ y ∈ l.take m, (y.toList == z.toList) = false) ∧ Below wo.heap.size wo wr) (fun k _ => j - (intOf k).toNat)
          case atStart => exact ⟨0, Nat.zero_le _, rfl, fun y hy => by simp at hy, Below.refl _ _⟩
          case round =>
            obtain ⟨m, hm, rfl, hmiss, hbx⟩ := hrel
            replace hmiss := hide hmiss
            have k1 := cell_later hbx k0
            by_cases hml : m < j
            · obtain ⟨y, hy⟩ : ∃ y, l[m]? = some y := ⟨_, List.getElem?_eq_getElem (by rw [hN.out]; omega)⟩
              obtain ⟨b', off', e', -, -, k2⟩ := hAr.str hy
              injection e' with e'
              injection e' with e1 e2
              subst e1 e2
              have k3 := cell_later hbx k2
              have hbx2 : b < wr.heap.size := Nat.lt_of_lt_of_le hbb hbx.size
              have hm0 : (0 : Int) ≤ (m : Int) := by omega
              have hm1 : (m : Int) < (j : Int) := by omega
              have hmN : (m : Int) < (N : Int) := by omega
              cases hq : (y.toList == z.toList) with
              | true =>
                have h11 : jE l j = 11 := by
                  rw [hE.out, if_pos]
                  rw [idxS_hit (j := m) (x := y) (by rw [List.getElem?_take, if_pos hml]; exact hy) (by rw [List.take_take, Nat.min_eq_left (by omega)]; exact hmiss.out) hq]
                  omega
                have hVV : Hid (V = (11, ⟨#[]⟩)) := hide (by
                  rw [← hV'.out, jErr_hit ho.out (by rw [h11]; decide) N hlt, h11]; rfl)
                have hyz : z = y := by
                  rw [beq_iff_eq, toList_dataL, toList_dataL] at hq
                  exact (dat_inj hq).symm
                subst hyz
                clear h11 hE hmiss hAr hA hz hy k0 k2 hq
                go_upto_region 11 with fail
                go_region
                all_goals
                  go_wp2_with fail
                  go_ret2
                  rw [hVV.out]
                  exact join_err (by first | exact ext_trans hb hbx | exact ext_drew (ext_trans hb hbx))
              | false =>
                have hnext := hide (take_miss hy hmiss.out hq)
                have hq2 : (z.toList == y.toList) = false := by rw [beq_eq_false_iff_ne] at hq ⊢; exact fun e => hq e.symm
                clear hE hmiss hAr hA hz hy k0 k2 hq
                go_upto_region 11 with fail
                go_region
                all_goals
                  go_wp2_with fail
                  go_roundw
                  case rel => exact ⟨m + 1, by omega, by go_num, hnext.out, by first | exact hbx | exact ext_drew hbx⟩
                  case measure => simp [intOf]; omega
            · obtain rfl : m = j := by omega
              have h0 : Hid (jErr l (m + 1) = 0) := hide (by
                rw [jErr_next ho.out, hE.out, if_neg]
                rw [idxS_none hmiss.out]; decide)
              clear hE hmiss hAr hA hz k0
              go_wp2_with fail
              go_roundw
              case rel => exact ⟨m + 1, by omega, by go_num, h0.out, ext_trans hb hbx⟩
              case measure => simp [intOf]; omega
      · obtain rfl : j = N := by omega
        have hall := hcodes.out ho.out
        have hVV : Hid (V = (0, mkB (Lib.join ((pieceS 0 l).map (·.data.toList)) [59]))) := hide (by
          rw [← hV'.out, if_neg (by rw [ho.out]; simp)])
        obtain ⟨P, hP⟩ : ∃ P, pieceS 0 l = P := ⟨_, rfl⟩
        rw [hP] at hVV
        replace hP := hide hP
        clear hcodes hV' ho hj hlt
        rename World => ws
        go_wp2_with fail
        go_loopw [6, 7] (fun v6 v7 wr => ∃ (i : Nat) (out : ByteArray), i ≤ j ∧ v6 = .string out ∧ v7 = .int .i64 i ∧ RJoin l P j out i ∧ Below w.heap.size w wr) (fun _ v7 _ => j - (intOf v7).toNat)
        case atStart => exact ⟨0, ⟨#[]⟩, Nat.zero_le _, rfl, rfl, ⟨[], rfl, by simpa using hP.out, ⟨fun _ => rfl, fun _ => rfl⟩, Nat.le_refl _, Nat.zero_le _, fun p hp => by simp at hp⟩, hb⟩
        case round =>
          clear hb
          obtain ⟨i, out, hi, rfl, rfl, hR, hb⟩ := hrel
          have hRs := hR.size hN64
          by_cases hij : i < j
          · obtain ⟨a, ha⟩ : ∃ a, l[i]? = some a := ⟨_, List.getElem?_eq_getElem (by rw [hN.out]; exact hij)⟩
            obtain ⟨r, hr⟩ : ∃ r, l.drop (i + 1) = r := ⟨_, rfl⟩
            have hd := drop_cons ha hr
            have hAr := hA.later hb
            obtain ⟨b, off, rfl, -, hbb, k0⟩ := hAr.str ha
            have hcell : Hid (∀ k x, l[k]? = some x → wr.cell? ⟨b, off + k, none⟩ = some (.string x)) := hide (fun k x hx => by
              obtain ⟨b', off', e', -, -, k2⟩ := hAr.str hx
              injection e' with e'
              injection e' with e1 e2
              subst e1 e2
              exact k2)
            have has := code_size (hall a (List.mem_of_getElem? ha))
            have hrl : (a :: r).length = j - i := by rw [← hd, List.length_drop, hN.out]
            have hr1 := runV_pos (a := a) (r := r)
            have hr2 := runV_le (a :: r)
            have ht := tail_is a wr (by omega)
            have hUs : (mkB (a.data.toList.drop (tailAt a))).size = widT a := by rw [mkB_size, List.length_drop, len_size]; rfl
            have hwd := widT_le (a := a)
            obtain ⟨U, hU⟩ : ∃ U, mkB (a.data.toList.drop (tailAt a)) = U := ⟨_, rfl⟩
            obtain ⟨X, hX⟩ : ∃ X, mkB (preL a) = X := ⟨_, rfl⟩
            rw [hU] at ht hUs
            rw [hX] at ht
            obtain ⟨cnt, hcnt⟩ : ∃ cnt, runV (a :: r) = cnt := ⟨_, rfl⟩
            have hfol : Hid (∀ m x prev, i + 1 ≤ m → m ≤ i + cnt → l[m]? = some x → l[m - 1]? = some prev → folB x prev U.size = decide (m < i + cnt)) := hide (fun m x prev h1 h2 hx hp => by
              have e1 : (a :: r)[m - i]? = some x := by rw [← hd, List.getElem?_drop, show i + (m - i) = m from by omega]; exact hx
              have e2 : (a :: r)[m - i - 1]? = some prev := by rw [← hd, List.getElem?_drop, show i + (m - i - 1) = m - 1 from by omega]; exact hp
              rw [hUs, fol_run (by omega) (by omega) e1 e2, hcnt]
              by_cases e : m < i + cnt
              · rw [decide_eq_true e, decide_eq_true (by omega)]
              · rw [decide_eq_false e, decide_eq_false (by omega)])
            have hU16 : U.size ≤ 16 := by rw [hUs]; omega
            rw [hcnt] at hr1 hr2
            rw [hrl] at hr2
            have hi0 : (0 : Int) ≤ (i : Int) := by omega
            have hi1 : (i : Int) < (j : Int) := by omega
            replace hd := hide hd
            replace hr := hide hr
            replace hR := hide hR
            replace hcnt := hide hcnt
            clear hU hX hUs hrl hwd hAr
            rename World => wo
            go_wp2_with (go_at_call 55; (with_reducible refine ht.mono ?_); rintro e w1 ⟨rfl, hb1⟩)
            clear ht
            go_loopw [10] (fun v wr => ∃ m : Nat, i + 1 ≤ m ∧ m ≤ i + cnt ∧ v = .int .i64 m ∧ Below wo.heap.size wo wr) (fun v _ => j + 1 - (intOf v).toNat)
            case atStart => exact ⟨i + 1, Nat.le_refl _, by omega, by go_num, hb1⟩
            case round =>
              clear hb1
              obtain ⟨m, hm1, hm2, rfl, hb1⟩ := hrel
              obtain ⟨p, hp⟩ : ∃ p, m - 1 = p := ⟨_, rfl⟩
              have hpi : (m : Int) - 1 = (p : Int) := by omega
              have hpw : IntKind.i64.wrap (p : Int) = (p : Int) := by rw [IntKind.wrap_i64]; omega
              have hp0 : (0 : Int) ≤ (p : Int) := by omega
              have hpj : (p : Int) < (j : Int) := by omega
              have hm0 : (0 : Int) ≤ (m : Int) := by omega
              obtain ⟨z, hz⟩ : ∃ z, l[p]? = some z := ⟨_, List.getElem?_eq_getElem (by rw [hN.out]; omega)⟩
              have hzs := code_size (hall z (List.mem_of_getElem? hz))
              have kz := cell_later hb1 (hcell.out p z hz)
              have hbl : b < wr.heap.size := Nat.lt_of_lt_of_le hbb hb1.size
              replace hz := hide hz
              replace hp := hide hp
              have hO1 : ∃ O1 : ByteArray, (i = 0 → out = O1) ∧ (i ≠ 0 → out ++ ⟨#[59]⟩ = O1) ∧ O1.data.toList = (if i = 0 then out.data.toList else out.data.toList ++ [59]) ∧ O1.size ≤ 2625 := by
                by_cases e : i = 0
                · exact ⟨out, fun _ => rfl, fun h => absurd e h, by rw [if_pos e], by omega⟩
                · exact ⟨out ++ ⟨#[59]⟩, fun h => absurd h e, fun _ => rfl, by rw [if_neg e]; simp, by rw [ByteArray.size_append]; show out.size + 1 ≤ _; omega⟩
              obtain ⟨O1, hOa, hOb, hOl, hOs⟩ := hO1
              replace hOl := hide hOl
              by_cases hmj : m < j
              · obtain ⟨x, hx⟩ : ∃ x, l[m]? = some x := ⟨_, List.getElem?_eq_getElem (by rw [hN.out]; omega)⟩
                have kx := cell_later hb1 (hcell.out m x hx)
                have hmi : (m : Int) < (j : Int) := by omega
                have hf := hfol.out m x z hm1 hm2 hx (by rw [hp.out]; exact hz.out)
                have hSL : Cn2 b (off + m) ((.string x)) b (off + p) ((.string z)) wr := ⟨kx, kz⟩
                obtain ⟨q, hq⟩ : ∃ q, decide (m < i + cnt) = q := ⟨_, rfl⟩
                rw [hq] at hf
                have hcall := hide (fun (V : World) (hV : Below wr.heap.size wr V) => (fol_walk x z U.size V hzs.2 (by omega)).mono fun e w' ⟨he, hb'⟩ => (⟨by rw [he, hf], ext_trans hV hb', hSL.later (ext_trans hV hb')⟩ : e = Ending.returned (.bool q) ∧ Below wr.heap.size wr w' ∧ Cn2 b (off + m) ((.string x)) b (off + p) ((.string z)) w'))
                have hSd := hSL.drew
                have hrefl := Below.refl wr.heap.size wr
                replace hq := hide hq
                clear hf hx kx
                cases q with
                | true =>
                  have hlt2 : m < i + cnt := of_decide_eq_true hq.out
                  clear hOa hOb hOl hOs kz hq
                  go_upto_region 18 with fail
                  go_region_held3 (fun W' => W'.cell? ⟨b, off + m, none⟩ = some ((.string x)) ∧ W'.cell? ⟨b, off + p, none⟩ = some ((.string z))) (first | ((repeat (first | (with_reducible assumption) | (with_reducible refine Cn2.alloc ?_ _) | (with_reducible refine Cn2.drew ?_) | (with_reducible refine Cn2.set ?_ ?_ ?_ _) | omega)); done)) (first | (go_at_call 56; (with_reducible refine (hcall.out _ ?_).mono ?_); (repeat (first | (with_reducible assumption) | (with_reducible refine ext_alloc ?_ _) | (with_reducible refine ext_drew ?_))); rintro e w5 ⟨rfl, hb5, hx5⟩))
                  all_goals
                    go_wp2_with fail
                    go_roundw
                    case rel => exact ⟨m + 1, by omega, by omega, by go_num, ext_trans hb1 hb5⟩
                    case measure => simp [intOf]; omega
                | false =>
                  have hlt2 : Hid (m = i + cnt) := hide (by have := of_decide_eq_false hq.out; omega)
                  clear hq
                  go_upto_region 18 with fail
                  go_region_held3 (fun W' => W'.cell? ⟨b, off + m, none⟩ = some ((.string x)) ∧ W'.cell? ⟨b, off + p, none⟩ = some ((.string z))) (first | ((repeat (first | (with_reducible assumption) | (with_reducible refine Cn2.alloc ?_ _) | (with_reducible refine Cn2.drew ?_) | (with_reducible refine Cn2.set ?_ ?_ ?_ _) | omega)); done)) (first | (go_at_call 56; (with_reducible refine (hcall.out _ ?_).mono ?_); (repeat (first | (with_reducible assumption) | (with_reducible refine ext_alloc ?_ _) | (with_reducible refine ext_drew ?_))); rintro e w5 ⟨rfl, hb5, hx5⟩))
                  all_goals
                    have hbe := ext_trans hb1 hb5
                    clear hb1 hb5 hx5 hcall hSL hSd hrefl kz
                    clear hmi hmj hm0
                    have kA := cell_later hbe k0
                    have kZ := cell_later hbe (hcell.out p z hz.out)
                    have hbz := Nat.lt_of_lt_of_le hbb hbe.size
                    have hbf := ext_trans hb hbe
                    have hT := rangeT_eq a z
                    have hTs := rangeT_size a z
                    have hrun : 3 ≤ cnt → RJoin l P j (O1 ++ rangeT a z) m := fun h3 => by
                      have := hR.out.step_run hd.out (by rw [hcnt.out]; exact h3) (z := z) (by rw [hcnt.out, ← hlt2.out, hp.out]; exact hz.out) (by rw [hcnt.out]; omega) has.2 hzs.2 hOl.out
                      rw [hcnt.out, ← hlt2.out] at this
                      exact this
                    have hone : ¬ 3 ≤ cnt → RJoin l P j (O1 ++ a) (i + 1) := fun h3 => hR.out.step_one hd.out (by rw [hcnt.out]; exact h3) hr.out (by omega) has.2 hOl.out
                    have hmi2 : (m : Int) - (i : Int) = (cnt : Int) := by have := hlt2.out; omega
                    have hmw2 : IntKind.i64.wrap (cnt : Int) = (cnt : Int) := by rw [IntKind.wrap_i64]; omega
                    have hij1 : (i : Int) + 1 ≤ (j : Int) := by omega
                    have ov1 : (9223372036854775807 < out.size + 1) = False := by simp; omega
                    obtain ⟨T, hTT⟩ : ∃ T, rangeT a z = T := ⟨_, rfl⟩
                    rw [hTT] at hT hTs hrun
                    have o1 : (9223372036854775807 < a.size + 2) = False := by simp; omega
                    have o2 : (9223372036854775807 < a.size + 2 + z.size) = False := by simp; omega
                    have o3 : (9223372036854775807 < O1.size + T.size) = False := by simp; omega
                    have o4 : (9223372036854775807 < O1.size + a.size) = False := by simp; omega
                    clear hTT hOl hR hd hr hcell hfol hp hz k0 hbb hb hbe hall hA
                    by_cases h3 : 3 ≤ cnt
                    · have h3i : (3 : Int) ≤ (cnt : Int) := by omega
                      have hnx := hide (hrun h3)
                      have hmle : m ≤ j ∧ i < m := by have := hlt2.out; omega
                      obtain ⟨hmle, him⟩ := hmle
                      clear hrun hone hlt2 hcnt
                      by_cases hi00 : 0 < i
                      · have hii : (0 : Int) < (i : Int) := by omega
                        have hO := hOb (by omega)
                        clear hOa hOb
                        go_upto_region 23 with fail
                        go_region
                        all_goals
                          go_wp2_with fail
                          go_roundw
                          case rel => exact ⟨m, _, hmle, rfl, rfl, hnx.out, by first | exact hbf | exact ext_drew hbf | exact ext_drew (ext_drew hbf)⟩
                          case measure => simp only [intOf]; omega
                      · have hii : ¬ (0 : Int) < (i : Int) := by omega
                        obtain rfl := hOa (by omega)
                        clear hOa hOb
                        go_upto_region 23 with fail
                        go_region
                        all_goals
                          go_wp2_with fail
                          go_roundw
                          case rel => exact ⟨m, _, hmle, rfl, rfl, hnx.out, by first | exact hbf | exact ext_drew hbf | exact ext_drew (ext_drew hbf)⟩
                          case measure => simp only [intOf]; omega
                    · have h3i : ¬ (3 : Int) ≤ (cnt : Int) := by omega
                      have hnx := hide (hone h3)
                      clear hrun hone hlt2 hcnt
                      by_cases hi00 : 0 < i
                      · have hii : (0 : Int) < (i : Int) := by omega
                        have hO := hOb (by omega)
                        clear hOa hOb
                        go_wp2_with fail
                        go_roundw
                        case rel => exact ⟨i + 1, _, by omega, rfl, by go_num, hnx.out, by first | exact hbf | exact ext_drew hbf | exact ext_drew (ext_drew hbf)⟩
                        case measure => simp only [intOf]; omega
                      · have hii : ¬ (0 : Int) < (i : Int) := by omega
                        obtain rfl := hOa (by omega)
                        clear hOa hOb
                        go_wp2_with fail
                        go_roundw
                        case rel => exact ⟨i + 1, _, by omega, rfl, by go_num, hnx.out, by first | exact hbf | exact ext_drew hbf | exact ext_drew (ext_drew hbf)⟩
                        case measure => simp only [intOf]; omega
              · have hmj2 : ¬ (m : Int) < (j : Int) := by omega
                have hlt2 : Hid (m = i + cnt) := hide (by omega)
                have hbe := hb1
                go_upto_region 18 with fail
                go_region
                all_goals
                  clear hmj2 hmj hm0 hb1 kz
                  have kA := cell_later hbe k0
                  have kZ := cell_later hbe (hcell.out p z hz.out)
                  have hbz := Nat.lt_of_lt_of_le hbb hbe.size
                  have hbf := ext_trans hb hbe
                  have hT := rangeT_eq a z
                  have hTs := rangeT_size a z
                  have hrun : 3 ≤ cnt → RJoin l P j (O1 ++ rangeT a z) m := fun h3 => by
                    have := hR.out.step_run hd.out (by rw [hcnt.out]; exact h3) (z := z) (by rw [hcnt.out, ← hlt2.out, hp.out]; exact hz.out) (by rw [hcnt.out]; omega) has.2 hzs.2 hOl.out
                    rw [hcnt.out, ← hlt2.out] at this
                    exact this
                  have hone : ¬ 3 ≤ cnt → RJoin l P j (O1 ++ a) (i + 1) := fun h3 => hR.out.step_one hd.out (by rw [hcnt.out]; exact h3) hr.out (by omega) has.2 hOl.out
                  have hmi2 : (m : Int) - (i : Int) = (cnt : Int) := by have := hlt2.out; omega
                  have hmw2 : IntKind.i64.wrap (cnt : Int) = (cnt : Int) := by rw [IntKind.wrap_i64]; omega
                  have hij1 : (i : Int) + 1 ≤ (j : Int) := by omega
                  have ov1 : (9223372036854775807 < out.size + 1) = False := by simp; omega
                  obtain ⟨T, hTT⟩ : ∃ T, rangeT a z = T := ⟨_, rfl⟩
                  rw [hTT] at hT hTs hrun
                  have o1 : (9223372036854775807 < a.size + 2) = False := by simp; omega
                  have o2 : (9223372036854775807 < a.size + 2 + z.size) = False := by simp; omega
                  have o3 : (9223372036854775807 < O1.size + T.size) = False := by simp; omega
                  have o4 : (9223372036854775807 < O1.size + a.size) = False := by simp; omega
                  clear hTT hOl hR hd hr hcell hfol hp hz k0 hbb hb hbe hall hA
                  by_cases h3 : 3 ≤ cnt
                  · have h3i : (3 : Int) ≤ (cnt : Int) := by omega
                    have hnx := hide (hrun h3)
                    have hmle : m ≤ j ∧ i < m := by have := hlt2.out; omega
                    obtain ⟨hmle, him⟩ := hmle
                    clear hrun hone hlt2 hcnt
                    by_cases hi00 : 0 < i
                    · have hii : (0 : Int) < (i : Int) := by omega
                      have hO := hOb (by omega)
                      clear hOa hOb
                      go_upto_region 23 with fail
                      go_region
                      all_goals
                        go_wp2_with fail
                        go_roundw
                        case rel => exact ⟨m, _, hmle, rfl, rfl, hnx.out, by first | exact hbf | exact ext_drew hbf | exact ext_drew (ext_drew hbf)⟩
                        case measure => simp only [intOf]; omega
                    · have hii : ¬ (0 : Int) < (i : Int) := by omega
                      obtain rfl := hOa (by omega)
                      clear hOa hOb
                      go_upto_region 23 with fail
                      go_region
                      all_goals
                        go_wp2_with fail
                        go_roundw
                        case rel => exact ⟨m, _, hmle, rfl, rfl, hnx.out, by first | exact hbf | exact ext_drew hbf | exact ext_drew (ext_drew hbf)⟩
                        case measure => simp only [intOf]; omega
                  · have h3i : ¬ (3 : Int) ≤ (cnt : Int) := by omega
                    have hnx := hide (hone h3)
                    clear hrun hone hlt2 hcnt
                    by_cases hi00 : 0 < i
                    · have hii : (0 : Int) < (i : Int) := by omega
                      have hO := hOb (by omega)
                      clear hOa hOb
                      go_wp2_with fail
                      go_roundw
                      case rel => exact ⟨i + 1, _, by omega, rfl, by go_num, hnx.out, by first | exact hbf | exact ext_drew hbf | exact ext_drew (ext_drew hbf)⟩
                      case measure => simp only [intOf]; omega
                    · have hii : ¬ (0 : Int) < (i : Int) := by omega
                      obtain rfl := hOa (by omega)
                      clear hOa hOb
                      go_wp2_with fail
                      go_roundw
                      case rel => exact ⟨i + 1, _, by omega, rfl, by go_num, hnx.out, by first | exact hbf | exact ext_drew hbf | exact ext_drew (ext_drew hbf)⟩
                      case measure => simp only [intOf]; omega
          · obtain rfl : i = j := by omega
            have hdone := hR.done hN.out
            have hji : ¬ (i : Int) < (i : Int) := by omega
            have hVV2 : Hid (V = (0, out)) := hide (by rw [hVV.out, hdone])
            clear hdone hR hall hA
            go_wp2_with fail
            go_ret2
            rw [hVV2.out]
            exact ⟨rfl, hb⟩
end Go.Proofs.YthejgholpkeldaaGreatDoor
