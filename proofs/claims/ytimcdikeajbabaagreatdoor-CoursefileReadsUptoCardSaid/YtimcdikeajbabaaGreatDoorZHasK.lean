/- Walk of timetableref10.patterns. Conditions: a text shorter than 2^30 bytes; what the program's variables hold. Walk of timegrid.Format. No condition. Plain: the record of a class; the times of a class. No walk. Walk of coursefile.all: all starts of a class without starts. Conditions: bounds. Walks of coursefile.has, with slices.ContainsFunc and IndexFunc at classes, and of timetableref10.Index. Conditions: the classes' cells. -/
import Derived.Test.YtimcdikeajbabaaGreatDoorRows
import Derived.WalkKit
import Derived.WalkSpells
import Derived.WalkLawsBesides
import Derived.BigGuardPart
import Derived.Lib.Hide
import Derived.Laws.BitsAllLaws
import Derived.Laws.BitsLemmas
import Derived.Lib.LaidTab
import Derived.Test.YtimcdikeajbabaaGreatDoorShelf
import Derived.Lib.ConvBytes
import Derived.Deep.QuietTactic
import Derived.BigQuiet
import Derived.Test.YtimcdikeajbabaaGreatDoorShelfS
import Derived.Laws.ResultCell
import Derived.RegionTactic
import Derived.BigRegion
import Derived.Deep.RegionHeld3
import Derived.Deep.DeepCutAuto
import Derived.Lib.SmallJoins
import Derived.Lib.SplitLaws
import Derived.Lib.CountLaws
import Derived.Lib.IndexMore
import Derived.Lib.Split
import Derived.Lib.Join
import Derived.Lib.ItoaNum
import Derived.Laws.AppendOwn
import Derived.Test.YtimcdikeajbabaaGreatDoorShelfT
import Derived.Lib.ItoaLen
import Derived.Lib.AppendIntMem
import Derived.Deep.AppendLies
import Derived.Lib.PathFns
import Derived.Maps.Range
import Derived.Lib.OwnBridge
import Derived.Sort.OwnSorted
import Derived.Sort.Walk0
import Derived.Test.YtimcdikeajbabaaGreatDoorCards
import Derived.Test.YtimcdikeajbabaaGreatDoorTie
import Derived.ProofKit
import Derived.OpenShut
import Derived.LaidMore
import Derived.Lay
import Derived.SevenTiedAt
import Derived.Stop.Joined
import Derived.Stop.LaidErr
import Derived.Deep.DeepHandedRow
import Derived.Lib.LaidU8
import Derived.LaidSub
import Derived.Deep.Slices
import Derived.Deep.Fields
import Derived.ChangeSame
import Derived.Test.YtimcdikeajbabaaGreatDoorZRef5C
import Derived.Test.YtimcdikeajbabaaGreatDoorZPatRd
import Derived.Test.YtimcdikeajbabaaGreatDoorZSameL
import Derived.Test.YtimcdikeajbabaaGreatDoorZTgB
import Derived.Test.YtimcdikeajbabaaGreatDoorZCells18
import Derived.Test.YtimcdikeajbabaaGreatDoorZIdxS
namespace Go.Proofs.YtimcdikeajbabaaGreatDoor
open Go.RowKit
set_option maxRecDepth 100000

theorem back_id : ∀ l : List ByteArray, l.map (fun z => (⟨z.data.toList.toArray⟩ : ByteArray)) = l
  | [] => rfl
  | z :: r => by rw [List.map_cons, back_id r]
theorem slash_is (s : ByteArray) : slashOf s = (splitOn1 47 s.data.toList).map fun x => (⟨x.toArray⟩ : ByteArray) := by
  rw [← splitB_one 47 s, List.map_map]
  exact (back_id _).symm
/-- What is left of a text that is cut at slashes. -/
def restL (b : ByteArray) (more : Bool) : List ByteArray := if more then (splitOn1 47 b.data.toList).map (fun x => (⟨x.toArray⟩ : ByteArray)) else []
theorem rest_step {b : ByteArray} {x y : List UInt8} {t : Bool} (hc : cut1 47 b.data.toList = (x, y, t)) : restL b true = (⟨x.toArray⟩ : ByteArray) :: restL ⟨y.toArray⟩ t := by
  unfold restL
  rw [if_pos rfl, splitOn1_cut, hc]
  cases t with
  | true => simp
  | false =>
    obtain ⟨h2, -, -⟩ := cut1_none 47 b.data.toList (by rw [hc])
    rw [hc] at h2
    have h2 : x = b.data.toList := h2
    subst h2
    simp
theorem firstE_zero_app {f : ByteArray → Int} {z : ByteArray} : ∀ {l r : List ByteArray}, firstE f l = 0 → f z ≠ 0 → firstE f (l ++ z :: r) = f z
  | [], r, _, h => by rw [List.nil_append, firstE, if_neg h]
  | a :: l, r, h0, h => by
    rw [firstE] at h0
    by_cases ha : f a = 0
    · rw [if_pos ha] at h0
      rw [List.cons_append, firstE, if_pos ha]
      exact firstE_zero_app h0 h
    · rw [if_neg ha] at h0
      exact absurd h0 ha
/-- What patterns returns. -/
def PatsGives (n : Int) (Z : List ByteArray) (w : World) (e : Ending) (w' : World) : Prop :=
  ∃ v, e = .returned (.tuple #[v, .int .i64 (patsRE n Z)]) ∧ Own kInt 3 [] 0 w.heap.size w' v (if patsRE n Z = 0 then Z.map (patV n) else []) ∧ Below w.heap.size w w'
set_option maxHeartbeats 8000000 in
theorem r10pats_walk (s : ByteArray) (n : Int) (w : World) (hs : s.size < 1073741824) (hS : Std w) (hW : Wds w) :
    Calls Tryz.prog 116 #[.string s, .int .i64 n] w fun e w' => PatsGives n (slashOf s) w e w' := by
  obtain ⟨Z, hZ⟩ : ∃ Z, slashOf s = Z := ⟨_, rfl⟩
  have hZl : Z.length ≤ s.size + 1 := by rw [← hZ]; exact slashOf_len s
  have hstart : [] ++ restL s true = Z := by rw [← hZ, slash_is]; rfl
  rw [hZ]
  replace hstart := hide hstart
  clear hZ
  go_enter Tryz.func116, Tryz.ntmps116
  go_wp2
  go_loopw [0, 6, 7] (fun r v m wr => ∃ (b : ByteArray) (zs : List ByteArray) (more : Bool), b.size < 1073741824 ∧ r = .string b ∧ m = .bool more ∧ zs ++ restL b more = Z ∧ firstE (patE n) zs = 0 ∧ Own kInt 3 [] 0 w.heap.size wr v (zs.map (patV n)) ∧ Below w.heap.size w wr) (fun r _ m _ => moreM r m)
  case atStart => exact ⟨s, [], true, hs, rfl, rfl, hstart.out, rfl, Own.nil, Below.refl _ _⟩
  case round =>
    obtain ⟨b, zs, more, hbs, rfl, rfl, hrem, h0, hown, hb⟩ := hrel
    have hS1 := hS.after hb
    have hW1 := hW.after hb hS
    cases more with
    | true =>
      obtain ⟨x, y, t, hc⟩ : ∃ x y t, cut1 47 b.data.toList = (x, y, t) := ⟨_, _, _, rfl⟩
      rw [rest_step hc] at hrem
      obtain ⟨l1, l2, l3⟩ := cut1_len hc
      rw [ba_len] at l1 l2 l3
      have hx : (⟨x.toArray⟩ : ByteArray).size < 1073741824 := by show x.toArray.size < _; simp; omega
      have hy : (⟨y.toArray⟩ : ByteArray).size < 1073741824 := by show y.toArray.size < _; simp; omega
      have hml : (zs.map (patV n)).length ≤ 4000000000 := by
        have := congrArg List.length hrem
        rw [List.length_append, List.length_cons] at this
        rw [List.length_map]; omega
      have hparse := r5Parse_walk ⟨x.toArray⟩ n hx
      have hv : patV n ⟨x.toArray⟩ = ((parseV ⟨x.toArray⟩ n).1 : Int) := rfl
      have hE : patE n ⟨x.toArray⟩ = ((parseV ⟨x.toArray⟩ n).2 : Int) := rfl
      have hfs := firstE_snoc (patE n) ⟨x.toArray⟩ zs
      rw [if_pos h0, hE] at hfs
      have hsn : Hid ((zs ++ [(⟨x.toArray⟩ : ByteArray)]).map (patV n) = zs.map (patV n) ++ [((parseV ⟨x.toArray⟩ n).1 : Int)]) := hide (by rw [List.map_append]; rfl)
      obtain ⟨P, hP⟩ : ∃ P, zs.map (patV n) = P := ⟨_, rfl⟩
      rw [hP] at hsn hown hml
      have hbad : Hid (patE n ⟨x.toArray⟩ ≠ 0 → patsRE n Z = patE n ⟨x.toArray⟩) := hide fun he => by
        have h1 : firstE (patE n) Z = patE n ⟨x.toArray⟩ := by rw [← hrem]; exact firstE_zero_app h0 he
        unfold patsRE
        rw [h1, if_pos he]
      rw [hE] at hbad
      obtain ⟨⟨p, q⟩, hpq⟩ : ∃ r, parseV ⟨x.toArray⟩ n = r := ⟨_, rfl⟩
      rw [hpq] at hparse hsn hfs hbad
      dsimp only at hparse hsn hfs hbad
      replace hc := hide hc
      replace hrem := hide hrem
      replace l3 := hide l3
      replace hbs := hide hbs
      clear hP hpq hv hE hstart h0 hZl
      by_cases hq : q = 0
      · subst hq
        replace hfs := hide hfs
        clear hbad
        go_wp2_with fail
        refine (r5Cut_walk b 47 47 rfl x y t hbs.out hc.out _).mono ?_
        rintro e w1 ⟨rfl, hb1⟩
        have hS2 := hS1.after hb1
        have hW2 := hW1.after hb1 hS1
        have hown1 := hown.later hb1
        have hbb := ext_trans hb hb1
        clear hown hb hb1
        go_wp2_with fail
        refine (hparse _ hS2 hW2).mono ?_
        rintro e w4 ⟨rfl, hb2⟩
        have hown4 := hown1.later hb2
        have hb4 := ext_trans hbb hb2
        have hz4 := hb4.size
        clear hown1 hbb hb2 hparse
        go_wp2_with (at_builtin; refine wpList_own (K := kInt) (t := 3) (ts := []) (B0 := 0) (B := w.heap.size) rfl _ _ rfl apd_intsP (by decide) rfl (hown4.alloc _) hml (by decide) ⟨w4.heap.size, 0, none⟩ 1 rfl (p : Int) [.int .i64 (p : Int)] rfl (World.news_of_block (cs := #[.int .i64 (p : Int)]) (t := 3) (fr := (0, 0)) (heap_alloc_new _ _)) (by decide) (Nat.zero_le _) (by rw [World.size_alloc]; omega) ?_; intro v' w5 hown5 hgrow)
        have hb5 : Below w.heap.size w w5 := Below.grown (ext_alloc hb4 _) hgrow (by rw [World.size_alloc]; omega) (fun y hy => (hown4.lt y hy).1)
        clear hown4 hgrow hb4
        go_wp2
        go_roundw
        case rel => exact ⟨⟨y.toArray⟩, zs ++ [⟨x.toArray⟩], t, hy, rfl, rfl, by rw [← hrem.out, List.append_assoc]; rfl, hfs.out, by rw [hsn.out]; exact hown5, hb5⟩
        case measure =>
          cases t with
          | true =>
            have := l3.out rfl
            show y.toArray.size + 1 < b.size + 1
            rw [List.size_toArray]; omega
          | false => exact Nat.succ_pos _
      · have hqi : (q : Int) ≠ 0 := by omega
        have hres := hide (hbad.out hqi)
        have hqb : ((q : Int) != 0) = true := by simpa using hqi
        replace hq := hide hq
        clear hbad hfs hown
        go_wp2_with fail
        refine (r5Cut_walk b 47 47 rfl x y t hbs.out hc.out _).mono ?_
        rintro e w1 ⟨rfl, hb1⟩
        have hS2 := hS1.after hb1
        have hW2 := hW1.after hb1 hS1
        have hbb := ext_trans hb hb1
        go_wp2_with fail
        refine (hparse _ hS2 hW2).mono ?_
        rintro e w4 ⟨rfl, hb2⟩
        have hb4 := ext_trans hbb hb2
        clear hparse hb hb1 hbb hb2
        go_wp2
        go_ret2
        exact ⟨_, by rw [hres.out]; rfl, by rw [hres.out, if_neg hqi]; exact Own.nil, hb4⟩
    | false =>
      have hZz : zs = Z := by rw [← hrem]; unfold restL; simp
      subst hZz
      clear hrem hstart hS1 hW1
      obtain ⟨A6, c6, rfl, -, hat⟩ := hown.any
      obtain ⟨N, hN⟩ : ∃ N, zs.length = N := ⟨_, rfl⟩
      have hvl : (zs.map (patV n)).length = N := by rw [List.length_map]; exact hN
      have hRE : patsRE n zs = if 8 < N then 2 else if freshTo (0 : Int) (zs.map (patV n)) N = false then 11 else 0 := by
        unfold patsRE
        rw [h0, hN, if_neg (by simp)]
      rw [hN] at hZl
      obtain ⟨vs, hvs⟩ : ∃ vs, zs.map (patV n) = vs := ⟨_, rfl⟩
      rw [hvs] at hown hat hvl hRE ⊢
      rw [hvl] at hown ⊢
      clear h0
      by_cases h8 : 8 < N
      · have h8i : (8 : Int) < (N : Int) := by omega
        rw [if_pos h8] at hRE
        replace hRE := hide hRE
        clear hown hat
        go_wp2
        go_ret2
        exact ⟨_, by rw [hRE.out]; rfl, by rw [hRE.out]; exact Own.nil, hb⟩
      · have h8i : ¬ (8 : Int) < (N : Int) := by omega
        rw [if_neg h8] at hRE
        obtain ⟨wo, hwo⟩ : ∃ wo, wo = wr := ⟨_, rfl⟩
        subst hwo
        replace hRE := hide hRE
        replace hvl := hide hvl
        replace hvs := hide hvs
        replace hown := hide hown
        replace hN := hide hN
        go_wp2_with fail
        go_loop [11] (fun i => ∃ j : Nat, j ≤ N ∧ i = .int .i64 j ∧ Hid (freshTo (0 : Int) vs j = true)) (fun i => N - (intOf i).toNat)
        case atStart => exact ⟨0, Nat.zero_le _, rfl, hide rfl⟩
        case round =>
          obtain ⟨j, hj, rfl, hf⟩ := hrel
          by_cases hlt : j < N
          · obtain ⟨x, hx⟩ : ∃ x, vs[j]? = some x := ⟨_, List.getElem?_eq_getElem (by rw [hvl.out]; exact hlt)⟩
            obtain ⟨xb, xo, rfl, -, hxb, x0⟩ := hat.int hx
            have hnum := r10number_walk (some ⟨xb, xo, none⟩) vs c6 x wo (by rw [hvl.out]; omega) hat.any
            rw [hvl.out] at hnum
            have hiff := numI_lt (n := x) (l := vs) (i := j) (by rw [hvl.out]; exact hj)
            have hj0 : (0 : Int) ≤ (j : Int) := by omega
            have hj1 : (j : Int) < (N : Int) := by omega
            have hdup : Hid (freshTo (0 : Int) vs (j + 1) = !decide (x ∈ vs.take j)) := hide (by
              rw [freshTo, hf.out, Bool.true_and, List.getD_eq_getElem?_getD, hx]; rfl)
            obtain ⟨M, hM⟩ : ∃ M, numI x vs = M := ⟨_, rfl⟩
            rw [hM] at hnum hiff
            replace hM := hide hM
            by_cases hm : M < j
            · have hmi : (M : Int) < (j : Int) := by omega
              have hff : Hid (patsRE n zs = 11) := hide (by
                have h1 : freshTo (0 : Int) vs (j + 1) = false := by rw [hdup.out, decide_eq_true (hiff.1 hm)]; rfl
                rw [hRE.out, if_pos (freshTo_false h1 N (by omega))])
              clear hiff hdup hf hx hat
              go_wp2_with (go_at_call 97; refine hnum.mono ?_; rintro e w' ⟨rfl, rfl⟩)
              go_ret2
              exact ⟨_, by rw [hff.out]; rfl, by rw [hff.out]; exact Own.nil, hb⟩
            · have hmi : ¬ (M : Int) < (j : Int) := by omega
              have hff : Hid (freshTo (0 : Int) vs (j + 1) = true) := hide (by rw [hdup.out, decide_eq_false (fun h => hm (hiff.2 h))]; rfl)
              clear hiff hdup hf hx hat
              go_wp2_with (go_at_call 97; refine hnum.mono ?_; rintro e w' ⟨rfl, rfl⟩)
              go_round
              case rel => exact ⟨j + 1, by omega, by go_num, hff⟩
              case measure => simp [intOf]; omega
          · obtain rfl : j = N := by omega
            have hff : Hid (patsRE n zs = 0) := hide (by rw [hRE.out, hf.out]; rfl)
            have hjj : ¬ (j : Int) < (j : Int) := by omega
            clear hat
            go_wp2
            go_ret2
            exact ⟨_, by rw [hff.out]; rfl, by rw [hff.out, if_pos rfl, hvs.out]; exact hown.out, hb⟩
end Go.Proofs.YtimcdikeajbabaaGreatDoor

namespace Go.Proofs.YtimcdikeajbabaaGreatDoor
open Go.RowKit
set_option maxRecDepth 100000

def dayB (k : Nat) : ByteArray := dayNames.getD k ByteArray.empty
end Go.Proofs.YtimcdikeajbabaaGreatDoor

namespace Go.Proofs.YtimcdikeajbabaaGreatDoor
open Go.RowKit
set_option maxRecDepth 100000

/-! Records. -/
/-! Times. -/
def allStarts (d sl len : Nat) : List (Int × Int) := (List.range d).flatMap fun (a : Nat) => (List.range (sl + 1 - len)).map fun (c : Nat) => ((a : Int), (c : Int))
theorem allStarts_len (d sl len : Nat) : (allStarts d sl len).length = d * (sl + 1 - len) := by
  unfold allStarts
  induction d with
  | zero => simp
  | succ d ih => rw [List.range_succ, List.flatMap_append, List.length_append, ih]; simp [Nat.add_mul]
def begins (d sl : Int) (x : Cls) : List (Int × Int) := if x.2.2.2.2.2.2.2.2 = [] then allStarts d.toNat sl.toNat x.2.2.2.1.toNat else x.2.2.2.2.2.2.2.2
def patT (len : Int) (bs : List (Int × Int)) (p : Int) : List T4 := bs.map fun s => (p, s.1, s.2, len)
/-- The times of a class. -/
def timesK (d sl b m : Int) (x : Cls) : List T4 :=
  if gridV d sl b m ≠ 0 ∨ x.2.2.2.1 < 1 ∨ sl < x.2.2.2.1 then [] else
  if 4096 < (x.2.2.2.2.1.flatMap (patT x.2.2.2.1 (begins d sl x))).length then [] else x.2.2.2.2.1.flatMap (patT x.2.2.2.1 (begins d sl x))
theorem patT_len (len : Int) (bs : List (Int × Int)) (ps : List Int) : (ps.flatMap (patT len bs)).length = ps.length * bs.length := by
  induction ps with
  | nil => simp
  | cons p ps ih => rw [List.flatMap_cons, List.length_append, ih]; simp [patT, Nat.add_mul]; omega
end Go.Proofs.YtimcdikeajbabaaGreatDoor

namespace Go.Proofs.YtimcdikeajbabaaGreatDoor
open Go.RowKit
set_option maxRecDepth 100000

theorem apd_st : Apd Tryz.prog 45 70 2 16 := apd Tryz.underlying45 (z := .agg #[.int .i64 0, .int .i64 0]) (by kernel_rfl) rfl
theorem allStarts_snoc (a sl len : Nat) : allStarts (a + 1) sl len = allStarts a sl len ++ (List.range (sl + 1 - len)).map fun (c : Nat) => ((a : Int), (c : Int)) := by
  unfold allStarts
  rw [List.range_succ, List.flatMap_append]
  simp
def rowTo (a c : Nat) : List (Int × Int) := (List.range c).map fun (x : Nat) => ((a : Int), (x : Int))
theorem rowTo_snoc (a c : Nat) : rowTo a (c + 1) = rowTo a c ++ [((a : Int), (c : Int))] := by unfold rowTo; rw [List.range_succ, List.map_append]; rfl
theorem start_rep {S : Nat → Prop} {W : World} (a c : Int) : kStart.rep S W (a, c) [.int .i64 a, .int .i64 c] := ⟨[_], [_], rfl, rfl, rfl⟩
def AllLoop (d sl len : Nat) (W : World) (v i : Value) (wr : World) : Prop :=
  ∃ a : Nat, a ≤ d ∧ i = .int .i64 a ∧ Own kStart 70 [] 0 W.heap.size wr v (allStarts a sl len) ∧ Below W.heap.size W wr
def AllIn (sl len a : Nat) (W : World) (v i : Value) (wr : World) : Prop :=
  ∃ c : Nat, c ≤ sl + 1 - len ∧ i = .int .i64 c ∧ Own kStart 70 [] 0 W.heap.size wr v (allStarts a sl len ++ rowTo a c) ∧ Below W.heap.size W wr
set_option maxHeartbeats 4000000 in
theorem call_walk (d sl len : Nat) (b m : Int) (w : World) (hd : d ≤ 7) (hs : sl ≤ 24) (hl : 1 ≤ len) (hls : len ≤ sl) :
    Calls Tryz.prog 40 #[.int .i64 len, .agg #[.int .i64 d, .int .i64 sl, .int .i64 b, .int .i64 m]] w fun e w' => ∃ v, e = .returned v ∧ Own kStart 70 [] 0 w.heap.size w' v (allStarts d sl len) ∧ Below w.heap.size w w' := by
  have hb0 : Below w.heap.size w (w.alloc (.cells #[.int .i64 d, .int .i64 sl, .int .i64 b, .int .i64 m] 24)) := (by repeat (first | exact Below.refl _ _ | refine ext_alloc ?_ _ | refine ext_drewN ?_ _ | refine ext_drew ?_ | refine ext_trans ?_ (by assumption)))
  have bG := Box4.new w 24 (.int .i64 d) (.int .i64 sl) (.int .i64 b) (.int .i64 m)
  obtain ⟨gb, hgb⟩ : ∃ gb, w.heap.size = gb := ⟨_, rfl⟩
  obtain ⟨W, hWW⟩ : ∃ W, w.alloc (.cells #[.int .i64 d, .int .i64 sl, .int .i64 b, .int .i64 m] 24) = W := ⟨_, rfl⟩
  rw [hWW] at hb0 bG
  rw [hgb] at bG
  have hgl := bG.lt
  obtain ⟨g0, g1, g2, g3⟩ := bG
  have e1 : IntKind.i64.wrap ((sl : Int) - len) = (sl : Int) - len := IntWalk.i64_in _ (by omega)
  have e2 : IntKind.i64.wrap ((sl : Int) - len + 1) = (sl : Int) - len + 1 := IntWalk.i64_in _ (by omega)
  replace hgb := hide hgb
  replace hWW := hide hWW
  go_enter Tryz.func40, Tryz.ntmps40
  go_wp2_with fail
  rw [hWW.out, hgb.out]
  go_loopw [5, 10] (fun v i wr => AllLoop d sl len W v i wr) (fun _ i _ => d - (intOf i).toNat)
  case atStart => exact ⟨0, Nat.zero_le _, rfl, Own.nil, Below.refl _ _⟩
  case round =>
    obtain ⟨a, ha, rfl, hown, hb⟩ := hrel
    by_cases hlt : a < d
    · have k0 := cell_later hb g0
      have k1 := cell_later hb g1
      have hgr : gb < wr.heap.size := World.block_lt_of_cell? _ _ k0
      go_wp2_with fail
      rename World => wo
      go_loopw [5, 18] (fun v i wr => AllIn sl len a W v i wr) (fun _ i _ => (sl + 1 - len) - (intOf i).toNat)
      case atStart => exact ⟨0, Nat.zero_le _, rfl, by rw [show rowTo a 0 = [] from rfl, List.append_nil]; exact hown, hb⟩
      case round =>
        clear hown hb k0 k1 hgr
        obtain ⟨c, hc, rfl, hown, hb⟩ := hrel
        by_cases hlt2 : c < sl + 1 - len
        · have hlen : (allStarts a sl len ++ rowTo a c).length ≤ 4000000000 := by
            rw [List.length_append, allStarts_len]
            unfold rowTo
            rw [List.length_map, List.length_range]
            have : a * (sl + 1 - len) ≤ 7 * 25 := Nat.mul_le_mul (by omega) (by omega)
            omega
          have hsn : Hid (allStarts a sl len ++ rowTo a (c + 1) = allStarts a sl len ++ rowTo a c ++ [((a : Int), (c : Int))]) := hide (by rw [rowTo_snoc, List.append_assoc])
          have hci : (c : Int) < (sl : Int) - len + 1 := by omega
          have hz := hb.size
          go_wp2_with (at_builtin; refine wpList_own (K := kStart) (t := 70) (ts := []) (B0 := 0) (B := W.heap.size) rfl _ _ rfl apd_st (by decide) rfl (hown.alloc _) hlen (by decide) ⟨wr.heap.size, 0, none⟩ 1 rfl ((a : Int), (c : Int)) [.int .i64 (a : Int), .int .i64 (c : Int)] (start_rep _ _) (World.news_of_block (cs := #[.int .i64 (a : Int), .int .i64 (c : Int)]) (t := 70) (fr := (0, 0)) (heap_alloc_new _ _)) (by decide) (Nat.zero_le _) (by rw [World.size_alloc]; omega) ?_; intro v' w5 hown5 hgrow)
          have hb5 : Below W.heap.size W w5 := Below.grown (ext_alloc hb _) hgrow (by rw [World.size_alloc]; omega) (fun y hy => (hown.lt y hy).1)
          clear hown hb hgrow
          go_wp2
          go_roundw
          case rel => exact ⟨c + 1, by omega, by go_num, by rw [hsn.out]; exact hown5, hb5⟩
          case measure => simp [intOf]; omega
        · obtain rfl : c = sl + 1 - len := by omega
          have hsn : allStarts (a + 1) sl len = allStarts a sl len ++ rowTo a (sl + 1 - len) := allStarts_snoc a sl len
          have hci : ¬ ((sl + 1 - len : Nat) : Int) < (sl : Int) - len + 1 := by omega
          rw [← hsn] at hown
          clear hsn
          go_wp2
          go_roundw
          case rel => exact ⟨a + 1, by omega, by go_num, hown, hb⟩
          case measure => simp [intOf]; omega
    · obtain rfl : a = d := by omega
      have k0 := cell_later hb g0
      go_wp2
      go_ret
      exact ⟨_, rfl, hown.lower hb0.size, ext_trans hb0 hb⟩
end Go.Proofs.YtimcdikeajbabaaGreatDoor

namespace Go.Proofs.YtimcdikeajbabaaGreatDoor
open Go.RowKit
set_option maxRecDepth 100000

theorem codesK_get {l : List Cls} {j : Nat} {x : Cls} (h : l[j]? = some x) : (codesK l)[j]? = some x.1 := by unfold codesK; rw [List.getElem?_map, h]; rfl
set_option maxHeartbeats 1000000 in
theorem khas1_walk (q : Nine) (t : ByteArray) (x : Nat) (w : World) (hc : w.cell? ⟨x, 0, none⟩ = some (.string t)) :
    Calls Tryz.prog 96 #[q.val, .pointer (some ⟨x, 0, none⟩)] w fun e w' => e = .returned (.bool (q.z.toList == t.toList)) ∧ Below w.heap.size w w' := by
  have hlt := World.block_lt_of_cell? _ _ hc
  unfold Nine.val
  go_enter Tryz.func96, Tryz.ntmps96
  go_wp2
  go_ret
  exact ⟨rfl, (by repeat (first | exact Below.refl _ _ | refine ext_alloc ?_ _ | refine ext_drewN ?_ _ | refine ext_drew ?_ | refine ext_trans ?_ (by assumption)))⟩
set_option maxHeartbeats 4000000 in
theorem kidx_walk (A : Option Addr) (l : List Cls) (c g : Nat) (code : ByteArray) (w : World) (hn : l.length ≤ 9223372036854775807) (h : At kCls AnyB w A l) (hc : w.cell? ⟨g, 0, none⟩ = some (.string code)) :
    Calls Tryz.prog 137 #[.slice A l.length c, .func (.func 96) #[] #[.pointer (some ⟨g, 0, none⟩)]] w fun e w' => e = .returned (.int .i64 (idxS code (codesK l))) ∧ Below w.heap.size w w' := by
  have eg : ∀ args w, (callFunc 96 args).run Tryz.prog w = .ok (.enter 96 args) w := enters_of Tryz.func96 (by kernel_rfl) rfl
  obtain ⟨N, hnn⟩ : ∃ N, l.length = N := ⟨_, rfl⟩
  have hnl : (codesK l).length = N := by rw [← hnn]; exact List.length_map _
  rw [hnn] at hn ⊢
  replace hnn := hide hnn
  replace hnl := hide hnl
  go_enter Tryz.func137, Tryz.ntmps137
  go_wp2
  go_loopw [5, 8] (fun _ i wr => ∃ j : Nat, j ≤ N ∧ i = .int .i64 j ∧ Hid (∀ y ∈ (codesK l).take j, (y.toList == code.toList) = false) ∧ Below w.heap.size w wr) (fun _ i _ => N - (intOf i).toNat)
  case atStart => exact ⟨0, Nat.zero_le _, rfl, hide (fun y hy => by simp at hy), Below.refl _ _⟩
  case round =>
    obtain ⟨j, hj, rfl, ho, hb⟩ := hrel
    by_cases hlt : j < N
    · obtain ⟨x, hx⟩ : ∃ x, l[j]? = some x := ⟨_, List.getElem?_eq_getElem (by rw [hnn.out]; exact hlt)⟩
      obtain ⟨b, off, A4, c4, A6, c6, A7, c7, A8, c8, rfl, -, hbb, hq9, -, -, -, -, -⟩ := (h.later hb).clsF hx
      have hxn := codesK_get hx
      have hcall := khas1_walk (nineOf x A4 c4 A6 c6 A7 c7 A8 c8) code g wr (cell_later hb hc)
      obtain ⟨q, hqq⟩ : ∃ q, nineOf x A4 c4 A6 c6 A7 c7 A8 c8 = q := ⟨_, rfl⟩
      have hz : q.z = x.1 := by rw [← hqq]; rfl
      rw [hqq] at hq9 hcall
      rw [← hz] at hxn
      clear hqq hz
      unfold Nine.val at hcall
      obtain ⟨q0, q1, q2, q3, q4, q5, q6, q7, q8⟩ := hq9
      have hj0 : (0 : Int) ≤ (j : Int) := by omega
      have hj1 : (j : Int) < (N : Int) := by omega
      cases hq : (q.z.toList == code.toList) with
      | true =>
        have hit := hide (idxS_hit hxn ho.out hq)
        rw [hq] at hcall
        clear hx h ho hxn hq hc
        go_wp2_with (go_at_fn 96; refine hcall.mono ?_; rintro e w' ⟨rfl, hb2⟩)
        go_ret
        exact ⟨by rw [hit.out]; rfl, ext_trans hb hb2⟩
      | false =>
        have miss := hide (take_miss hxn ho.out hq)
        rw [hq] at hcall
        clear hx h ho hxn hq hc
        go_wp2_with (go_at_fn 96; refine hcall.mono ?_; rintro e w' ⟨rfl, hb2⟩)
        go_roundw
        case rel => exact ⟨j + 1, by omega, by go_num, miss, ext_trans hb hb2⟩
        case measure => simp [intOf]; omega
    · obtain rfl : j = N := by omega
      have hall : Hid (idxS code (codesK l) = -1) := hide (idxS_none fun y hy => ho.out y (by rw [List.take_of_length_le (by rw [hnl.out]; exact Nat.le_refl _)]; exact hy))
      clear h
      go_wp2
      go_ret
      exact ⟨by rw [hall.out]; rfl, hb⟩
set_option maxHeartbeats 2000000 in
theorem kcon_walk (A : Option Addr) (l : List Cls) (c g : Nat) (code : ByteArray) (w : World) (hn : l.length ≤ 9223372036854775807) (h : At kCls AnyB w A l) (hc : w.cell? ⟨g, 0, none⟩ = some (.string code)) :
    Calls Tryz.prog 95 #[.slice A l.length c, .func (.func 96) #[] #[.pointer (some ⟨g, 0, none⟩)]] w fun e w' => e = .returned (.bool (decide (0 ≤ idxS code (codesK l)))) ∧ Below w.heap.size w w' := by
  have hcall := kidx_walk A l c g code w hn h hc
  clear h
  go_enter Tryz.func95, Tryz.ntmps95
  go_wp2_with fail
  refine hcall.mono ?_
  rintro e w' ⟨rfl, hb⟩
  go_wp2
  go_ret
  exact ⟨rfl, hb⟩
set_option maxHeartbeats 2000000 in
theorem khas_walk (A : Option Addr) (l : List Cls) (c : Nat) (code : ByteArray) (w : World) (hn : l.length ≤ 9223372036854775807) (h : At kCls AnyB w A l) :
    Calls Tryz.prog 59 #[.slice A l.length c, .string code] w fun e w' => e = .returned (.bool (decide (0 ≤ idxS code (codesK l)))) ∧ Below w.heap.size w w' := by
  have hb0 : Below w.heap.size w (w.alloc (.cells #[.string code] 9)) := ext_alloc (Below.refl _ _) _
  have hcall := kcon_walk A l c w.heap.size code _ hn (h.later hb0) (by simp)
  clear h
  go_enter Tryz.func59, Tryz.ntmps59
  go_wp2_with fail
  refine hcall.mono ?_
  rintro e w' ⟨rfl, hb⟩
  go_wp2
  go_ret
  exact ⟨rfl, ext_trans hb0 hb⟩
set_option maxHeartbeats 4000000 in
theorem r10index_walk (A : Option Addr) (l : List Cls) (c : Nat) (code : ByteArray) (w : World) (hn : l.length ≤ 9223372036854775807) (h : At kCls AnyB w A l) :
    Calls Tryz.prog 61 #[.slice A l.length c, .string code] w fun e w' => e = .returned (.int .i64 (idxS code (codesK l))) ∧ w = w' := by
  obtain ⟨N, hnn⟩ : ∃ N, l.length = N := ⟨_, rfl⟩
  have hnl : (codesK l).length = N := by rw [← hnn]; exact List.length_map _
  rw [hnn] at hn ⊢
  replace hnn := hide hnn
  replace hnl := hide hnl
  go_enter Tryz.func61, Tryz.ntmps61
  go_wp2
  go_loop [5] (fun i => ∃ j : Nat, j ≤ N ∧ i = .int .i64 j ∧ Hid (∀ y ∈ (codesK l).take j, (y.toList == code.toList) = false)) (fun i => N - (intOf i).toNat)
  case atStart => exact ⟨0, Nat.zero_le _, rfl, hide (fun y hy => by simp at hy)⟩
  case round =>
    obtain ⟨j, hj, rfl, ho⟩ := hrel
    by_cases hlt : j < N
    · obtain ⟨x, hx⟩ : ∃ x, l[j]? = some x := ⟨_, List.getElem?_eq_getElem (by rw [hnn.out]; exact hlt)⟩
      obtain ⟨b, off, A4, c4, A6, c6, A7, c7, A8, c8, rfl, -, hbb, ⟨qz, -, -, -, -, -, -, -, -⟩, -, -, -, -, -⟩ := h.clsF hx
      have q0 : w.cell? ⟨b, off + j * 9, none⟩ = some (.string x.1) := qz
      clear qz
      have hxn := codesK_get hx
      have hj0 : (0 : Int) ≤ (j : Int) := by omega
      have hj1 : (j : Int) < (N : Int) := by omega
      cases hq : (x.1.toList == code.toList) with
      | true =>
        have hit := hide (idxS_hit hxn ho.out hq)
        clear hx h ho hxn
        go_wp2
        go_ret
        exact ⟨by rw [hit.out]; rfl, rfl⟩
      | false =>
        have miss := hide (take_miss hxn ho.out hq)
        clear hx h ho hxn
        go_wp2
        go_round
        case rel => exact ⟨j + 1, by omega, by go_num, miss⟩
        case measure => simp [intOf]; omega
    · obtain rfl : j = N := by omega
      have hall : Hid (idxS code (codesK l) = -1) := hide (idxS_none fun y hy => ho.out y (by rw [List.take_of_length_le (by rw [hnl.out]; exact Nat.le_refl _)]; exact hy))
      clear h
      go_wp2
      go_ret
      exact ⟨by rw [hall.out]; rfl, rfl⟩
end Go.Proofs.YtimcdikeajbabaaGreatDoor
