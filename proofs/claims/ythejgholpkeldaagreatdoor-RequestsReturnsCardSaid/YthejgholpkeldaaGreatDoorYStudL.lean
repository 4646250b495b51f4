/- Requests that were made: they are valid, and are read as they were written (plain). No walk. Classes in rows of their own. No condition. The students of requests, and what each of them wants: sums and orders (plain). No walk. -/
import Derived.Test.YthejgholpkeldaaGreatDoorShelfS
import Derived.Test.YthejgholpkeldaaGreatDoorRows
import Derived.WalkKit
import Derived.WalkSpells
import Derived.WalkLawsBesides
import Derived.BigGuardPart
import Derived.Lib.Hide
import Derived.Laws.BitsAllLaws
import Derived.Laws.BitsLemmas
import Derived.Lib.LaidTab
import Derived.Test.YthejgholpkeldaaGreatDoorShelf
import Derived.Lib.ConvBytes
import Derived.Deep.QuietTactic
import Derived.BigQuiet
import Derived.Laws.ResultCell
import Derived.RegionTactic
import Derived.BigRegion
import Derived.Deep.RegionHeld3
import Derived.Deep.DeepCutAuto
import Derived.Lib.SmallJoins
import Derived.Lib.SplitLaws
import Derived.Lib.CountLaws
import Derived.Lib.IndexMore
import Derived.Lib.Split
import Derived.Lib.Join
import Derived.Lib.ItoaNum
import Derived.Laws.AppendOwn
import Derived.Test.YthejgholpkeldaaGreatDoorShelfT
import Derived.Lib.ItoaLen
import Derived.Lib.AppendIntMem
import Derived.Deep.AppendLies
import Derived.Lib.PathFns
import Derived.Maps.Range
import Derived.Lib.OwnBridge
import Derived.Sort.OwnSorted
import Derived.Sort.Walk0
import Derived.Test.YthejgholpkeldaaGreatDoorCards
import Derived.Test.YthejgholpkeldaaGreatDoorTie
import Derived.ProofKit
import Derived.OpenShut
import Derived.LaidMore
import Derived.Lay
import Derived.SevenTiedAt
import Derived.Stop.Joined
import Derived.Stop.LaidErr
import Derived.Deep.DeepHandedRow
import Derived.Lib.LaidU8
import Derived.LaidSub
import Derived.Deep.Slices
import Derived.Deep.Fields
import Derived.ChangeSame
import Derived.Maps.OwnSet
import Derived.Deep.RegionLaw
import Derived.Deep.RegionLawGrows
import Derived.StringKeys
import Derived.Sort.LotA
import Derived.Shelf.SlSortCmp.NoneTotal
import Derived.Shelf.SlSortCmp.InsertionK
import Derived.Shelf.SlSortCmp.SiftDownK
import Derived.Shelf.SlSortCmp.KitK
import Derived.Shelf.SlSortCmp.ReverseRangeK
import Derived.Test.YthejgholpkeldaaGreatDoorYPlainA
import Derived.Test.YthejgholpkeldaaGreatDoorYDCls
import Derived.Test.YthejgholpkeldaaGreatDoorYDigT
import Derived.Test.YthejgholpkeldaaGreatDoorYQSame
namespace Go.Proofs.YthejgholpkeldaaGreatDoor
open Go.RowKit
set_option maxRecDepth 100000

def sName (q : Nat) : ByteArray := (⟨#[115]⟩ : ByteArray) ++ ⟨#[UInt8.ofNat (48 + q)]⟩
/-- What is known of one made request. -/
def ReqIs (x : Req) : Prop := (∃ q, 1 ≤ q ∧ q ≤ 5 ∧ x.1 = sName q) ∧ x.2.1 ∈ mcourses ∧ 1 ≤ x.2.2.1 ∧ x.2.2.1 ≤ 9 ∧ (x.2.2.2 = [] ∨ ∃ z ∈ mcourses, z ≠ x.2.1 ∧ x.2.2.2 = [z])
def keyQ (x : Req) : ByteArray × ByteArray := (x.1, x.2.1)
def QMade (ls : List Req) : Prop := ls.length ≤ 15 ∧ (∀ x ∈ ls, ReqIs x) ∧ (ls.map keyQ).Nodup
theorem sName_ok : ∀ q : Nat, q < 6 → 1 ≤ q → codeB (sName q) = true ∧ (sName q).size ≤ 100 ∧ ∀ p : Nat, p < 6 → 1 ≤ p → sName p = sName q → p = q := by decide +kernel
theorem insE_is {x : Req} (h : ReqIs x) : insE x.2.1 x.2.2.2 x.2.2.2.length = 0 := by
  obtain ⟨-, -, -, -, h5⟩ := h
  rcases h5 with h5 | ⟨z, hz, hne, h5⟩
  · rw [h5]; rfl
  · rw [h5]
    show insE x.2.1 [z] 1 = 0
    rw [insE, if_neg (by simp [insE])]
    rw [show ([z] : List ByteArray).getD 0 ⟨#[]⟩ = z from rfl, if_neg (by rw [mcourses_ok z hz]; simp), if_neg]
    rintro (h | h)
    · exact hne h
    · have := idx_memS.1 h; simp at this
theorem reqEx_is {x : Req} (h : ReqIs x) : reqEx x = 0 := by
  have hi := insE_is h
  obtain ⟨⟨q, q1, q2, h1⟩, h2, h3, h4, h5⟩ := h
  unfold reqEx
  rw [if_neg (by rw [h1, (sName_ok q (by omega) q1).1]; simp), if_neg (by rw [mcourses_ok _ h2]; simp), if_neg (by omega), if_neg (by omega), if_neg (by rcases h5 with h5 | ⟨z, -, -, h5⟩ <;> rw [h5] <;> simp)]
  exact hi
theorem hasQ_take {ls : List Req} (hn : (ls.map keyQ).Nodup) {j : Nat} {x : Req} (hx : ls[j]? = some x) : hasQ (ls.take j) x.1 x.2.1 = false := by
  cases hh : hasQ (ls.take j) x.1 x.2.1 with
  | false => rfl
  | true =>
    exfalso
    obtain ⟨y, hy, hq⟩ := hasQ_iff.1 hh
    have hq := of_decide_eq_true hq
    obtain ⟨i, hi, he⟩ := List.mem_take_iff_getElem.1 hy
    have hj := (List.getElem?_eq_some_iff.1 hx).1
    have h1 : (ls.map keyQ)[i]? = some (x.1, x.2.1) := by
      rw [List.getElem?_map, List.getElem?_eq_getElem (by omega), he]
      show some (keyQ y) = _
      unfold keyQ
      rw [hq.1, hq.2]
    have h2 : (ls.map keyQ)[j]? = some (x.1, x.2.1) := by rw [List.getElem?_map, hx]; rfl
    have hlen : i < (ls.map keyQ).length := by rw [List.length_map]; omega
    have := (List.getElem_inj (h₀ := hlen) (h₁ := by rw [List.length_map]; exact hj) hn).1 (by
      have e1 := (List.getElem?_eq_some_iff.1 h1).2
      have e2 := (List.getElem?_eq_some_iff.1 h2).2
      rw [e1, e2])
    omega
theorem validQ_of {ls : List Req} (h4 : ls.length ≤ 400) (h : ∀ (j : Nat) (x : Req), ls[j]? = some x → reqE x (ls.take j) = 0) : validQ ls = 0 := by
  unfold validQ
  rw [if_neg (by omega)]
  have key : ∀ n, n ≤ ls.length → reqErr ls n = 0 := by
    intro n
    induction n with
    | zero => intro _; rfl
    | succ n ih =>
      intro hn
      exact req_on (List.getElem?_eq_getElem (by omega)) (ih (by omega)) (h n _ (List.getElem?_eq_getElem (by omega)))
  exact key _ (Nat.le_refl _)
theorem QMade.valid {ls : List Req} (h : QMade ls) : validQ ls = 0 := by
  obtain ⟨h1, h2, h3⟩ := h
  refine validQ_of (by omega) fun j x hx => ?_
  unfold reqE
  rw [if_neg (by rw [reqEx_is (h2 x (List.mem_of_getElem? hx))]; simp), if_neg (by rw [hasQ_take h3 hx]; simp), if_neg]
  have := fresh_len (studs (ls.take j ++ [x]))
  have h5 : (studs (ls.take j ++ [x])).length ≤ 16 := by unfold studs; rw [List.length_map, List.length_append, List.length_take]; simp; omega
  omega
theorem join_back : ∀ a ∈ ([] :: mcourses.map fun z => [z]), shortV (joinV a).2 = (0, a) ∧ (listV (joinV a).2).2 = a ∧ (joinV a).2.size ≤ 100 := by decide +kernel
theorem dec_back : ∀ n : Nat, n < 10 → 1 ≤ n → numS 1 (decB n) = some n ∧ (decB n).size ≤ 100 := by decide +kernel
theorem mcourses_size : ∀ z ∈ mcourses, z.size ≤ 100 := by decide +kernel
theorem ins_mem {x : Req} (h : ReqIs x) : x.2.2.2 ∈ ([] :: mcourses.map fun z => [z]) := by
  obtain ⟨-, -, -, -, h5⟩ := h
  rcases h5 with h5 | ⟨z, hz, -, h5⟩
  · rw [h5]; simp
  · rw [h5]; exact List.mem_cons_of_mem _ (List.mem_map.2 ⟨z, hz, rfl⟩)
theorem rowQ_small {x : Req} (h : ReqIs x) : (rowQ x).length = 4 ∧ ∀ z ∈ rowQ x, z.size ≤ 100 := by
  refine ⟨rfl, fun z hz => ?_⟩
  have h6 := (join_back _ (ins_mem h)).2.2
  obtain ⟨⟨q, q1, q2, h1⟩, h2, h3, h4, h5⟩ := h
  unfold rowQ at hz
  simp at hz
  rcases hz with rfl | rfl | rfl | rfl
  · rw [h1]; exact (sName_ok q (by omega) q1).2.1
  · exact mcourses_size _ h2
  · exact (dec_back x.2.2.1.toNat (by omega) (by omega)).2
  · exact h6
theorem text4 (a b c d : ByteArray) : textAt (plainF 1 [a, b, c, d]) 0 = a ∧ textAt (plainF 1 [a, b, c, d]) 1 = b ∧ textAt (plainF 1 [a, b, c, d]) 2 = c ∧ textAt (plainF 1 [a, b, c, d]) 3 = d ∧ (plainF 1 [a, b, c, d]).length = 4 := ⟨rfl, rfl, rfl, rfl, rfl⟩
theorem row_back {x : Req} (h : ReqIs x) (ls : List Req) (hh : hasQ ls x.1 x.2.1 = false) (hl : ls.length ≤ 15) : (reqKE (plainF 1 (rowQ x)) ls).2 = 0 ∧ reqOf (plainF 1 (rowQ x)) = x := by
  obtain ⟨j1, j2, -⟩ := join_back _ (ins_mem h)
  have hi := ins_mem h
  obtain ⟨⟨q, q1, q2, h1⟩, h2, h3, h4, h5⟩ := h
  obtain ⟨n, hn⟩ := Int.eq_ofNat_of_zero_le (show 0 ≤ x.2.2.1 by omega)
  obtain ⟨d1, -⟩ := dec_back n (by omega) (by omega)
  have hn2 : x.2.2.1.toNat = n := by rw [hn]; rfl
  obtain ⟨e0, e1, e2, e3, e4⟩ := text4 x.1 x.2.1 (decB n) (joinV x.2.2.2).2
  have hrow : rowQ x = [x.1, x.2.1, decB n, (joinV x.2.2.2).2] := by unfold rowQ; rw [hn2]
  rw [hrow]
  constructor
  · unfold reqKE
    rw [e0, e1, e2, e3, e4, j1]
    rw [if_neg (by simp), if_neg (by rw [h1, (sName_ok q (by omega) q1).1]; simp), if_neg (by rw [mcourses_ok _ h2]; simp), if_neg (by rw [d1]; simp), if_neg (by simp), if_neg, if_neg (by rw [hh]; simp), if_neg]
    · unfold manyQ
      have := fresh_len (studs ls)
      have h6 : (studs ls).length ≤ 15 := by unfold studs; rw [List.length_map]; exact hl
      rw [decide_eq_false (show ¬ 400 ≤ ls.length by omega), decide_eq_false (show ¬ 64 ≤ (freshS (studs ls)).length by omega)]
      simp
    · show ¬ 0 ≤ idxS x.2.1 x.2.2.2
      intro hc
      have hc := idx_memS.1 hc
      rcases h5 with h5 | ⟨z, -, hne, h5⟩
      · rw [h5] at hc; simp at hc
      · rw [h5] at hc; simp at hc; exact hne hc.symm
  · unfold reqOf
    rw [e0, e1, e2, e3, j2, numS_numE d1]
    show (x.1, x.2.1, (n : Int), x.2.2.2) = x
    rw [← hn]
theorem QMade.back {ls : List Req} (h : QMade ls) : (readReq (plainR 1 (ls.map rowQ))).ls = ls ∧ (readReq (plainR 1 (ls.map rowQ))).ps = [] := by
  obtain ⟨h1, h2, h3⟩ := h
  have key : ∀ n, n ≤ ls.length → (readReq (plainR 1 ((ls.take n).map rowQ))).ls = ls.take n ∧ (readReq (plainR 1 ((ls.take n).map rowQ))).ps = [] := by
    intro n
    induction n with
    | zero => intro _; exact ⟨rfl, rfl⟩
    | succ n ih =>
      intro hn
      obtain ⟨i1, i2⟩ := ih (by omega)
      have hx : ls[n]? = some ls[n] := List.getElem?_eq_getElem (by omega)
      have ht : ls.take (n + 1) = ls.take n ++ [ls[n]] := by rw [List.take_add_one, hx]; rfl
      obtain ⟨b1, b2⟩ := row_back (h2 _ (List.mem_of_getElem? hx)) (ls.take n) (hasQ_take h3 hx) (by rw [List.length_take]; omega)
      rw [ht, List.map_append, List.map_cons, List.map_nil, plainR_snoc]
      obtain ⟨ln, hln⟩ : ∃ ln, (1 : Int) + (((ls.take n).map rowQ).length : Nat) = ln := ⟨_, rfl⟩
      rw [hln]
      have hst : readReq (plainR 1 ((ls.take n).map rowQ) ++ [(ln, plainF 1 (rowQ ls[n]))]) = gathStep 4 reqP reqOf (readReq (plainR 1 ((ls.take n).map rowQ))) (ln, plainF 1 (rowQ ls[n])) := by simp [readReq, readAll, List.foldl_append]
      rw [hst, req_step, if_pos (by rw [i1]; exact b1)]
      exact ⟨by rw [i1, b2], i2⟩
  have := key ls.length (Nat.le_refl _)
  rwa [List.take_length] at this
theorem rowsQ_small {ls : List Req} (h : QMade ls) : rowsQ ls = ls.map rowQ ∧ (rowsQ ls).length = ls.length ∧ ∀ x ∈ rowsQ ls, x.length = 4 ∧ ∀ z ∈ x, z.size ≤ 100 := by
  have e : rowsQ ls = ls.map rowQ := if_pos h.valid
  refine ⟨e, by rw [e, List.length_map], fun x hx => ?_⟩
  rw [e] at hx
  obtain ⟨y, hy, rfl⟩ := List.mem_map.1 hx
  exact rowQ_small (h.2.1 y hy)
end Go.Proofs.YthejgholpkeldaaGreatDoor

namespace Go.Proofs.YthejgholpkeldaaGreatDoor
open Go.RowKit
set_option maxRecDepth 100000

theorem apd_clss : Apd Tryz.prog 29 65 9 160 := apd Tryz.underlying29 (z := .agg #[.string ⟨#[]⟩, .string ⟨#[]⟩, .string ⟨#[]⟩, .int .i64 0, .slice none 0 0, .int .i64 0, .slice none 0 0, .slice none 0 0, .slice none 0 0]) (by kernel_rfl) rfl
abbrev clsTs : List TypeId := [3, 9, 95]
/-- A class whose rows are known. -/
theorem cls_rep {S : Nat → Prop} {W : World} {q : Nine} {ps : List Int} {fs st : List ByteArray} {ss : List (Int × Int)} (h4 : (kSlice kInt).rep S W ps [.slice q.A4 q.n4 q.c4]) (h6 : (kSlice kStr).rep S W fs [.slice q.A6 q.n6 q.c6]) (h7 : (kSlice kStr).rep S W st [.slice q.A7 q.n7 q.c7]) (h8 : (kSlice kStart).rep S W ss [.slice q.A8 q.n8 q.c8]) :
    kCls.rep S W (q.z, q.co, q.pa, q.n, ps, q.m, fs, st, ss) (cboxV q).toList :=
  ⟨[_], _, rfl, rfl, [_], _, rfl, rfl, [_], _, rfl, rfl, [_], _, rfl, rfl, [_], _, rfl, h4, [_], _, rfl, rfl, [_], _, rfl, h6, [_], _, rfl, h7, h8⟩
theorem Own.ne {α : Type} {K : Kind α} {t : TypeId} {ts : List TypeId} {C g n k : Nat} {W : World} {A : Option Addr} {l : List α} (h : Own K t ts 0 C W (.slice A n k) l) (hg : g < C) : At K (fun b => b ≠ g) W A l := by
  obtain ⟨A', c', e, -, h1⟩ := h.at
  injection e with e _ _
  subst e
  refine h1.more fun b hb => ?_
  rcases hb with hb | ⟨hb, -⟩
  · exact absurd hb (Nat.not_lt_zero _)
  · omega
/-- A class's box is written. -/
theorem Own.boxed {α : Type} {K : Kind α} {t : TypeId} {ts : List TypeId} {B x i : Nat} {W : World} {v u : Value} {l : List α} {q : Nine} (h : Own K t ts 0 B W v l) (hc : CBox W x q) (hx : ∀ y, v.ownBlock = some y → y ≠ x) (ht : 65 ∉ ts) : Own K t ts 0 B (W.setCell ⟨x, i, none⟩ u) v l := by
  refine h.kept (only_setCell (g := x) (World.grownBy.refl _ _) (Or.inl rfl) _) ?_ (fun y hy => ⟨Nat.zero_le _, fun ⟨_, cs, t', hcs, hm⟩ => ?_⟩)
  · cases hv : v.ownBlock with
    | none => exact .inl rfl
    | some y => exact .inr fun e => hx y hv (by injection e)
  · injection hy with hy
    subst hy
    unfold CBox at hc
    rw [hc] at hcs
    injection hcs with h1
    injection h1 with _ h2
    exact ht (h2 ▸ hm)
theorem Own.tsMore {α : Type} {K : Kind α} {t : TypeId} {ts : List TypeId} {B0 B : Nat} {W : World} {l : List α} {v : Value} (h : Own K t [] B0 B W v l) (ht : t ∈ ts) : (kSlice K).rep (Ty ts B0 B W) W l [v] :=
  (kSlice K).more h.rep fun b hb => by
    rcases hb with hb | ⟨hb, cs, t', hc, hm⟩
    · exact .inl hb
    · simp at hm; subst hm; exact .inr ⟨hb, cs, t', hc, ht⟩
end Go.Proofs.YthejgholpkeldaaGreatDoor

namespace Go.Proofs.YthejgholpkeldaaGreatDoor
open Go.RowKit
set_option maxRecDepth 100000

theorem studsV_perm (l : List Req) : (studsV l).Perm (freshS (studs l)) := ascG_perm _
theorem studsV_mem (l : List Req) (z : ByteArray) : z ∈ studsV l ↔ ∃ x ∈ l, x.1 = z := by
  rw [(studsV_perm l).mem_iff, mem_fresh]
  unfold studs
  exact List.mem_map
theorem studsV_nodup (l : List Req) : (studsV l).Nodup := (studsV_perm l).nodup_iff.2 (fresh_nodup _)
theorem studsV_len (l : List Req) : (studsV l).length ≤ l.length := by
  have h : ∀ (l m : List ByteArray), l.Nodup → (∀ z ∈ l, z ∈ m) → l.length ≤ m.length := fun l m h1 h2 => List.Nodup.length_le_of_subset h1 h2
  have := h (studsV l) (studs l) (studsV_nodup l) (fun z hz => by
    obtain ⟨x, hx, e⟩ := (studsV_mem l z).1 hz
    exact List.mem_map.2 ⟨x, hx, e⟩)
  simpa [studs] using this
/-- Students stand in ascending order, no two alike. -/
theorem studsV_up (l : List Req) {i : Nat} {y z : ByteArray} (h1 : (studsV l)[i]? = some y) (h2 : (studsV l)[i + 1]? = some z) : compareV y.data.toList z.data.toList < 0 := by
  have hs : (studsV l).Pairwise (LeG lessN) := ascN_sorted _
  have hd := studsV_nodup l
  obtain ⟨a1, b1⟩ := List.getElem?_eq_some_iff.1 h1
  obtain ⟨a2, b2⟩ := List.getElem?_eq_some_iff.1 h2
  have hle : LeG lessN y z := by
    rw [← b1, ← b2]
    exact List.pairwise_iff_getElem.1 hs i (i + 1) a1 a2 (by omega)
  have hne : y ≠ z := by
    rw [← b1, ← b2]
    exact List.pairwise_iff_getElem.1 hd i (i + 1) a1 a2 (by omega)
  rcases Int.lt_or_le (compareV y.data.toList z.data.toList) 0 with h | h
  · exact h
  · exact absurd (lessN_anti y z hle ((lessN_no _ _).2 h)) hne
/-- How many requests students have between them. -/
def cntQ (l : List Req) (ss : List ByteArray) : Nat := (ss.map fun s => (wantV s l).length).sum
theorem wantV_len (s : ByteArray) (l : List Req) : (wantV s l).length = (ofS s l).length := ascG_len _
theorem cntQ_take {l : List Req} {ss : List ByteArray} {i : Nat} {s : ByteArray} (h : ss[i]? = some s) : cntQ l (ss.take (i + 1)) = cntQ l (ss.take i) + (wantV s l).length := by
  unfold cntQ
  rw [List.take_add_one, h, List.map_append, List.sum_append]
  simp
theorem sum_one (x : ByteArray) : ∀ ss : List ByteArray, ss.Nodup → x ∈ ss → (ss.map fun s => if x = s then 1 else 0).sum = 1
  | [], _, h => by simp at h
  | s :: ss, hn, h => by
    obtain ⟨h1, h2⟩ := List.nodup_cons.1 hn
    rw [List.map_cons, List.sum_cons]
    by_cases e : x = s
    · subst e
      have h0 : ∀ ss : List ByteArray, x ∉ ss → (ss.map fun s => if x = s then 1 else 0).sum = 0 := by
        intro ss
        induction ss with
        | nil => intro _; rfl
        | cons t ss ih =>
          intro h
          rw [List.map_cons, List.sum_cons, if_neg (fun e => h (by simp [e])), ih (fun h' => h (by simp [h']))]
      rw [if_pos rfl, h0 ss h1]
    · rw [if_neg e, sum_one x ss h2 (by simpa [e] using h)]
theorem sum_add (f g : ByteArray → Nat) : ∀ ss : List ByteArray, (ss.map fun s => f s + g s).sum = (ss.map f).sum + (ss.map g).sum
  | [] => rfl
  | s :: ss => by
    rw [List.map_cons, List.map_cons, List.map_cons, List.sum_cons, List.sum_cons, List.sum_cons, sum_add f g ss]; omega
theorem cntQ_all (ss : List ByteArray) (hn : ss.Nodup) : ∀ l : List Req, (∀ x ∈ l, x.1 ∈ ss) → cntQ l ss = l.length
  | [], _ => by
    unfold cntQ
    have : ∀ ss : List ByteArray, (ss.map fun s => (wantV s []).length).sum = 0 := by
      intro ss
      induction ss with
      | nil => rfl
      | cons s ss ih => rw [List.map_cons, List.sum_cons, ih]; rfl
    exact this ss
  | x :: l, h => by
    have ih := cntQ_all ss hn l (fun y hy => h y (by simp [hy]))
    have h1 := sum_one x.1 ss hn (h x (by simp))
    unfold cntQ at ih ⊢
    have e : (fun s => (wantV s (x :: l)).length) = fun s => (if x.1 = s then 1 else 0) + (wantV s l).length := by
      funext s
      rw [wantV_len, wantV_len]
      unfold ofS
      rw [List.filter_cons]
      by_cases e : x.1 = s
      · simp [e]; omega
      · simp [e]
    rw [e, sum_add, h1, ih, List.length_cons]; omega
theorem cntQ_studs (l : List Req) : cntQ l (studsV l) = l.length := cntQ_all _ (studsV_nodup l) l fun x hx => (studsV_mem l x.1).2 ⟨x, hx, rfl⟩
theorem cntQ_le (l : List Req) (i : Nat) : cntQ l ((studsV l).take i) ≤ l.length := by
  have h := cntQ_studs l
  rw [← List.take_append_drop i (studsV l)] at h
  unfold cntQ at h ⊢
  rw [List.map_append, List.sum_append] at h
  omega
theorem wantV_is {s : ByteArray} {l : List Req} {k : Nat} {x : Req} (h : (wantV s l)[k]? = some x) : x.1 = s ∧ x ∈ l := by
  have hm : x ∈ ofS s l := (ascG_perm (ofS s l)).mem_iff.1 (List.mem_of_getElem? h)
  obtain ⟨h1, h2⟩ := List.mem_filter.1 hm
  exact ⟨by simpa using h2, h1⟩
theorem wantV_up {s : ByteArray} {l : List Req} {k : Nat} {x y : Req} (h1 : (wantV s l)[k]? = some x) (h2 : (wantV s l)[k + 1]? = some y) : x.2.2.1 ≤ y.2.2.1 := by
  have hs : (wantV s l).Pairwise (LeG lessQ) := ascG_sorted (fun x y z h1 h2 => by unfold lessQ at *; simp at *; omega) (fun x y h => by unfold lessQ at *; simp at *; omega) _
  obtain ⟨a1, b1⟩ := List.getElem?_eq_some_iff.1 h1
  obtain ⟨a2, b2⟩ := List.getElem?_eq_some_iff.1 h2
  have hle : LeG lessQ x y := by
    rw [← b1, ← b2]
    exact List.pairwise_iff_getElem.1 hs k (k + 1) a1 a2 (by omega)
  unfold LeG lessQ at hle
  simpa using hle
theorem studs_small {ls : List Req} (h : QMade ls) : (studsV ls).length ≤ 15 ∧ ∀ z ∈ studsV ls, z.size ≤ 100 := by
  refine ⟨Nat.le_trans (studsV_len ls) h.1, fun z hz => ?_⟩
  obtain ⟨x, hx, rfl⟩ := (studsV_mem ls z).1 hz
  obtain ⟨⟨q, q1, q2, h1⟩, -⟩ := h.2.1 x hx
  rw [h1]
  exact (sName_ok q (by omega) q1).2.1
/-- The sizes that the functions ask for. -/
theorem QMade.sizes {ls : List Req} (h : QMade ls) : ∀ x ∈ ls, x.1.size ≤ 100 ∧ x.2.1.size ≤ 100 ∧ x.2.2.2.length ≤ 1 := fun x hx => by
  obtain ⟨⟨q, q1, q2, h1⟩, h2, -, -, h5⟩ := h.2.1 x hx
  refine ⟨by rw [h1]; exact (sName_ok q (by omega) q1).2.1, mcourses_size _ h2, ?_⟩
  rcases h5 with h5 | ⟨z, -, -, h5⟩ <;> rw [h5] <;> simp
end Go.Proofs.YthejgholpkeldaaGreatDoor
