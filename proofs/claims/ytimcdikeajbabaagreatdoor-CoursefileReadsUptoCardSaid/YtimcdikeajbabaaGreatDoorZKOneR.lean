/- Walk of timetableref10.one. Conditions: texts shorter than 2^30 bytes; a grid's bounds; what the program's variables hold. -/
import Derived.Test.YtimcdikeajbabaaGreatDoorRows
import Derived.WalkKit
import Derived.WalkSpells
import Derived.WalkLawsBesides
import Derived.BigGuardPart
import Derived.Lib.Hide
import Derived.Laws.BitsAllLaws
import Derived.Laws.BitsLemmas
import Derived.Lib.LaidTab
import Derived.Test.YtimcdikeajbabaaGreatDoorShelf
import Derived.Lib.ConvBytes
import Derived.Deep.QuietTactic
import Derived.BigQuiet
import Derived.Test.YtimcdikeajbabaaGreatDoorShelfS
import Derived.Laws.ResultCell
import Derived.RegionTactic
import Derived.BigRegion
import Derived.Deep.RegionHeld3
import Derived.Deep.DeepCutAuto
import Derived.Lib.SmallJoins
import Derived.Lib.SplitLaws
import Derived.Lib.CountLaws
import Derived.Lib.IndexMore
import Derived.Lib.Split
import Derived.Lib.Join
import Derived.Lib.ItoaNum
import Derived.Laws.AppendOwn
import Derived.Test.YtimcdikeajbabaaGreatDoorShelfT
import Derived.Lib.ItoaLen
import Derived.Lib.AppendIntMem
import Derived.Deep.AppendLies
import Derived.Lib.PathFns
import Derived.Maps.Range
import Derived.Lib.OwnBridge
import Derived.Sort.OwnSorted
import Derived.Sort.Walk0
import Derived.Test.YtimcdikeajbabaaGreatDoorCards
import Derived.Test.YtimcdikeajbabaaGreatDoorTie
import Derived.ProofKit
import Derived.OpenShut
import Derived.LaidMore
import Derived.Lay
import Derived.SevenTiedAt
import Derived.Stop.Joined
import Derived.Stop.LaidErr
import Derived.Deep.DeepHandedRow
import Derived.Lib.LaidU8
import Derived.LaidSub
import Derived.Deep.Slices
import Derived.Deep.Fields
import Derived.ChangeSame
import Derived.Deep.RegionLaw
import Derived.Deep.RegionLawGrows
import Derived.Shelf.SlSortCmp.NoneTotal
import Derived.Ground.SlsfProg
import Derived.Lib.SliceRun
import Derived.Lib.Walk
import Derived.Test.YtimcdikeajbabaaGreatDoorZTwo
import Derived.Test.YtimcdikeajbabaaGreatDoorZAscR
import Derived.Test.YtimcdikeajbabaaGreatDoorZKOneP
import Derived.Test.YtimcdikeajbabaaGreatDoorZHasK
import Derived.Test.YtimcdikeajbabaaGreatDoorZShort
import Derived.Test.YtimcdikeajbabaaGreatDoorZKStart1
namespace Go.Proofs.YtimcdikeajbabaaGreatDoor
open Go.RowKit
set_option maxRecDepth 100000

def nineZ : Nine := ⟨⟨#[]⟩, ⟨#[]⟩, ⟨#[]⟩, 0, none, 0, 0, 0, none, 0, 0, none, 0, 0, none, 0, 0⟩
theorem end_cls3 {fn : Func} {p u v : Tmp} (hr : fn.results = #[.cell p 47, .tmp u, .tmp v]) {Q : Ending → World → Prop} {act : Act} {w : World} (g : Nat) (q : Nine) (x y : Value) (hd : act.defers = [])
    (hp : act.tmps.getD p undef = .pointer (some ⟨g, 0, none⟩)) (hx : act.tmps.getD u undef = x) (hy : act.tmps.getD v undef = y)
    (h : CBox w g q) (hQ : Q (.returned (.tuple #[.agg (cboxV q), x, y])) w) : bodyPost Tryz.prog fn Q .ret act w := by
  refine bodyPost_ret (v := .tuple #[.agg (cboxV q), x, y]) ?_ hd hQ
  simp only [results, hr]
  simp [Sem.run_bind, Result.andThen, -Array.getD_eq_getD_getElem?]
  rw [hp, hx, hy]
  simp only [asAddr, Sem.run_pure]
  rw [load9 w g q h]
def OneKGives (d sl n : Int) (fs : List Fld) (ls : List Cls) (w : World) (e : Ending) (w' : World) : Prop :=
  ∃ (q : Nine) (ps : List Int) (f6 f7 : List ByteArray) (ss : List (Int × Int)), e = .returned (.tuple #[.agg (cboxV q), .int .i64 (clsKE d sl n fs ls).1, .int .i64 (clsKE d sl n fs ls).2]) ∧
    Own kInt 3 [] 0 w.heap.size w' (.slice q.A4 q.n4 q.c4) ps ∧ Own kStr 9 [] 0 w.heap.size w' (.slice q.A6 q.n6 q.c6) f6 ∧ Own kStr 9 [] 0 w.heap.size w' (.slice q.A7 q.n7 q.c7) f7 ∧ Own kStart 70 [] 0 w.heap.size w' (.slice q.A8 q.n8 q.c8) ss ∧
    ((clsKE d sl n fs ls).2 = 0 → (q.z, q.co, q.pa, q.n, ps, q.m, f6, f7, ss) = clsOf d sl n fs) ∧ Below w.heap.size w w'
theorem below_set9 {w0 W : World} {r B : Nat} {q : Nine} (h : Below B w0 W) (hr : B ≤ r) : Below B w0 (set9 W r q) :=
  ((((((((h.setCell (p := ⟨r, 0, none⟩) hr _).setCell (p := ⟨r, 1, none⟩) hr _).setCell (p := ⟨r, 2, none⟩) hr _).setCell (p := ⟨r, 3, none⟩) hr _).setCell (p := ⟨r, 4, none⟩) hr _).setCell (p := ⟨r, 5, none⟩) hr _).setCell (p := ⟨r, 6, none⟩) hr _).setCell (p := ⟨r, 7, none⟩) hr _).setCell (p := ⟨r, 8, none⟩) hr _
/-- What is known behind each step: the class so far, the result's cell, the grid, the rows of their own. -/
structure CSt (w0 : World) (q rb gb : Nat) (d sl b m : Int) (R : Nine) (ps : List Int) (f6 f7 : List ByteArray) (ss : List (Int × Int)) (W : World) : Prop where
  hb : Below w0.heap.size w0 W
  hR : CBox W rb R
  hQ : CBox W q nineZ
  hG : Box4 W gb (.int .i64 d) (.int .i64 sl) (.int .i64 b) (.int .i64 m)
  o4 : Own kInt 3 [] 0 (rb + 1) W (.slice R.A4 R.n4 R.c4) ps
  o6 : Own kStr 9 [] 0 (rb + 1) W (.slice R.A6 R.n6 R.c6) f6
  o7 : Own kStr 9 [] 0 (rb + 1) W (.slice R.A7 R.n7 R.c7) f7
  o8 : Own kStart 70 [] 0 (rb + 1) W (.slice R.A8 R.n8 R.c8) ss
section
variable {w0 W W' : World} {q rb gb : Nat} {d sl b m n : Int} {R R' : Nine} {ps ps' : List Int} {f6 f7 f6' f7' : List ByteArray} {ss ss' : List (Int × Int)}
theorem CSt.later (S : CSt w0 q rb gb d sl b m R ps f6 f7 ss W) (h : Below W.heap.size W W') : CSt w0 q rb gb d sl b m R ps f6 f7 ss W' :=
  ⟨ext_trans S.hb h, S.hR.later h, S.hQ.later h, S.hG.later h, S.o4.later h, S.o6.later h, S.o7.later h, S.o8.later h⟩
theorem CSt.set (S : CSt w0 q rb gb d sl b m R ps f6 f7 ss W) (i : Nat) (u : Value) (hr : w0.heap.size ≤ rb) (hqr : q ≠ rb) (hgr : gb ≠ rb) (hR' : CBox (W.setCell ⟨rb, i, none⟩ u) rb R')
    (p4 : Own kInt 3 [] 0 (rb + 1) W (.slice R'.A4 R'.n4 R'.c4) ps') (p6 : Own kStr 9 [] 0 (rb + 1) W (.slice R'.A6 R'.n6 R'.c6) f6') (p7 : Own kStr 9 [] 0 (rb + 1) W (.slice R'.A7 R'.n7 R'.c7) f7') (p8 : Own kStart 70 [] 0 (rb + 1) W (.slice R'.A8 R'.n8 R'.c8) ss') :
    CSt w0 q rb gb d sl b m R' ps' f6' f7' ss' (W.setCell ⟨rb, i, none⟩ u) := by
  have ho : Only rb W (W.setCell ⟨rb, i, none⟩ u) := only_setCell (Only.refl rb W) (p := ⟨rb, i, none⟩) (Or.inl rfl) u
  have hlt : rb < rb + 1 := Nat.lt_succ_self rb
  exact ⟨S.hb.setCell (p := ⟨rb, i, none⟩) hr u, hR', S.hQ.set_other (fun e => hqr e.symm) i u, S.hG.setOther hgr i, p4.noteT ho hlt, p6.noteT ho hlt, p7.noteT ho hlt, p8.noteT ho hlt⟩
theorem CSt.fin {fs : List Fld} {ls : List Cls} {k e : Int} (S : CSt w0 q rb gb d sl b m R ps f6 f7 ss W) (hK : clsKE d sl n fs ls = (k, e)) (he : e = 0 → (R.z, R.co, R.pa, R.n, ps, R.m, f6, f7, ss) = clsOf d sl n fs) (hq : w0.heap.size ≤ q) (hqr : q < rb + 1) :
    OneKGives d sl n fs ls w0 (.returned (.tuple #[.agg (cboxV R), .int .i64 k, .int .i64 e])) (set9 W q R) := by
  have ho : Only q W (set9 W q R) := set9_only (Only.refl q W) (Or.inl rfl)
  unfold OneKGives
  rw [hK]
  exact ⟨R, ps, f6, f7, ss, rfl, (S.o4.noteT ho hqr).lower (by omega), (S.o6.noteT ho hqr).lower (by omega), (S.o7.noteT ho hqr).lower (by omega), (S.o8.noteT ho hqr).lower (by omega), he, below_set9 S.hb hq⟩
end
/-- The length and its error, by the number that Small gives. -/
theorem len_small (sl : Int) (t : ByteArray) : lenE sl t = (if numV t.data.toList = 0 then 4 else if sl < ((numV t.data.toList : Nat) : Int) then 3 else 0) ∧ (numV t.data.toList ≠ 0 → lenOf t = ((numV t.data.toList : Nat) : Int)) := by
  have h := numS_numL t
  unfold lenE lenOf
  cases hn : numL t.data.toList with
  | none =>
    rw [hn] at h
    have hv : numV t.data.toList = 0 := by unfold numV; rw [hn]; rfl
    rw [h, hv]
    exact ⟨rfl, fun h => absurd rfl h⟩
  | some k =>
    rw [hn] at h
    have hv : numV t.data.toList = k := by unfold numV; rw [hn]; rfl
    have hk := numV_pos (l := t.data.toList) (by unfold numOk; rw [hn]; rfl)
    rw [hv] at hk
    rw [h, numS_someK h, hv, if_neg (show ¬ (some k = none) from fun h => by cases h), if_neg (show ¬ k = 0 by omega)]
    exact ⟨rfl, fun _ => rfl⟩
theorem c6_set8 {fb o1 rb gb : Nat} {v1 v2 v3 v4 v5 v6 : Value} {W : World} (h : Cn6 fb o1 v1 rb 3 v2 gb 0 v3 gb 1 v4 gb 2 v5 gb 3 v6 W) (hf : fb ≠ rb) (hg : gb ≠ rb) (u : Value) : Cn6 fb o1 v1 rb 3 v2 gb 0 v3 gb 1 v4 gb 2 v5 gb 3 v6 (W.setCell ⟨rb, 8, none⟩ u) := by
  obtain ⟨h1, h2, h3, h4, h5, h6⟩ := h
  exact ⟨cell_set_other h1 hf u, (World.cell?_setCell_other _ _ _ _ (by simp)).trans h2, cell_set_other h3 hg u, cell_set_other h4 hg u, cell_set_other h5 hg u, cell_set_other h6 hg u⟩
set_option maxHeartbeats 16000000 in
theorem r10one_walk (d sl b m n line : Int) (F : Option Addr) (fs : List Fld) (c : Nat) (A : Option Addr) (ls : List Cls) (cr : Nat) (w : World) (hS : Std w) (hW : Wds w) (hD : Dys w) (hsl : 1 ≤ sl ∧ sl ≤ 24)
    (hF : FieldsAt w.heap.size w F fs) (hq : ls.length ≤ 24) (hs : ∀ f ∈ fs, f.1.size < 1073741824) (hX : At kCls (· < w.heap.size) w A ls) :
    Calls Tryz.prog 74 #[.agg #[.int .i64 line, .slice F fs.length c], .agg #[.int .i64 d, .int .i64 sl, .int .i64 b, .int .i64 m], .int .i64 n, .slice A ls.length cr] w fun e w' => OneKGives d sl n fs ls w e w' := by
  by_cases hm : fs.length = 9
  · obtain ⟨fb, fo, rfl, hfb, hfc⟩ := hF (by omega)
    have hk : ∀ k, k < 9 → ∀ W, Below w.heap.size w W → W.cell? ⟨fb, fo + k * 3, none⟩ = some (.string (textAt fs k)) := fun k h W hW => by
      have := (hfc k (by omega)).1
      rw [textC_at] at this
      exact (hW.cell (p := ⟨fb, _, none⟩) hfb).trans this
    have hs2 : ∀ k, k < 9 → (textAt fs k).size < 1073741824 := fun k h => by rw [← textC_at (show k < fs.length by omega)]; exact hs _ (List.getElem_mem _)
    have hs4 := hs2 4 (by omega)
    have hs6 := hs2 6 (by omega)
    have hs7 := hs2 7 (by omega)
    have hs8 := hs2 8 (by omega)
    have hm2 : ((fs.length : Int) != 9) = false := by simp; omega
    have hKE : Hid (clsKE d sl n fs ls = if codeB (textAt fs 0) = false then (0, 10) else if codeB (textAt fs 1) = false then (1, 10) else if codeB (textAt fs 2) = false then (2, 10) else if lenE sl (textAt fs 3) ≠ 0 then (3, lenE sl (textAt fs 3)) else if patsRE n (slashOf (textAt fs 4)) ≠ 0 then (4, patsRE n (slashOf (textAt fs 4))) else if numE 4 (textAt fs 5) = none then (5, 4) else if (shortV (textAt fs 6)).1 ≠ 0 then (6, ((shortV (textAt fs 6)).1 : Int)) else if (shortV (textAt fs 7)).1 ≠ 0 then (7, ((shortV (textAt fs 7)).1 : Int)) else if startsRE d sl (lenOf (textAt fs 3)) (partsOf (textAt fs 8)) ≠ 0 then (8, startsRE d sl (lenOf (textAt fs 3)) (partsOf (textAt fs 8))) else if 0 ≤ idxS (textAt fs 0) (codesK ls) then (-1, 11) else if ls.length = 24 then (-1, 2) else (0, 0)) :=
      hide (by unfold clsKE; rw [if_neg (show ¬ fs.length ≠ 9 from fun h => h hm)])
    have hbad : Hid (∀ k : Nat, k < 3 → (∀ j, j < k → codeB (textAt fs j) = true) → codeB (textAt fs k) = false → clsKE d sl n fs ls = ((k : Int), 10)) := hide fun k hk3 hg hb => by
      rw [hKE.out]
      match k, hk3 with
      | 0, _ => rw [if_pos hb]; rfl
      | 1, _ => rw [if_neg (by rw [hg 0 (by omega)]; simp), if_pos hb]; rfl
      | 2, _ => rw [if_neg (by rw [hg 0 (by omega)]; simp), if_neg (by rw [hg 1 (by omega)]; simp), if_pos hb]; rfl
    have hOf : Hid (clsOf d sl n fs = (textAt fs 0, textAt fs 1, textAt fs 2, lenOf (textAt fs 3), (slashOf (textAt fs 4)).map (patV n), (((numE 4 (textAt fs 5)).getD 0 : Nat) : Int), ascS (listV (textAt fs 6)).2, ascS (listV (textAt fs 7)).2, ascP ((partsOf (textAt fs 8)).map (startP d sl (lenOf (textAt fs 3)))))) := hide rfl
    have htx : Hid (∀ k, textAt fs k = textAt fs k) := hide fun _ => rfl
    clear htx
    obtain ⟨t0, ht0⟩ : ∃ t, textAt fs 0 = t := ⟨_, rfl⟩
    obtain ⟨t1, ht1⟩ : ∃ t, textAt fs 1 = t := ⟨_, rfl⟩
    obtain ⟨t2, ht2⟩ : ∃ t, textAt fs 2 = t := ⟨_, rfl⟩
    obtain ⟨t3, ht3⟩ : ∃ t, textAt fs 3 = t := ⟨_, rfl⟩
    obtain ⟨t4, ht4⟩ : ∃ t, textAt fs 4 = t := ⟨_, rfl⟩
    obtain ⟨t5, ht5⟩ : ∃ t, textAt fs 5 = t := ⟨_, rfl⟩
    obtain ⟨t6, ht6⟩ : ∃ t, textAt fs 6 = t := ⟨_, rfl⟩
    obtain ⟨t7, ht7⟩ : ∃ t, textAt fs 7 = t := ⟨_, rfl⟩
    obtain ⟨t8, ht8⟩ : ∃ t, textAt fs 8 = t := ⟨_, rfl⟩
    have K0 := fun W h => hk 0 (by omega) W h
    have K1 := fun W h => hk 1 (by omega) W h
    have K2 := fun W h => hk 2 (by omega) W h
    have K3 := fun W h => hk 3 (by omega) W h
    have K4 := fun W h => hk 4 (by omega) W h
    have K5 := fun W h => hk 5 (by omega) W h
    have K6 := fun W h => hk 6 (by omega) W h
    have K7 := fun W h => hk 7 (by omega) W h
    have K8 := fun W h => hk 8 (by omega) W h
    rw [Nat.zero_mul, Nat.add_zero, ht0] at K0
    rw [Nat.one_mul, ht1] at K1
    rw [show 2 * 3 = 6 from rfl, ht2] at K2
    rw [show 3 * 3 = 9 from rfl, ht3] at K3
    rw [show 4 * 3 = 12 from rfl, ht4] at K4
    rw [show 5 * 3 = 15 from rfl, ht5] at K5
    rw [show 6 * 3 = 18 from rfl, ht6] at K6
    rw [show 7 * 3 = 21 from rfl, ht7] at K7
    rw [show 8 * 3 = 24 from rfl, ht8] at K8
    rw [ht4] at hs4
    rw [ht6] at hs6
    rw [ht7] at hs7
    rw [ht8] at hs8
    have hU4 := heap3c w (.cells #[.int .i64 line, .slice (some ⟨fb, fo, none⟩) fs.length c] 27) (.cells #[.int .i64 d, .int .i64 sl, .int .i64 b, .int .i64 m] 24) (.cells #[.string ⟨#[]⟩, .string ⟨#[]⟩, .string ⟨#[]⟩, .int .i64 0, .slice none 0 0, .int .i64 0, .slice none 0 0, .slice none 0 0, .slice none 0 0] 47)
    have hbU : Below w.heap.size w (((w.alloc (.cells #[.int .i64 line, .slice (some ⟨fb, fo, none⟩) fs.length c] 27)).alloc (.cells #[.int .i64 d, .int .i64 sl, .int .i64 b, .int .i64 m] 24)).alloc (.cells #[.string ⟨#[]⟩, .string ⟨#[]⟩, .string ⟨#[]⟩, .int .i64 0, .slice none 0 0, .int .i64 0, .slice none 0 0, .slice none 0 0, .slice none 0 0] 47)) := (by repeat (first | exact Below.refl _ _ | refine ext_alloc ?_ _ | refine ext_drewN ?_ _ | refine ext_drew ?_ | refine ext_trans ?_ (by assumption)))
    obtain ⟨U, hU⟩ : ∃ U, ((w.alloc (.cells #[.int .i64 line, .slice (some ⟨fb, fo, none⟩) fs.length c] 27)).alloc (.cells #[.int .i64 d, .int .i64 sl, .int .i64 b, .int .i64 m] 24)).alloc (.cells #[.string ⟨#[]⟩, .string ⟨#[]⟩, .string ⟨#[]⟩, .int .i64 0, .slice none 0 0, .int .i64 0, .slice none 0 0, .slice none 0 0, .slice none 0 0] 47) = U := ⟨_, rfl⟩
    rw [hU] at hbU hU4
    obtain ⟨u1, u2, u3⟩ := hU4
    have hQU : CBox U (w.heap.size + 2) nineZ := u3
    have o1 : U.cell? ⟨w.heap.size, 1, none⟩ = some (.slice (some ⟨fb, fo, none⟩) fs.length c) := (cell_of_row U _ _ _ _ _ u1).trans rfl
    have hGU : Box4 U (w.heap.size + 1) (.int .i64 d) (.int .i64 sl) (.int .i64 b) (.int .i64 m) := ⟨(cell_of_row U _ _ _ _ _ u2).trans rfl, (cell_of_row U _ _ _ _ _ u2).trans rfl, (cell_of_row U _ _ _ _ _ u2).trans rfl, (cell_of_row U _ _ _ _ _ u2).trans rfl⟩
    have hzU : w.heap.size + 2 < U.heap.size := blk_lt u3
    have hfbU : fb < U.heap.size := by omega
    have k0 := K0 U hbU
    have k1 := K1 U hbU
    have k2 := K2 U hbU
    have hi : ∀ k : Nat, k < 9 → (k : Int) < (fs.length : Int) := fun k h => by omega
    have hi1 : (1 : Int) < (fs.length : Int) := by omega
    have hi2 : (2 : Int) < (fs.length : Int) := by omega
    have hi3 : (3 : Int) < (fs.length : Int) := by omega
    have hi4 : (4 : Int) < (fs.length : Int) := by omega
    have hi5 : (5 : Int) < (fs.length : Int) := by omega
    have hi6 : (6 : Int) < (fs.length : Int) := by omega
    have hi7 : (7 : Int) < (fs.length : Int) := by omega
    have hi8 : (8 : Int) < (fs.length : Int) := by omega
    have hl0 : 0 < fs.length := by omega
    have hl1 : 1 < fs.length := by omega
    have hl2 : 2 < fs.length := by omega
    have hl3 : 3 < fs.length := by omega
    have hl4 : 4 < fs.length := by omega
    have hl5 : 5 < fs.length := by omega
    have hl6 : 6 < fs.length := by omega
    have hl7 : 7 < fs.length := by omega
    have hl8 : 8 < fs.length := by omega
    obtain ⟨q, hq2⟩ : ∃ q, w.heap.size + 1 + 1 = q := ⟨_, rfl⟩
    obtain ⟨rb, hrb⟩ : ∃ rb, U.heap.size = rb := ⟨_, rfl⟩
    replace hm := hide hm
    replace hU := hide hU
    replace hi := hide hi
    replace hk := hide hk
    replace K0 := hide K0
    replace K3 := hide K3
    replace K4 := hide K4
    replace K5 := hide K5
    replace K6 := hide K6
    replace K7 := hide K7
    replace K8 := hide K8
    replace hGU := hide hGU
    replace hQU := hide hQU
    replace hs2 := hide hs2
    replace hq2 := hide hq2
    replace hrb := hide hrb
    replace ht0 := hide ht0
    replace ht1 := hide ht1
    replace ht2 := hide ht2
    replace ht3 := hide ht3
    replace ht4 := hide ht4
    replace ht5 := hide ht5
    replace ht6 := hide ht6
    replace ht7 := hide ht7
    replace ht8 := hide ht8
    clear hfc hs u1 u2 u3 K1 K2 hF
    go_enter Tryz.func74, Tryz.ntmps74
    go_wp2_with fail
    rw [hU.out, hq2.out]
    go_region
    have hUV : Below U.heap.size U (U.alloc (.cells #[.string t0, .string t1, .string t2, .int .i64 0, .slice none 0 0, .int .i64 0, .slice none 0 0, .slice none 0 0, .slice none 0 0] 47)).drew := ext_drew (ext_alloc (Below.refl _ _) _)
    have hR0 : CBox (U.alloc (.cells #[.string t0, .string t1, .string t2, .int .i64 0, .slice none 0 0, .int .i64 0, .slice none 0 0, .slice none 0 0, .slice none 0 0] 47)).drew U.heap.size ⟨t0, t1, t2, 0, none, 0, 0, 0, none, 0, 0, none, 0, 0, none, 0, 0⟩ := (cbox_new U ⟨t0, t1, t2, 0, none, 0, 0, 0, none, 0, 0, none, 0, 0, none, 0, 0⟩).drew
    obtain ⟨V, hV⟩ : ∃ V, (U.alloc (.cells #[.string t0, .string t1, .string t2, .int .i64 0, .slice none 0 0, .int .i64 0, .slice none 0 0, .slice none 0 0, .slice none 0 0] 47)).drew = V := ⟨_, rfl⟩
    rw [hV] at hUV hR0 ⊢
    clear hV
    have S : CSt w q rb (w.heap.size + 1) d sl b m ⟨t0, t1, t2, 0, none, 0, 0, 0, none, 0, 0, none, 0, 0, none, 0, 0⟩ [] [] [] [] V :=
      ⟨ext_trans hbU hUV, hrb.out ▸ hR0, hq2.out ▸ hQU.out.later hUV, hGU.out.later hUV, Own.nil, Own.nil, Own.nil, Own.nil⟩
    rw [hrb.out]
    have hgq : w.heap.size ≤ q := by have := hq2.out; omega
    have hqr1 : q < rb + 1 := by have := hq2.out; have := hrb.out; omega
    have hqr : q ≠ rb := by have := hq2.out; have := hrb.out; omega
    have hgr : w.heap.size + 1 ≠ rb := by have := hrb.out; omega
    have hwr : w.heap.size ≤ rb := by omega
    obtain ⟨gb, hgb⟩ : ∃ gb, w.heap.size + 1 = gb := ⟨_, rfl⟩
    rw [hgb] at S hgr
    try rw [hgb]
    replace hgb := hide hgb
    clear hR0 hQU hGU k0 k1 k2 o1 hU hbU hUV hzU hfbU
    go_wp2_with fail
    go_loop [13] (fun i => ∃ k : Nat, k ≤ 3 ∧ i = .int .i64 k ∧ Hid (∀ j, j < k → codeB (textAt fs j) = true)) (fun i => 3 - (intOf i).toNat)
    case atStart => exact ⟨0, by omega, rfl, hide fun j h => by omega⟩
    case round =>
      obtain ⟨k, hk3, rfl, hgood⟩ := hrel
      have hfV : fb < V.heap.size := by have := S.hb.size; omega
      by_cases hlt : k < 3
      · have kk := hk.out k (by omega) V S.hb
        have hki := hi.out k (by omega)
        have hk0 : (0 : Int) ≤ (k : Int) := by omega
        have hk1 : (k : Int) < 3 := by omega
        cases hv : codeB (textAt fs k) with
        | false =>
          have hK : Hid (clsKE d sl n fs ls = ((k : Int), 10)) := hide (hbad.out k hlt hgood.out hv)
          have hok : (10 : Int) = 0 → (t0, t1, t2, (0 : Int), ([] : List Int), (0 : Int), ([] : List ByteArray), ([] : List ByteArray), ([] : List (Int × Int))) = clsOf d sl n fs := fun h => by omega
          have hfin := S.fin hK.out hok hgq hqr1
          have hbxf := set9_box (q := ⟨t0, t1, t2, 0, none, 0, 0, 0, none, 0, 0, none, 0, 0, none, 0, 0⟩) S.hQ
          have xs0 := S.hQ.c0
          have xs1 := S.hQ.c1
          have xs2 := S.hQ.c2
          have xs3 := S.hQ.c3
          have xs4 := S.hQ.c4
          have xs5 := S.hQ.c5
          have xs6 := S.hQ.c6
          have xs7 := S.hQ.c7
          have xs8 := S.hQ.c8
          have p0 := S.hR.c0
          have p1 := S.hR.c1
          have p2 := S.hR.c2
          have p3 := S.hR.c3
          have p4 := S.hR.c4
          have p5 := S.hR.c5
          have p6 := S.hR.c6
          have p7 := S.hR.c7
          have p8 := S.hR.c8
          dsimp only [nineZ] at xs0 xs1 xs2 xs3 xs4 xs5 xs6 xs7 xs8 p0 p1 p2 p3 p4 p5 p6 p7 p8
          have r0 := S.hQ.free 0
          have r1 := S.hQ.free 1
          have r2 := S.hQ.free 2
          have r3 := S.hQ.free 3
          have r4 := S.hQ.free 4
          have r5 := S.hQ.free 5
          have r6 := S.hQ.free 6
          have r7 := S.hQ.free 7
          have r8 := S.hQ.free 8
          have hql := S.hQ.lt
          have hrl := S.hR.lt
          replace hfin := hide hfin
          replace hbxf := hide hbxf
          clear hok
          go_wp2_with fail
          refine (r3valid_walk (textAt fs k) _).mono ?_
          rintro e w1 ⟨rfl, rfl⟩
          rw [hv]
          go_wp2
          change bodyPost _ _ _ _ _ (set9 V q ⟨t0, t1, t2, 0, none, 0, 0, 0, none, 0, 0, none, 0, 0, none, 0, 0⟩)
          have hfin' := hfin.out
          have hbxf' := hbxf.out
          generalize set9 V q ⟨t0, t1, t2, 0, none, 0, 0, 0, none, 0, 0, none, 0, 0, none, 0, 0⟩ = wk at hfin' hbxf' ⊢
          exact end_cls3 rfl q ⟨t0, t1, t2, 0, none, 0, 0, 0, none, 0, 0, none, 0, 0, none, 0, 0⟩ (.int .i64 ((k : Int))) (.int .i64 (10)) rfl rfl rfl rfl hbxf' hfin'
        | true =>
          have hgood2 : Hid (∀ j, j < k + 1 → codeB (textAt fs j) = true) := hide fun j h => by
            by_cases e : j = k
            · rw [e]; exact hv
            · exact hgood.out j (by omega)
          go_wp2_with fail
          refine (r3valid_walk (textAt fs k) _).mono ?_
          rintro e w1 ⟨rfl, rfl⟩
          rw [hv]
          clear kk
          go_wp2
          go_round
          case rel => exact ⟨k + 1, by omega, by go_num, hgood2⟩
          case measure => simp [intOf]; omega
      · obtain rfl : k = 3 := by omega
        have hKE3 : Hid (clsKE d sl n fs ls = if lenE sl t3 ≠ 0 then (3, lenE sl t3) else if patsRE n (slashOf t4) ≠ 0 then (4, patsRE n (slashOf t4)) else if numE 4 t5 = none then (5, 4) else if (shortV t6).1 ≠ 0 then (6, ((shortV t6).1 : Int)) else if (shortV t7).1 ≠ 0 then (7, ((shortV t7).1 : Int)) else if startsRE d sl (lenOf t3) (partsOf t8) ≠ 0 then (8, startsRE d sl (lenOf t3) (partsOf t8)) else if 0 ≤ idxS t0 (codesK ls) then (-1, 11) else if ls.length = 24 then (-1, 2) else (0, 0)) := hide (by
          rw [hKE.out, hgood.out 0 (by omega), hgood.out 1 (by omega), hgood.out 2 (by omega), if_neg (by simp), if_neg (by simp), if_neg (by simp), ht0.out, ht3.out, ht4.out, ht5.out, ht6.out, ht7.out, ht8.out])
        have hOf3 : Hid (clsOf d sl n fs = (t0, t1, t2, lenOf t3, (slashOf t4).map (patV n), (((numE 4 t5).getD 0 : Nat) : Int), ascS (listV t6).2, ascS (listV t7).2, ascP ((partsOf t8).map (startP d sl (lenOf t3))))) := hide (by
          rw [hOf.out, ht0.out, ht1.out, ht2.out, ht3.out, ht4.out, ht5.out, ht6.out, ht7.out, ht8.out])
        clear hKE hOf hbad hgood hk ht0 ht1 ht2 ht3 ht4 ht5 ht6 ht7 ht8 hs2 hi
        obtain ⟨le1, le2⟩ := len_small sl t3
        have hsm := small_walk t3
        have hnvb := numV_le t3.data.toList
        obtain ⟨nv, hnv⟩ : ∃ nv, numV t3.data.toList = nv := ⟨_, rfl⟩
        rw [hnv] at le1 le2 hsm hnvb
        clear hnv
        have k3 := K3.out V S.hb
        have y3 := S.hR.c3
        dsimp only at y3
        have yf := S.hR.free 3
        have hrl := S.hR.lt
        go_wp2_with fail
        refine (hsm _).mono ?_
        clear hsm
        rintro e w' ⟨rfl, rfl⟩
        have S1 := S.set 3 (.int .i64 (nv : Int)) hwr hqr hgr (S.hR.set3 (nv : Int)) S.o4 S.o6 S.o7 S.o8
        clear S
        go_upto_region 11 with fail
        obtain ⟨V1, hV1⟩ : ∃ V1, V.setCell ⟨rb, 3, none⟩ (.int .i64 (nv : Int)) = V1 := ⟨_, rfl⟩
        rw [hV1] at S1 ⊢
        clear hV1 y3 yf hrl k3 hfV
        have S := S1
        clear S1
        have y3 := S.hR.c3
        dsimp only at y3
        have hrl := S.hR.lt
        have g1 := S.hG.c1
        have hgl := S.hG.lt
        by_cases hn0 : nv = 0
        · have hK : Hid (clsKE d sl n fs ls = (3, 4)) := hide (by rw [hKE3.out, le1, if_pos hn0, if_pos (by decide)])
          have hni : ((nv : Int) == 0) = true := by simp [hn0]
          have hok : (4 : Int) = 0 → (t0, t1, t2, (nv : Int), ([] : List Int), (0 : Int), ([] : List ByteArray), ([] : List ByteArray), ([] : List (Int × Int))) = clsOf d sl n fs := fun h => by omega
          have hfin := S.fin hK.out hok hgq hqr1
          have hbxf := set9_box (q := ⟨t0, t1, t2, (nv : Int), none, 0, 0, 0, none, 0, 0, none, 0, 0, none, 0, 0⟩) S.hQ
          have xs0 := S.hQ.c0
          have xs1 := S.hQ.c1
          have xs2 := S.hQ.c2
          have xs3 := S.hQ.c3
          have xs4 := S.hQ.c4
          have xs5 := S.hQ.c5
          have xs6 := S.hQ.c6
          have xs7 := S.hQ.c7
          have xs8 := S.hQ.c8
          have p0 := S.hR.c0
          have p1 := S.hR.c1
          have p2 := S.hR.c2
          have p3 := S.hR.c3
          have p4 := S.hR.c4
          have p5 := S.hR.c5
          have p6 := S.hR.c6
          have p7 := S.hR.c7
          have p8 := S.hR.c8
          dsimp only [nineZ] at xs0 xs1 xs2 xs3 xs4 xs5 xs6 xs7 xs8 p0 p1 p2 p3 p4 p5 p6 p7 p8
          have r0 := S.hQ.free 0
          have r1 := S.hQ.free 1
          have r2 := S.hQ.free 2
          have r3 := S.hQ.free 3
          have r4 := S.hQ.free 4
          have r5 := S.hQ.free 5
          have r6 := S.hQ.free 6
          have r7 := S.hQ.free 7
          have r8 := S.hQ.free 8
          have hql := S.hQ.lt
          have hrl := S.hR.lt
          replace hfin := hide hfin
          replace hbxf := hide hbxf
          clear hok
          replace hn0 := hide hn0
          clear hKE3 hOf3 le1 le2 y3 g1 hgl
          go_wp2
          change bodyPost _ _ _ _ _ (set9 V1 q ⟨t0, t1, t2, (nv : Int), none, 0, 0, 0, none, 0, 0, none, 0, 0, none, 0, 0⟩)
          have hfin' := hfin.out
          have hbxf' := hbxf.out
          generalize set9 V1 q ⟨t0, t1, t2, (nv : Int), none, 0, 0, 0, none, 0, 0, none, 0, 0, none, 0, 0⟩ = wk at hfin' hbxf' ⊢
          exact end_cls3 rfl q ⟨t0, t1, t2, (nv : Int), none, 0, 0, 0, none, 0, 0, none, 0, 0, none, 0, 0⟩ (.int .i64 (3)) (.int .i64 (4)) rfl rfl rfl rfl hbxf' hfin'
        · rw [if_neg hn0] at le1
          have hlen := hide (le2 hn0)
          have hni : ((nv : Int) == 0) = false := by simp [hn0]
          have hni2 : ¬ (nv : Int) = 0 := by omega
          by_cases hgt : sl < (nv : Int)
          · have hK : Hid (clsKE d sl n fs ls = (3, 3)) := hide (by rw [hKE3.out, le1, if_pos hgt, if_pos (by decide)])
            have hok : (3 : Int) = 0 → (t0, t1, t2, (nv : Int), ([] : List Int), (0 : Int), ([] : List ByteArray), ([] : List ByteArray), ([] : List (Int × Int))) = clsOf d sl n fs := fun h => by omega
            have hfin := S.fin hK.out hok hgq hqr1
            have hbxf := set9_box (q := ⟨t0, t1, t2, (nv : Int), none, 0, 0, 0, none, 0, 0, none, 0, 0, none, 0, 0⟩) S.hQ
            have xs0 := S.hQ.c0
            have xs1 := S.hQ.c1
            have xs2 := S.hQ.c2
            have xs3 := S.hQ.c3
            have xs4 := S.hQ.c4
            have xs5 := S.hQ.c5
            have xs6 := S.hQ.c6
            have xs7 := S.hQ.c7
            have xs8 := S.hQ.c8
            have p0 := S.hR.c0
            have p1 := S.hR.c1
            have p2 := S.hR.c2
            have p3 := S.hR.c3
            have p4 := S.hR.c4
            have p5 := S.hR.c5
            have p6 := S.hR.c6
            have p7 := S.hR.c7
            have p8 := S.hR.c8
            dsimp only [nineZ] at xs0 xs1 xs2 xs3 xs4 xs5 xs6 xs7 xs8 p0 p1 p2 p3 p4 p5 p6 p7 p8
            have r0 := S.hQ.free 0
            have r1 := S.hQ.free 1
            have r2 := S.hQ.free 2
            have r3 := S.hQ.free 3
            have r4 := S.hQ.free 4
            have r5 := S.hQ.free 5
            have r6 := S.hQ.free 6
            have r7 := S.hQ.free 7
            have r8 := S.hQ.free 8
            have hql := S.hQ.lt
            have hrl := S.hR.lt
            replace hfin := hide hfin
            replace hbxf := hide hbxf
            clear hok
            clear hKE3 hOf3 le1 le2 y3
            go_wp2
            change bodyPost _ _ _ _ _ (set9 V1 q ⟨t0, t1, t2, (nv : Int), none, 0, 0, 0, none, 0, 0, none, 0, 0, none, 0, 0⟩)
            have hfin' := hfin.out
            have hbxf' := hbxf.out
            generalize set9 V1 q ⟨t0, t1, t2, (nv : Int), none, 0, 0, 0, none, 0, 0, none, 0, 0, none, 0, 0⟩ = wk at hfin' hbxf' ⊢
            exact end_cls3 rfl q ⟨t0, t1, t2, (nv : Int), none, 0, 0, 0, none, 0, 0, none, 0, 0, none, 0, 0⟩ (.int .i64 (3)) (.int .i64 (3)) rfl rfl rfl rfl hbxf' hfin'
          · rw [if_neg hgt] at le1
            obtain ⟨pe, hpe⟩ : ∃ pe, patsRE n (slashOf t4) = pe := ⟨_, rfl⟩
            have hKE4 := hKE3.out
            rw [le1, if_neg (show ¬ ((0 : Int) ≠ 0) from fun h => h rfl), hpe] at hKE4
            have hpw := r10pats_walk t4 n V1 hs4 (hS.after S.hb) (hW.after S.hb hS)
            unfold PatsGives at hpw
            rw [hpe] at hpw
            have k4 := K4.out V1 S.hb
            have hfb4 : fb < V1.heap.size := by have := S.hb.size; omega
            replace hKE4 := hide hKE4
            clear hKE3 le1 le2
            go_wp2_with fail
            refine hpw.mono ?_
            clear hpw
            rintro e w5 ⟨v4, rfl, o4, hb5⟩
            have hrv := S.hR.lt
            replace S := S.later hb5
            obtain ⟨A4, c4, rfl⟩ := o4.form
            obtain ⟨P4, hP4⟩ : ∃ P, (if pe = 0 then (slashOf t4).map (patV n) else []) = P := ⟨_, rfl⟩
            rw [hP4] at o4 ⊢
            obtain ⟨n4, hn4⟩ : ∃ n4, P4.length = n4 := ⟨_, rfl⟩
            rw [hn4] at o4 ⊢
            have y4 := S.hR.c4
            dsimp only at y4
            have yf := S.hR.free 4
            have hrl5 := S.hR.lt
            have S' := S.set 4 (.slice A4 n4 c4) hwr hqr hgr (S.hR.set4 A4 n4 c4) (o4.lower (by omega)) S.o6 S.o7 S.o8
            replace hP4 := hide hP4
            replace hn4 := hide hn4
            clear S hb5 y3 hrl g1 hgl k4 hfb4 hrv hpe
            go_upto_region 17 with fail
            obtain ⟨W5, hW5⟩ : ∃ V, w5.setCell ⟨rb, 4, none⟩ (.slice A4 n4 c4) = V := ⟨_, rfl⟩
            rw [hW5] at S' ⊢
            have S := S'
            clear S' hW5 y4 yf hrl5 o4
            by_cases hp0 : pe = 0
            · have hP4v : Hid ((slashOf t4).map (patV n) = P4) := hide (by rw [← hP4.out, if_pos hp0])
              have hpi : (pe != 0) = false := by simp [hp0]
              have hKE5 := hKE4.out
              rw [if_neg (show ¬ pe ≠ 0 from fun h => h hp0)] at hKE5
              have hdig := r3digits_walk t5 4 (by decide) W5
              have k5 := K5.out W5 S.hb
              have hfb5 : fb < W5.heap.size := by have := S.hb.size; omega
              replace hp0 := hide hp0
              clear hKE4 hP4
              cases hn5 : numE 4 t5 with
              | none =>
                rw [hn5] at hdig hKE5
                have hK : Hid (clsKE d sl n fs ls = (5, 4)) := hide (by rw [hKE5, if_pos rfl])
                have hok : (4 : Int) = 0 → (t0, t1, t2, (nv : Int), P4, (0 : Int), ([] : List ByteArray), ([] : List ByteArray), ([] : List (Int × Int))) = clsOf d sl n fs := fun h => by omega
                replace hdig : Calls Tryz.prog 117 #[.string t5, .int .i64 4, .bool false] W5 fun e w' => e = .returned (.tuple #[.int .i64 0, .bool false]) ∧ W5 = w' := hdig
                have hfin := S.fin hK.out hok hgq hqr1
                have hbxf := set9_box (q := ⟨t0, t1, t2, (nv : Int), A4, n4, c4, 0, none, 0, 0, none, 0, 0, none, 0, 0⟩) S.hQ
                have xs0 := S.hQ.c0
                have xs1 := S.hQ.c1
                have xs2 := S.hQ.c2
                have xs3 := S.hQ.c3
                have xs4 := S.hQ.c4
                have xs5 := S.hQ.c5
                have xs6 := S.hQ.c6
                have xs7 := S.hQ.c7
                have xs8 := S.hQ.c8
                have p0 := S.hR.c0
                have p1 := S.hR.c1
                have p2 := S.hR.c2
                have p3 := S.hR.c3
                have p4 := S.hR.c4
                have p5 := S.hR.c5
                have p6 := S.hR.c6
                have p7 := S.hR.c7
                have p8 := S.hR.c8
                dsimp only [nineZ] at xs0 xs1 xs2 xs3 xs4 xs5 xs6 xs7 xs8 p0 p1 p2 p3 p4 p5 p6 p7 p8
                have r0 := S.hQ.free 0
                have r1 := S.hQ.free 1
                have r2 := S.hQ.free 2
                have r3 := S.hQ.free 3
                have r4 := S.hQ.free 4
                have r5 := S.hQ.free 5
                have r6 := S.hQ.free 6
                have r7 := S.hQ.free 7
                have r8 := S.hQ.free 8
                have hql := S.hQ.lt
                have hrl := S.hR.lt
                replace hfin := hide hfin
                replace hbxf := hide hbxf
                clear hok
                clear hKE5 hn5
                go_wp2_with fail
                refine hdig.mono ?_
                rintro e w' ⟨rfl, rfl⟩
                clear hdig
                go_wp2
                change bodyPost _ _ _ _ _ (set9 W5 q ⟨t0, t1, t2, (nv : Int), A4, n4, c4, 0, none, 0, 0, none, 0, 0, none, 0, 0⟩)
                have hfin' := hfin.out
                have hbxf' := hbxf.out
                generalize set9 W5 q ⟨t0, t1, t2, (nv : Int), A4, n4, c4, 0, none, 0, 0, none, 0, 0, none, 0, 0⟩ = wk at hfin' hbxf' ⊢
                exact end_cls3 rfl q ⟨t0, t1, t2, (nv : Int), A4, n4, c4, 0, none, 0, 0, none, 0, 0, none, 0, 0⟩ (.int .i64 (5)) (.int .i64 (4)) rfl rfl rfl rfl hbxf' hfin'
              | some m5 =>
                rw [hn5] at hdig hKE5
                replace hdig : Calls Tryz.prog 117 #[.string t5, .int .i64 4, .bool false] W5 fun e w' => e = .returned (.tuple #[.int .i64 (m5 : Int), .bool true]) ∧ W5 = w' := hdig
                have hm5 : Hid ((((numE 4 t5).getD 0 : Nat) : Int) = (m5 : Int)) := hide (by rw [hn5]; rfl)
                rw [if_neg (show ¬ (some m5 = none) from fun h => by cases h)] at hKE5
                have y5 := S.hR.c5
                dsimp only at y5
                have yf := S.hR.free 5
                have hrl := S.hR.lt
                have S' := S.set 5 (.int .i64 (m5 : Int)) hwr hqr hgr (S.hR.set5 (m5 : Int)) S.o4 S.o6 S.o7 S.o8
                have hKE6 := hide hKE5
                clear S hKE5 hn5
                go_wp2_with fail
                refine hdig.mono ?_
                rintro e w' ⟨rfl, rfl⟩
                clear hdig
                go_upto_region 23 with fail
                obtain ⟨W6, hW6⟩ : ∃ V, W5.setCell ⟨rb, 5, none⟩ (.int .i64 (m5 : Int)) = V := ⟨_, rfl⟩
                rw [hW6] at S' ⊢
                have S := S'
                clear S' hW6 y5 yf hrl k5 hfb5
                obtain ⟨⟨s6, l6⟩, hsv6⟩ : ∃ r, shortV t6 = r := ⟨_, rfl⟩
                have hsr6 := r7short_walk t6 W6 (hS.after S.hb) hs6
                have hso6 := short_ok (t := t6)
                have hsl6 := short_len t6
                rw [hsv6] at hsr6 hso6 hsl6
                have hKE7 := hKE6.out
                rw [hsv6] at hKE7
                dsimp only at hsr6 hso6 hsl6 hKE7
                replace hKE7 := hide hKE7
                unfold BetwIs at hsr6
                have k6 := K6.out W6 S.hb
                have hfb6 : fb < W6.heap.size := by have := S.hb.size; omega
                clear hKE6 hsv6
                go_wp2_with fail
                refine hsr6.mono ?_
                clear hsr6
                rintro e wa6 ⟨va6, rfl, hown, hba⟩
                replace S := S.later hba
                obtain ⟨Ab, cb, rfl, -, hat⟩ := hown.any
                clear k6 hba hfb6
                by_cases h6 : s6 = 0
                · have hl6 := hsl6 h6
                  have hlo6 := hide (hso6 h6)
                  have h6i : ((s6 : Int) != 0) = false := by simp; omega
                  have hKE7' := hKE7.out
                  rw [if_neg (show ¬ s6 ≠ 0 from fun h => h h6)] at hKE7'
                  replace hKE7' := hide hKE7'
                  have hasc := r2asc_walk Ab l6 cb wa6 (by omega) hat.any
                  obtain ⟨M, hM⟩ : ∃ M, l6.length = M := ⟨_, rfl⟩
                  rw [hM] at hasc ⊢
                  have hrw := S.hR.lt
                  replace h6 := hide h6
                  clear hKE7 hso6 hsl6 hl6 hown hat hM
                  go_wp2_with fail
                  refine hasc.mono ?_
                  clear hasc
                  rintro e wb6 ⟨vb6, rfl, o6, hbb⟩
                  replace S := S.later hbb
                  obtain ⟨A6, c6, rfl⟩ := o6.form
                  obtain ⟨F6, hF6⟩ : ∃ F, ascS l6 = F := ⟨_, rfl⟩
                  rw [hF6] at o6 ⊢
                  obtain ⟨n6, hn6⟩ : ∃ n, F6.length = n := ⟨_, rfl⟩
                  rw [hn6] at o6 ⊢
                  have y6 := S.hR.c6
                  dsimp only at y6
                  have yf := S.hR.free 6
                  have hrl := S.hR.lt
                  have S' := S.set 6 (.slice A6 n6 c6) hwr hqr hgr (S.hR.set6 A6 n6 c6) S.o4 (o6.lower (by omega)) S.o7 S.o8
                  replace hF6 := hide hF6
                  replace hn6 := hide hn6
                  clear S hbb hrw
                  go_upto_region 27 with fail
                  obtain ⟨W7, hWn⟩ : ∃ V, wb6.setCell ⟨rb, 6, none⟩ (.slice A6 n6 c6) = V := ⟨_, rfl⟩
                  rw [hWn] at S' ⊢
                  clear hWn y6 yf hrl o6
                  have S := S'
                  clear S'
                  obtain ⟨⟨s7, l7⟩, hsv7⟩ : ∃ r, shortV t7 = r := ⟨_, rfl⟩
                  have hsr7 := r7short_walk t7 W7 (hS.after S.hb) hs7
                  have hso7 := short_ok (t := t7)
                  have hsl7 := short_len t7
                  rw [hsv7] at hsr7 hso7 hsl7
                  have hKE8 := hKE7'.out
                  rw [hsv7] at hKE8
                  dsimp only at hsr7 hso7 hsl7 hKE8
                  replace hKE8 := hide hKE8
                  unfold BetwIs at hsr7
                  have k7 := K7.out W7 S.hb
                  have hfb7 : fb < W7.heap.size := by have := S.hb.size; omega
                  clear hKE7' hsv7
                  go_wp2_with fail
                  refine hsr7.mono ?_
                  clear hsr7
                  rintro e wa7 ⟨va7, rfl, hown, hba⟩
                  replace S := S.later hba
                  obtain ⟨Ab, cb, rfl, -, hat⟩ := hown.any
                  clear k7 hba hfb7
                  by_cases h7 : s7 = 0
                  · have hl7 := hsl7 h7
                    have hlo7 := hide (hso7 h7)
                    have h7i : ((s7 : Int) != 0) = false := by simp; omega
                    have hKE8' := hKE8.out
                    rw [if_neg (show ¬ s7 ≠ 0 from fun h => h h7)] at hKE8'
                    replace hKE8' := hide hKE8'
                    have hasc := r2asc_walk Ab l7 cb wa7 (by omega) hat.any
                    obtain ⟨M, hM⟩ : ∃ M, l7.length = M := ⟨_, rfl⟩
                    rw [hM] at hasc ⊢
                    have hrw := S.hR.lt
                    replace h7 := hide h7
                    clear hKE8 hso7 hsl7 hl7 hown hat hM
                    go_wp2_with fail
                    refine hasc.mono ?_
                    clear hasc
                    rintro e wb7 ⟨vb7, rfl, o7, hbb⟩
                    replace S := S.later hbb
                    obtain ⟨A7, c7, rfl⟩ := o7.form
                    obtain ⟨F7, hF7⟩ : ∃ F, ascS l7 = F := ⟨_, rfl⟩
                    rw [hF7] at o7 ⊢
                    obtain ⟨n7, hn7⟩ : ∃ n, F7.length = n := ⟨_, rfl⟩
                    rw [hn7] at o7 ⊢
                    have y7 := S.hR.c7
                    dsimp only at y7
                    have yf := S.hR.free 7
                    have hrl := S.hR.lt
                    have S' := S.set 7 (.slice A7 n7 c7) hwr hqr hgr (S.hR.set7 A7 n7 c7) S.o4 S.o6 (o7.lower (by omega)) S.o8
                    replace hF7 := hide hF7
                    replace hn7 := hide hn7
                    clear S hbb hrw
                    go_upto_region 31 with fail
                    obtain ⟨W8, hWn⟩ : ∃ V, wb7.setCell ⟨rb, 7, none⟩ (.slice A7 n7 c7) = V := ⟨_, rfl⟩
                    rw [hWn] at S' ⊢
                    clear hWn y7 yf hrl o7
                    have S := S'
                    clear S'
                    have hrs := fun (V : World) (hV : Below W8.heap.size W8 V) => r10starts_walk t8 (nv : Int) d sl b m V hs8 (by omega) (by omega) (hS.after (ext_trans S.hb hV)) (hD.after (ext_trans S.hb hV) hS)
                    obtain ⟨ee, hee⟩ : ∃ ee, startsRE d sl (nv : Int) (partsOf t8) = ee := ⟨_, rfl⟩
                    have hKEs := hKE8'.out
                    rw [hlen.out] at hKEs
                    unfold StartsGives at hrs
                    rw [hee] at hKEs
                    simp only [hee] at hrs
                    have hk8 := K8.out W8 S.hb
                    have hfb8 : fb < W8.heap.size := by have := S.hb.size; omega
                    have y3 := S.hR.c3
                    have y8 := S.hR.c8
                    dsimp only at y3 y8
                    have yf := S.hR.free 8
                    have hrl := S.hR.lt
                    have hgl := S.hG.lt
                    have hC : Cn6 fb (fo + 24) (.string t8) rb 3 (.int .i64 (nv : Int)) gb 0 (.int .i64 d) gb 1 (.int .i64 sl) gb 2 (.int .i64 b) gb 3 (.int .i64 m) W8 := ⟨hk8, y3, S.hG.c0, S.hG.c1, S.hG.c2, S.hG.c3⟩
                    have hone := hide (fun (V : World) (hV : Below W8.heap.size W8 V) => (hrs V hV).mono fun e w' ⟨v, he, ho, hb⟩ => (by
                      obtain ⟨A8, c8, rfl⟩ := ho.form
                      exact ⟨A8, _, c8, he, ho.lower hV.size, ext_trans hV hb, hC.later (ext_trans hV hb), cell_later (ext_trans hV hb) y8, ((ext_trans hV hb).frozen (p := ⟨rb, 8, none⟩) hrl).trans yf⟩ : ∃ (A8 : Option Addr) (n8 c8 : Nat), e = Ending.returned (.tuple #[Value.slice A8 n8 c8, .int .i64 ee]) ∧ Own kStart 70 [] 0 W8.heap.size w' (.slice A8 n8 c8) (if ee = 0 then ascP ((partsOf t8).map (startP d sl (nv : Int))) else []) ∧ Below W8.heap.size W8 w' ∧ Cn6 fb (fo + 24) (.string t8) rb 3 (.int .i64 (nv : Int)) gb 0 (.int .i64 d) gb 1 (.int .i64 sl) gb 2 (.int .i64 b) gb 3 (.int .i64 m) w' ∧ w'.cell? ⟨rb, 8, none⟩ = some (Value.slice none 0 0) ∧ w'.frozen? ⟨rb, 8, none⟩ = false))
                    have hCd := hC.drew
                    have hrefl := Below.refl W8.heap.size W8
                    have hfr : fb ≠ rb := by have := hwr; omega
                    obtain ⟨P8, hP8⟩ : ∃ P, (if ee = 0 then ascP ((partsOf t8).map (startP d sl (nv : Int))) else []) = P := ⟨_, rfl⟩
                    rw [hP8] at hone
                    replace hKEs := hide hKEs
                    replace hP8 := hide hP8
                    obtain ⟨q0, q1, q2, q3, q4, q5⟩ := id hC
                    clear hrs hk8 hKE8' hee
                    go_wp2_with fail
                    go_region_held3 (fun W' => W'.cell? ⟨fb, fo + 24, none⟩ = some (.string t8) ∧ W'.cell? ⟨rb, 3, none⟩ = some (.int .i64 (nv : Int)) ∧ W'.cell? ⟨gb, 0, none⟩ = some (.int .i64 d) ∧ W'.cell? ⟨gb, 1, none⟩ = some (.int .i64 sl) ∧ W'.cell? ⟨gb, 2, none⟩ = some (.int .i64 b) ∧ W'.cell? ⟨gb, 3, none⟩ = some (.int .i64 m)) (first | ((repeat (first | (with_reducible assumption) | (with_reducible refine Cn6.alloc ?_ _) | (with_reducible refine Cn6.drew ?_) | (with_reducible refine c6_set8 ?_ hfr hgr _))); done)) (first | (go_at_call 120; (with_reducible refine (hone.out _ ?_).mono ?_); (focus ((repeat (first | (with_reducible assumption) | (with_reducible refine ext_alloc ?_ _) | (with_reducible refine ext_drew ?_))); done)); rintro e w8 ⟨A8, n8, c8, rfl, o8, hb8, hc8, y8', yf8⟩))
                    replace S := S.later hb8
                    have S' := S.set 8 (.slice A8 n8 c8) hwr hqr hgr (S.hR.set8 A8 n8 c8) S.o4 S.o6 S.o7 (o8.lower (by omega))
                    obtain ⟨V9, hV9⟩ : ∃ V9, w8.setCell ⟨rb, 8, none⟩ (.slice A8 n8 c8) = V9 := ⟨_, rfl⟩
                    rw [hV9] at S'
                    rw [hV9]
                    have S := S'
                    rename_i hHeld
                    clear hHeld S' hV9 hone hC hCd hrefl hc8 y8' yf8 q0 q1 q2 q3 q4 q5 y3 y8 yf hrl hgl o8 hb8 hfb8
                    by_cases he : ee = 0
                    · have hKE9 := hKEs.out
                      rw [if_neg (show ¬ ee ≠ 0 from fun h => h he)] at hKE9
                      have hei : (ee != 0) = false := by simp [he]
                      have hP8' := hP8.out
                      rw [if_pos he] at hP8'
                      have hOfin : Hid (clsOf d sl n fs = (t0, t1, t2, (nv : Int), P4, (m5 : Int), F6, F7, P8)) := hide (by
                        rw [hOf3.out, hlen.out, hP4v.out, hm5.out, ← hlo6.out, ← hlo7.out, hF6.out, hF7.out, hP8'])
                      have hidx := r10index_walk A ls cr t0 V9 (by omega) ((hX.later S.hb).any)
                      obtain ⟨ix, hix⟩ : ∃ ix, idxS t0 (codesK ls) = ix := ⟨_, rfl⟩
                      rw [hix] at hidx hKE9
                      obtain ⟨N, hN⟩ : ∃ N, ls.length = N := ⟨_, rfl⟩
                      rw [hN] at hidx hKE9 hq ⊢
                      have y0 := S.hR.c0
                      dsimp only at y0
                      have hrl := S.hR.lt
                      replace hKE9 := hide hKE9
                      replace he := hide he
                      replace hN := hide hN
                      clear hKEs hP8 hP8' hOf3 hlen hP4v hm5 hlo6 hlo7 hF6 hF7 hix hX
                      replace hOfin := hide hOfin
                      go_wp2_with fail
                      refine hidx.mono ?_
                      rintro e w' ⟨rfl, rfl⟩
                      clear hidx y0 hrl
                      by_cases hi0 : 0 ≤ ix
                      · have hK : Hid (clsKE d sl n fs ls = (-1, 11)) := hide (by rw [hKE9.out, if_pos hi0])
                        have hok : (11 : Int) = 0 → (t0, t1, t2, (nv : Int), P4, (m5 : Int), F6, F7, P8) = clsOf d sl n fs := fun h => by omega
                        have hfin := S.fin hK.out hok hgq hqr1
                        have hbxf := set9_box (q := ⟨t0, t1, t2, (nv : Int), A4, n4, c4, (m5 : Int), A6, n6, c6, A7, n7, c7, A8, n8, c8⟩) S.hQ
                        have xs0 := S.hQ.c0
                        have xs1 := S.hQ.c1
                        have xs2 := S.hQ.c2
                        have xs3 := S.hQ.c3
                        have xs4 := S.hQ.c4
                        have xs5 := S.hQ.c5
                        have xs6 := S.hQ.c6
                        have xs7 := S.hQ.c7
                        have xs8 := S.hQ.c8
                        have p0 := S.hR.c0
                        have p1 := S.hR.c1
                        have p2 := S.hR.c2
                        have p3 := S.hR.c3
                        have p4 := S.hR.c4
                        have p5 := S.hR.c5
                        have p6 := S.hR.c6
                        have p7 := S.hR.c7
                        have p8 := S.hR.c8
                        dsimp only [nineZ] at xs0 xs1 xs2 xs3 xs4 xs5 xs6 xs7 xs8 p0 p1 p2 p3 p4 p5 p6 p7 p8
                        have r0 := S.hQ.free 0
                        have r1 := S.hQ.free 1
                        have r2 := S.hQ.free 2
                        have r3 := S.hQ.free 3
                        have r4 := S.hQ.free 4
                        have r5 := S.hQ.free 5
                        have r6 := S.hQ.free 6
                        have r7 := S.hQ.free 7
                        have r8 := S.hQ.free 8
                        have hql := S.hQ.lt
                        have hrl := S.hR.lt
                        replace hfin := hide hfin
                        replace hbxf := hide hbxf
                        clear hok
                        clear hKE9
                        go_wp2
                        change bodyPost _ _ _ _ _ (set9 V9 q ⟨t0, t1, t2, (nv : Int), A4, n4, c4, (m5 : Int), A6, n6, c6, A7, n7, c7, A8, n8, c8⟩)
                        have hfin' := hfin.out
                        have hbxf' := hbxf.out
                        generalize set9 V9 q ⟨t0, t1, t2, (nv : Int), A4, n4, c4, (m5 : Int), A6, n6, c6, A7, n7, c7, A8, n8, c8⟩ = wk at hfin' hbxf' ⊢
                        exact end_cls3 rfl q ⟨t0, t1, t2, (nv : Int), A4, n4, c4, (m5 : Int), A6, n6, c6, A7, n7, c7, A8, n8, c8⟩ (.int .i64 (-1)) (.int .i64 (11)) rfl rfl rfl rfl hbxf' hfin'
                      · have hKE10 := hKE9.out
                        rw [if_neg hi0] at hKE10
                        by_cases h24 : N = 24
                        · have hK : Hid (clsKE d sl n fs ls = (-1, 2)) := hide (by rw [hKE10, if_pos h24])
                          have h24j : (N : Int) = 24 := by omega
                          have hok : (2 : Int) = 0 → (t0, t1, t2, (nv : Int), P4, (m5 : Int), F6, F7, P8) = clsOf d sl n fs := fun h => by omega
                          have hfin := S.fin hK.out hok hgq hqr1
                          have hbxf := set9_box (q := ⟨t0, t1, t2, (nv : Int), A4, n4, c4, (m5 : Int), A6, n6, c6, A7, n7, c7, A8, n8, c8⟩) S.hQ
                          have xs0 := S.hQ.c0
                          have xs1 := S.hQ.c1
                          have xs2 := S.hQ.c2
                          have xs3 := S.hQ.c3
                          have xs4 := S.hQ.c4
                          have xs5 := S.hQ.c5
                          have xs6 := S.hQ.c6
                          have xs7 := S.hQ.c7
                          have xs8 := S.hQ.c8
                          have p0 := S.hR.c0
                          have p1 := S.hR.c1
                          have p2 := S.hR.c2
                          have p3 := S.hR.c3
                          have p4 := S.hR.c4
                          have p5 := S.hR.c5
                          have p6 := S.hR.c6
                          have p7 := S.hR.c7
                          have p8 := S.hR.c8
                          dsimp only [nineZ] at xs0 xs1 xs2 xs3 xs4 xs5 xs6 xs7 xs8 p0 p1 p2 p3 p4 p5 p6 p7 p8
                          have r0 := S.hQ.free 0
                          have r1 := S.hQ.free 1
                          have r2 := S.hQ.free 2
                          have r3 := S.hQ.free 3
                          have r4 := S.hQ.free 4
                          have r5 := S.hQ.free 5
                          have r6 := S.hQ.free 6
                          have r7 := S.hQ.free 7
                          have r8 := S.hQ.free 8
                          have hql := S.hQ.lt
                          have hrl := S.hR.lt
                          replace hfin := hide hfin
                          replace hbxf := hide hbxf
                          clear hok
                          clear hKE9 hKE10 h24
                          have hd1 : (0 ≤ ix) = False := eq_false hi0
                          clear hi0
                          go_wp2
                          change bodyPost _ _ _ _ _ (set9 V9 q ⟨t0, t1, t2, (nv : Int), A4, n4, c4, (m5 : Int), A6, n6, c6, A7, n7, c7, A8, n8, c8⟩)
                          have hfin' := hfin.out
                          have hbxf' := hbxf.out
                          generalize set9 V9 q ⟨t0, t1, t2, (nv : Int), A4, n4, c4, (m5 : Int), A6, n6, c6, A7, n7, c7, A8, n8, c8⟩ = wk at hfin' hbxf' ⊢
                          exact end_cls3 rfl q ⟨t0, t1, t2, (nv : Int), A4, n4, c4, (m5 : Int), A6, n6, c6, A7, n7, c7, A8, n8, c8⟩ (.int .i64 (-1)) (.int .i64 (2)) rfl rfl rfl rfl hbxf' hfin'
                        · have hK : Hid (clsKE d sl n fs ls = (0, 0)) := hide (by rw [hKE10, if_neg h24])
                          have h24j : ¬ (N : Int) = 24 := by omega
                          have hok : (0 : Int) = 0 → (t0, t1, t2, (nv : Int), P4, (m5 : Int), F6, F7, P8) = clsOf d sl n fs := fun _ => hOfin.out.out.symm
                          have hfin := S.fin hK.out hok hgq hqr1
                          have hbxf := set9_box (q := ⟨t0, t1, t2, (nv : Int), A4, n4, c4, (m5 : Int), A6, n6, c6, A7, n7, c7, A8, n8, c8⟩) S.hQ
                          have xs0 := S.hQ.c0
                          have xs1 := S.hQ.c1
                          have xs2 := S.hQ.c2
                          have xs3 := S.hQ.c3
                          have xs4 := S.hQ.c4
                          have xs5 := S.hQ.c5
                          have xs6 := S.hQ.c6
                          have xs7 := S.hQ.c7
                          have xs8 := S.hQ.c8
                          have p0 := S.hR.c0
                          have p1 := S.hR.c1
                          have p2 := S.hR.c2
                          have p3 := S.hR.c3
                          have p4 := S.hR.c4
                          have p5 := S.hR.c5
                          have p6 := S.hR.c6
                          have p7 := S.hR.c7
                          have p8 := S.hR.c8
                          dsimp only [nineZ] at xs0 xs1 xs2 xs3 xs4 xs5 xs6 xs7 xs8 p0 p1 p2 p3 p4 p5 p6 p7 p8
                          have r0 := S.hQ.free 0
                          have r1 := S.hQ.free 1
                          have r2 := S.hQ.free 2
                          have r3 := S.hQ.free 3
                          have r4 := S.hQ.free 4
                          have r5 := S.hQ.free 5
                          have r6 := S.hQ.free 6
                          have r7 := S.hQ.free 7
                          have r8 := S.hQ.free 8
                          have hql := S.hQ.lt
                          have hrl := S.hR.lt
                          replace hfin := hide hfin
                          replace hbxf := hide hbxf
                          clear hok
                          clear hKE9 hKE10 h24
                          have hd1 : (0 ≤ ix) = False := eq_false hi0
                          clear hi0
                          have hd2 : ((N : Int) = 24) = False := eq_false h24j
                          have hd3 : (N = 24) = False := eq_false fun h => h24j (by omega)
                          have hd4 : ((N : Int) == 24) = false := beq_false_of_ne h24j
                          clear h24j
                          go_wp2
                          change bodyPost _ _ _ _ _ (set9 V9 q ⟨t0, t1, t2, (nv : Int), A4, n4, c4, (m5 : Int), A6, n6, c6, A7, n7, c7, A8, n8, c8⟩)
                          have hfin' := hfin.out
                          have hbxf' := hbxf.out
                          generalize set9 V9 q ⟨t0, t1, t2, (nv : Int), A4, n4, c4, (m5 : Int), A6, n6, c6, A7, n7, c7, A8, n8, c8⟩ = wk at hfin' hbxf' ⊢
                          exact end_cls3 rfl q ⟨t0, t1, t2, (nv : Int), A4, n4, c4, (m5 : Int), A6, n6, c6, A7, n7, c7, A8, n8, c8⟩ (.int .i64 (0)) (.int .i64 (0)) rfl rfl rfl rfl hbxf' hfin'
                    · have hK : Hid (clsKE d sl n fs ls = (8, ee)) := hide (by rw [hKEs.out, if_pos he])
                      have hei : (ee != 0) = true := by simpa using he
                      have hok : (ee : Int) = 0 → (t0, t1, t2, (nv : Int), P4, (m5 : Int), F6, F7, P8) = clsOf d sl n fs := fun h => absurd h he
                      have hfin := S.fin hK.out hok hgq hqr1
                      have hbxf := set9_box (q := ⟨t0, t1, t2, (nv : Int), A4, n4, c4, (m5 : Int), A6, n6, c6, A7, n7, c7, A8, n8, c8⟩) S.hQ
                      have xs0 := S.hQ.c0
                      have xs1 := S.hQ.c1
                      have xs2 := S.hQ.c2
                      have xs3 := S.hQ.c3
                      have xs4 := S.hQ.c4
                      have xs5 := S.hQ.c5
                      have xs6 := S.hQ.c6
                      have xs7 := S.hQ.c7
                      have xs8 := S.hQ.c8
                      have p0 := S.hR.c0
                      have p1 := S.hR.c1
                      have p2 := S.hR.c2
                      have p3 := S.hR.c3
                      have p4 := S.hR.c4
                      have p5 := S.hR.c5
                      have p6 := S.hR.c6
                      have p7 := S.hR.c7
                      have p8 := S.hR.c8
                      dsimp only [nineZ] at xs0 xs1 xs2 xs3 xs4 xs5 xs6 xs7 xs8 p0 p1 p2 p3 p4 p5 p6 p7 p8
                      have r0 := S.hQ.free 0
                      have r1 := S.hQ.free 1
                      have r2 := S.hQ.free 2
                      have r3 := S.hQ.free 3
                      have r4 := S.hQ.free 4
                      have r5 := S.hQ.free 5
                      have r6 := S.hQ.free 6
                      have r7 := S.hQ.free 7
                      have r8 := S.hQ.free 8
                      have hql := S.hQ.lt
                      have hrl := S.hR.lt
                      replace hfin := hide hfin
                      replace hbxf := hide hbxf
                      clear hok
                      replace he := hide he
                      clear hKEs hP8
                      go_wp2
                      change bodyPost _ _ _ _ _ (set9 V9 q ⟨t0, t1, t2, (nv : Int), A4, n4, c4, (m5 : Int), A6, n6, c6, A7, n7, c7, A8, n8, c8⟩)
                      have hfin' := hfin.out
                      have hbxf' := hbxf.out
                      generalize set9 V9 q ⟨t0, t1, t2, (nv : Int), A4, n4, c4, (m5 : Int), A6, n6, c6, A7, n7, c7, A8, n8, c8⟩ = wk at hfin' hbxf' ⊢
                      exact end_cls3 rfl q ⟨t0, t1, t2, (nv : Int), A4, n4, c4, (m5 : Int), A6, n6, c6, A7, n7, c7, A8, n8, c8⟩ (.int .i64 (8)) (.int .i64 (ee)) rfl rfl rfl rfl hbxf' hfin'
                  · have hK : Hid (clsKE d sl n fs ls = (7, (s7 : Int))) := hide (by rw [hKE8.out, if_pos h7])
                    have h7i : ((s7 : Int) != 0) = true := by simp; omega
                    have h7j : ¬ (s7 : Int) = 0 := by omega
                    have hok : ((s7 : Int) : Int) = 0 → (t0, t1, t2, (nv : Int), P4, (m5 : Int), F6, ([] : List ByteArray), ([] : List (Int × Int))) = clsOf d sl n fs := fun h => absurd h h7j
                    have hfin := S.fin hK.out hok hgq hqr1
                    have hbxf := set9_box (q := ⟨t0, t1, t2, (nv : Int), A4, n4, c4, (m5 : Int), A6, n6, c6, none, 0, 0, none, 0, 0⟩) S.hQ
                    have xs0 := S.hQ.c0
                    have xs1 := S.hQ.c1
                    have xs2 := S.hQ.c2
                    have xs3 := S.hQ.c3
                    have xs4 := S.hQ.c4
                    have xs5 := S.hQ.c5
                    have xs6 := S.hQ.c6
                    have xs7 := S.hQ.c7
                    have xs8 := S.hQ.c8
                    have p0 := S.hR.c0
                    have p1 := S.hR.c1
                    have p2 := S.hR.c2
                    have p3 := S.hR.c3
                    have p4 := S.hR.c4
                    have p5 := S.hR.c5
                    have p6 := S.hR.c6
                    have p7 := S.hR.c7
                    have p8 := S.hR.c8
                    dsimp only [nineZ] at xs0 xs1 xs2 xs3 xs4 xs5 xs6 xs7 xs8 p0 p1 p2 p3 p4 p5 p6 p7 p8
                    have r0 := S.hQ.free 0
                    have r1 := S.hQ.free 1
                    have r2 := S.hQ.free 2
                    have r3 := S.hQ.free 3
                    have r4 := S.hQ.free 4
                    have r5 := S.hQ.free 5
                    have r6 := S.hQ.free 6
                    have r7 := S.hQ.free 7
                    have r8 := S.hQ.free 8
                    have hql := S.hQ.lt
                    have hrl := S.hR.lt
                    replace hfin := hide hfin
                    replace hbxf := hide hbxf
                    clear hok
                    obtain ⟨M, hM⟩ : ∃ M, l7.length = M := ⟨_, rfl⟩
                    rw [hM]
                    replace h7 := hide h7
                    clear hown hat hKE8 hso7 hsl7 hM
                    go_wp2
                    change bodyPost _ _ _ _ _ (set9 wa7 q ⟨t0, t1, t2, (nv : Int), A4, n4, c4, (m5 : Int), A6, n6, c6, none, 0, 0, none, 0, 0⟩)
                    have hfin' := hfin.out
                    have hbxf' := hbxf.out
                    generalize set9 wa7 q ⟨t0, t1, t2, (nv : Int), A4, n4, c4, (m5 : Int), A6, n6, c6, none, 0, 0, none, 0, 0⟩ = wk at hfin' hbxf' ⊢
                    exact end_cls3 rfl q ⟨t0, t1, t2, (nv : Int), A4, n4, c4, (m5 : Int), A6, n6, c6, none, 0, 0, none, 0, 0⟩ (.int .i64 (7)) (.int .i64 ((s7 : Int))) rfl rfl rfl rfl hbxf' hfin'
                · have hK : Hid (clsKE d sl n fs ls = (6, (s6 : Int))) := hide (by rw [hKE7.out, if_pos h6])
                  have h6i : ((s6 : Int) != 0) = true := by simp; omega
                  have h6j : ¬ (s6 : Int) = 0 := by omega
                  have hok : ((s6 : Int) : Int) = 0 → (t0, t1, t2, (nv : Int), P4, (m5 : Int), ([] : List ByteArray), ([] : List ByteArray), ([] : List (Int × Int))) = clsOf d sl n fs := fun h => absurd h h6j
                  have hfin := S.fin hK.out hok hgq hqr1
                  have hbxf := set9_box (q := ⟨t0, t1, t2, (nv : Int), A4, n4, c4, (m5 : Int), none, 0, 0, none, 0, 0, none, 0, 0⟩) S.hQ
                  have xs0 := S.hQ.c0
                  have xs1 := S.hQ.c1
                  have xs2 := S.hQ.c2
                  have xs3 := S.hQ.c3
                  have xs4 := S.hQ.c4
                  have xs5 := S.hQ.c5
                  have xs6 := S.hQ.c6
                  have xs7 := S.hQ.c7
                  have xs8 := S.hQ.c8
                  have p0 := S.hR.c0
                  have p1 := S.hR.c1
                  have p2 := S.hR.c2
                  have p3 := S.hR.c3
                  have p4 := S.hR.c4
                  have p5 := S.hR.c5
                  have p6 := S.hR.c6
                  have p7 := S.hR.c7
                  have p8 := S.hR.c8
                  dsimp only [nineZ] at xs0 xs1 xs2 xs3 xs4 xs5 xs6 xs7 xs8 p0 p1 p2 p3 p4 p5 p6 p7 p8
                  have r0 := S.hQ.free 0
                  have r1 := S.hQ.free 1
                  have r2 := S.hQ.free 2
                  have r3 := S.hQ.free 3
                  have r4 := S.hQ.free 4
                  have r5 := S.hQ.free 5
                  have r6 := S.hQ.free 6
                  have r7 := S.hQ.free 7
                  have r8 := S.hQ.free 8
                  have hql := S.hQ.lt
                  have hrl := S.hR.lt
                  replace hfin := hide hfin
                  replace hbxf := hide hbxf
                  clear hok
                  obtain ⟨M, hM⟩ : ∃ M, l6.length = M := ⟨_, rfl⟩
                  rw [hM]
                  replace h6 := hide h6
                  clear hown hat hKE7 hso6 hsl6 hM
                  go_wp2
                  change bodyPost _ _ _ _ _ (set9 wa6 q ⟨t0, t1, t2, (nv : Int), A4, n4, c4, (m5 : Int), none, 0, 0, none, 0, 0, none, 0, 0⟩)
                  have hfin' := hfin.out
                  have hbxf' := hbxf.out
                  generalize set9 wa6 q ⟨t0, t1, t2, (nv : Int), A4, n4, c4, (m5 : Int), none, 0, 0, none, 0, 0, none, 0, 0⟩ = wk at hfin' hbxf' ⊢
                  exact end_cls3 rfl q ⟨t0, t1, t2, (nv : Int), A4, n4, c4, (m5 : Int), none, 0, 0, none, 0, 0, none, 0, 0⟩ (.int .i64 (6)) (.int .i64 ((s6 : Int))) rfl rfl rfl rfl hbxf' hfin'
            · have hK : Hid (clsKE d sl n fs ls = (4, pe)) := hide (by rw [hKE4.out, if_pos hp0])
              have hpi : (pe != 0) = true := by simpa using hp0
              have hok : (pe : Int) = 0 → (t0, t1, t2, (nv : Int), P4, (0 : Int), ([] : List ByteArray), ([] : List ByteArray), ([] : List (Int × Int))) = clsOf d sl n fs := fun h => absurd h hp0
              have hfin := S.fin hK.out hok hgq hqr1
              have hbxf := set9_box (q := ⟨t0, t1, t2, (nv : Int), A4, n4, c4, 0, none, 0, 0, none, 0, 0, none, 0, 0⟩) S.hQ
              have xs0 := S.hQ.c0
              have xs1 := S.hQ.c1
              have xs2 := S.hQ.c2
              have xs3 := S.hQ.c3
              have xs4 := S.hQ.c4
              have xs5 := S.hQ.c5
              have xs6 := S.hQ.c6
              have xs7 := S.hQ.c7
              have xs8 := S.hQ.c8
              have p0 := S.hR.c0
              have p1 := S.hR.c1
              have p2 := S.hR.c2
              have p3 := S.hR.c3
              have p4 := S.hR.c4
              have p5 := S.hR.c5
              have p6 := S.hR.c6
              have p7 := S.hR.c7
              have p8 := S.hR.c8
              dsimp only [nineZ] at xs0 xs1 xs2 xs3 xs4 xs5 xs6 xs7 xs8 p0 p1 p2 p3 p4 p5 p6 p7 p8
              have r0 := S.hQ.free 0
              have r1 := S.hQ.free 1
              have r2 := S.hQ.free 2
              have r3 := S.hQ.free 3
              have r4 := S.hQ.free 4
              have r5 := S.hQ.free 5
              have r6 := S.hQ.free 6
              have r7 := S.hQ.free 7
              have r8 := S.hQ.free 8
              have hql := S.hQ.lt
              have hrl := S.hR.lt
              replace hfin := hide hfin
              replace hbxf := hide hbxf
              clear hok
              replace hp0 := hide hp0
              clear hKE4 hP4
              go_wp2
              change bodyPost _ _ _ _ _ (set9 W5 q ⟨t0, t1, t2, (nv : Int), A4, n4, c4, 0, none, 0, 0, none, 0, 0, none, 0, 0⟩)
              have hfin' := hfin.out
              have hbxf' := hbxf.out
              generalize set9 W5 q ⟨t0, t1, t2, (nv : Int), A4, n4, c4, 0, none, 0, 0, none, 0, 0, none, 0, 0⟩ = wk at hfin' hbxf' ⊢
              exact end_cls3 rfl q ⟨t0, t1, t2, (nv : Int), A4, n4, c4, 0, none, 0, 0, none, 0, 0, none, 0, 0⟩ (.int .i64 (4)) (.int .i64 (pe)) rfl rfl rfl rfl hbxf' hfin'
  · have hk : clsKE d sl n fs ls = (-1, 9) := if_pos hm
    have hm2 : ((fs.length : Int) != 9) = true := by simp; omega
    have hU4 := heap3c w (.cells #[.int .i64 line, .slice F fs.length c] 27) (.cells #[.int .i64 d, .int .i64 sl, .int .i64 b, .int .i64 m] 24) (.cells #[.string ⟨#[]⟩, .string ⟨#[]⟩, .string ⟨#[]⟩, .int .i64 0, .slice none 0 0, .int .i64 0, .slice none 0 0, .slice none 0 0, .slice none 0 0] 47)
    have hbU : Below w.heap.size w (((w.alloc (.cells #[.int .i64 line, .slice F fs.length c] 27)).alloc (.cells #[.int .i64 d, .int .i64 sl, .int .i64 b, .int .i64 m] 24)).alloc (.cells #[.string ⟨#[]⟩, .string ⟨#[]⟩, .string ⟨#[]⟩, .int .i64 0, .slice none 0 0, .int .i64 0, .slice none 0 0, .slice none 0 0, .slice none 0 0] 47)) := (by repeat (first | exact Below.refl _ _ | refine ext_alloc ?_ _ | refine ext_drewN ?_ _ | refine ext_drew ?_ | refine ext_trans ?_ (by assumption)))
    obtain ⟨U, hU⟩ : ∃ U, ((w.alloc (.cells #[.int .i64 line, .slice F fs.length c] 27)).alloc (.cells #[.int .i64 d, .int .i64 sl, .int .i64 b, .int .i64 m] 24)).alloc (.cells #[.string ⟨#[]⟩, .string ⟨#[]⟩, .string ⟨#[]⟩, .int .i64 0, .slice none 0 0, .int .i64 0, .slice none 0 0, .slice none 0 0, .slice none 0 0] 47) = U := ⟨_, rfl⟩
    rw [hU] at hbU hU4
    obtain ⟨-, -, u3⟩ := hU4
    have hQU : CBox U (w.heap.size + 2) nineZ := u3
    replace hU := hide hU
    replace hk := hide hk
    clear hF hX hs hS hW hD u3
    replace hm := hide hm
    go_enter Tryz.func74, Tryz.ntmps74
    go_wp2
    rw [hU.out]
    exact end_cls3 rfl (w.heap.size + 2) nineZ (.int .i64 (-1)) (.int .i64 9) rfl rfl rfl rfl hQU ⟨nineZ, [], [], [], [], by rw [hk.out], Own.nil, Own.nil, Own.nil, Own.nil, (fun h => by rw [hk.out] at h; cases h), hbU⟩
end Go.Proofs.YtimcdikeajbabaaGreatDoor
