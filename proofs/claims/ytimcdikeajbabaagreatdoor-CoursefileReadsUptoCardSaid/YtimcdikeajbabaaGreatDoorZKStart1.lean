/- What the walk of the closure of coursefile.Lines leaves: a class written whole; the length's problem. No walk. Three objects made; a field's text. No condition. Plain: a list says at most 64 codes. No condition. Walks of Scanner.Number, whether a problem is noted or not: at most so many digits, of which the first may be 0; and the bound of a length. Conditions: at most 18 digits. Walk of coursefile.start. Conditions: a text shorter than 2^30 bytes; a grid's bounds. -/
import Derived.Test.YtimcdikeajbabaaGreatDoorRows
import Derived.WalkKit
import Derived.WalkSpells
import Derived.WalkLawsBesides
import Derived.BigGuardPart
import Derived.Lib.Hide
import Derived.Laws.BitsAllLaws
import Derived.Laws.BitsLemmas
import Derived.Lib.LaidTab
import Derived.Test.YtimcdikeajbabaaGreatDoorShelf
import Derived.Lib.ConvBytes
import Derived.Deep.QuietTactic
import Derived.BigQuiet
import Derived.Test.YtimcdikeajbabaaGreatDoorShelfS
import Derived.Laws.ResultCell
import Derived.RegionTactic
import Derived.BigRegion
import Derived.Deep.RegionHeld3
import Derived.Deep.DeepCutAuto
import Derived.Lib.SmallJoins
import Derived.Lib.SplitLaws
import Derived.Lib.CountLaws
import Derived.Lib.IndexMore
import Derived.Lib.Split
import Derived.Lib.Join
import Derived.Lib.ItoaNum
import Derived.Laws.AppendOwn
import Derived.Test.YtimcdikeajbabaaGreatDoorShelfT
import Derived.Lib.ItoaLen
import Derived.Lib.AppendIntMem
import Derived.Deep.AppendLies
import Derived.Lib.PathFns
import Derived.Maps.Range
import Derived.Lib.OwnBridge
import Derived.Sort.OwnSorted
import Derived.Sort.Walk0
import Derived.Test.YtimcdikeajbabaaGreatDoorCards
import Derived.Test.YtimcdikeajbabaaGreatDoorTie
import Derived.ProofKit
import Derived.OpenShut
import Derived.LaidMore
import Derived.Lay
import Derived.SevenTiedAt
import Derived.Stop.Joined
import Derived.Stop.LaidErr
import Derived.Deep.DeepHandedRow
import Derived.Lib.LaidU8
import Derived.LaidSub
import Derived.Deep.Slices
import Derived.Deep.Fields
import Derived.ChangeSame
import Derived.Test.YtimcdikeajbabaaGreatDoorZCBox
import Derived.Test.YtimcdikeajbabaaGreatDoorZKOneP
import Derived.Test.YtimcdikeajbabaaGreatDoorZSameL
import Derived.Test.YtimcdikeajbabaaGreatDoorZListC
import Derived.Test.YtimcdikeajbabaaGreatDoorZNumS
import Derived.Test.YtimcdikeajbabaaGreatDoorZRef5C
import Derived.Test.YtimcdikeajbabaaGreatDoorZPatRd
namespace Go.Proofs.YtimcdikeajbabaaGreatDoor
open Go.RowKit
set_option maxRecDepth 100000

theorem CBox.only {W W' : World} {g x : Nat} {q : Nine} (h : CBox W x q) (ho : Only g W W') (hne : x ≠ g) : CBox W' x q := h.grown ho (fun e => hne (by injection e with e; exact e.symm))
def set9 (w : World) (r : Nat) (q : Nine) : World := ((((((((w.setCell ⟨r, 0, none⟩ (.string q.z)).setCell ⟨r, 1, none⟩ (.string q.co)).setCell ⟨r, 2, none⟩ (.string q.pa)).setCell ⟨r, 3, none⟩ (.int .i64 q.n)).setCell ⟨r, 4, none⟩ (.slice q.A4 q.n4 q.c4)).setCell ⟨r, 5, none⟩ (.int .i64 q.m)).setCell ⟨r, 6, none⟩ (.slice q.A6 q.n6 q.c6)).setCell ⟨r, 7, none⟩ (.slice q.A7 q.n7 q.c7)).setCell ⟨r, 8, none⟩ (.slice q.A8 q.n8 q.c8)
theorem set9_box {w : World} {r : Nat} {q q0 : Nine} (h : CBox w r q0) : CBox (set9 w r q) r q :=
  ((((((((h.set0 q.z).set1 q.co).set2 q.pa).set3 q.n).set4 q.A4 q.n4 q.c4).set5 q.m).set6 q.A6 q.n6 q.c6).set7 q.A7 q.n7 q.c7).set8 q.A8 q.n8 q.c8
theorem box_scan {w : World} {r g i : Nat} {q0 : Nine} {line : Int} {F : Option Addr} {m c k : Nat} {pr : Option Prob} (h : Scan w g line F m c k pr) (hb : CBox w r q0) (hne : r ≠ g) (u : Value) : Scan (w.setCell ⟨r, i, none⟩ u) g line F m c k pr := scan_set h hb.c0 hne
theorem set9_scan {w : World} {r g : Nat} {q q0 : Nine} {line : Int} {F : Option Addr} {m c k : Nat} {pr : Option Prob} (h : Scan w g line F m c k pr) (hb : CBox w r q0) (hne : r ≠ g) : Scan (set9 w r q) g line F m c k pr := by
  have b1 := hb.set0 q.z
  have b2 := b1.set1 q.co
  have b3 := b2.set2 q.pa
  have b4 := b3.set3 q.n
  have b5 := b4.set4 q.A4 q.n4 q.c4
  have b6 := b5.set5 q.m
  have b7 := b6.set6 q.A6 q.n6 q.c6
  have b8 := b7.set7 q.A7 q.n7 q.c7
  exact box_scan (box_scan (box_scan (box_scan (box_scan (box_scan (box_scan (box_scan (box_scan h hb hne _) b1 hne _) b2 hne _) b3 hne _) b4 hne _) b5 hne _) b6 hne _) b7 hne _) b8 hne _
theorem set9_only {a w : World} {g r : Nat} {q : Nine} (h : Only g a w) (hp : r = g ∨ a.heap.size ≤ r) : Only g a (set9 w r q) :=
  only_setCell (only_setCell (only_setCell (only_setCell (only_setCell (only_setCell (only_setCell (only_setCell (only_setCell h hp _) hp _) hp _) hp _) hp _) hp _) hp _) hp _) hp _
theorem load9 (w : World) (g : Nat) (q : Nine) (h : CBox w g q) :
    (loadVar 47 ⟨g, 0, none⟩).run Tryz.prog w = .ok (.agg (cboxV q)) w := by
  simp [go_sem, h.c0, h.c1, h.c2, h.c3, h.c4, h.c5, h.c6, h.c7, h.c8, cboxV]
theorem end_clsK {fn : Func} {p : Tmp} (hr : fn.results = #[.cell p 47]) {Q : Ending → World → Prop} {act : Act} {w : World} (g : Nat) (q : Nine) (hd : act.defers = [])
    (hp : act.tmps.getD p undef = .pointer (some ⟨g, 0, none⟩))
    (h : CBox w g q) (hQ : Q (.returned (.agg (cboxV q))) w) : bodyPost Tryz.prog fn Q .ret act w := by
  refine bodyPost_ret (v := .agg (cboxV q)) ?_ hd hQ
  simp only [results, hr]
  simp [Sem.run_bind, Result.andThen, -Array.getD_eq_getD_getElem?]
  rw [hp]
  simp only [asAddr, Sem.run_pure]
  rw [load9 w g q h]
def ClsGives (d sl n : Int) (g : Nat) (line : Int) (F : Option Addr) (fs : List Fld) (c : Nat) (ls : List Cls) (w : World) (e : Ending) (w' : World) : Prop :=
  ∃ (q : Nine) (ps : List Int) (f6 f7 : List ByteArray) (ss : List (Int × Int)) (k : Nat), e = .returned (.agg (cboxV q)) ∧ Own kInt 3 [] 0 w.heap.size w' (.slice q.A4 q.n4 q.c4) ps ∧ Own kStr 9 [] 0 w.heap.size w' (.slice q.A6 q.n6 q.c6) f6 ∧ Own kStr 9 [] 0 w.heap.size w' (.slice q.A7 q.n7 q.c7) f7 ∧ Own kStart 70 [] 0 w.heap.size w' (.slice q.A8 q.n8 q.c8) ss ∧
    Scan w' g line F fs.length c k (clsP d sl n line fs ls) ∧ (clsP d sl n line fs ls = none → (q.z, q.co, q.pa, q.n, ps, q.m, f6, f7, ss) = clsOf d sl n fs) ∧ Only g w w'
theorem numS_someK {k : Nat} {t : ByteArray} {v : Nat} (h : numS k t = some v) : numE k t = some v := by
  unfold numS at h
  split at h
  · cases h
  · exact h
/-- A length that is read. -/
theorem len_step {pr3 prn : Option Prob} {line sl : Int} {fs : List Fld} {k3 k4 nn : Nat} (_hsl : 0 ≤ sl)
    (hn : pr3 = none → k4 = k3 + 1 ∧ nn = (numE 2 (textAt fs k3)).getD 0 ∧ prn = numP (numS 2 (textAt fs k3)) (line, colAt fs (k3 + 1), 4)) (hp : ∀ p, pr3 = some p → prn = some p ∧ nn = 0) :
    (pr3 = none → k4 = k3 + 1 ∧ (nn : Int) = lenOf (textAt fs k3) ∧ noted prn (decide (sl < (nn : Int))) (line, colAt fs k4, 3) = probOf line (colAt fs (k3 + 1)) (lenE sl (textAt fs k3))) ∧ ∀ p, pr3 = some p → noted prn (decide (sl < (nn : Int))) (line, colAt fs k4, 3) = some p := by
  refine ⟨fun h => ?_, fun p h => by rw [(hp p h).1]; rfl⟩
  obtain ⟨rfl, rfl, rfl⟩ := hn h
  refine ⟨rfl, rfl, ?_⟩
  unfold lenE
  cases hs : numS 2 (textAt fs k3) with
  | none => rfl
  | some v =>
    rw [numS_someK hs, if_neg (by simp), Option.getD_some]
    by_cases hv : sl < (v : Int)
    · rw [decide_eq_true hv, if_pos hv]; rfl
    · rw [decide_eq_false hv, if_neg hv]; rfl
end Go.Proofs.YtimcdikeajbabaaGreatDoor

namespace Go.Proofs.YtimcdikeajbabaaGreatDoor
open Go.RowKit
set_option maxRecDepth 100000

theorem textC_at {fs : List Fld} {k : Nat} (h : k < fs.length) : (fs[k]'h).1 = textAt fs k := by
  unfold textAt; rw [List.getD_eq_getElem?_getD, List.getElem?_eq_getElem h]; rfl
theorem heap3c (w : World) (o1 o2 o3 : Obj) : (((w.alloc o1).alloc o2).alloc o3).heap[w.heap.size]? = some o1 ∧ (((w.alloc o1).alloc o2).alloc o3).heap[w.heap.size + 1]? = some o2 ∧ (((w.alloc o1).alloc o2).alloc o3).heap[w.heap.size + 2]? = some o3 := by
  have s1 : (w.alloc o1).heap.size = w.heap.size + 1 := World.size_alloc _ _
  have s2 : ((w.alloc o1).alloc o2).heap.size = w.heap.size + 2 := by rw [World.size_alloc, s1]
  refine ⟨?_, ?_, heap_new3 _ _ _ _⟩
  · rw [Below.heap_alloc _ _ _ (by omega), Below.heap_alloc _ _ _ (by omega)]; exact heap_alloc_new _ _
  · rw [Below.heap_alloc _ _ _ (by omega)]; exact heap_new2 _ _ _
end Go.Proofs.YtimcdikeajbabaaGreatDoor

namespace Go.Proofs.YtimcdikeajbabaaGreatDoor
open Go.RowKit
set_option maxRecDepth 100000

theorem listF_len64 : ∀ (ps out : List ByteArray), out.length ≤ 64 → (listF out ps).2.length ≤ 64
  | [], out, h => by
    rw [listF]
    split
    · exact h
    · exact Nat.zero_le _
  | p :: ps, out, h => by
    by_cases h1 : (partV p (64 - out.length)).1 ≠ 0
    · rw [listF_err h1]; exact Nat.zero_le _
    · obtain ⟨more, hm⟩ : ∃ more, partV p (64 - out.length) = (0, more) := ⟨_, Prod.ext (by omega) rfl⟩
      rw [listF_ok hm]
      by_cases h2 : 64 < (out ++ more).length
      · rw [if_pos h2]; exact Nat.zero_le _
      · rw [if_neg h2]; exact listF_len64 ps _ (by omega)
theorem listV_len64 (s : ByteArray) : (listV s).2.length ≤ 64 := by
  unfold listV
  split
  · exact Nat.zero_le _
  · exact listF_len64 _ _ (Nat.zero_le _)
end Go.Proofs.YtimcdikeajbabaaGreatDoor

namespace Go.Proofs.YtimcdikeajbabaaGreatDoor
open Go.RowKit
set_option maxRecDepth 100000

def NumAnyF (most g : Nat) (line : Int) (F : Option Addr) (fs : List Fld) (c k : Nat) (pr : Option Prob) (w : World) (e : Ending) (w' : World) : Prop :=
  ∃ (k' n : Nat) (pr' : Option Prob), e = .returned (.int .i64 (n : Int)) ∧ Scan w' g line F fs.length c k' pr' ∧ Only g w w' ∧ 1 ≤ k' ∧ k' ≤ k + 1 ∧ (pr = none → k' = k + 1 ∧ n = (numE most (textAt fs k)).getD 0 ∧ pr' = numP (numE most (textAt fs k)) (line, colAt fs (k + 1), 4)) ∧ (∀ p, pr = some p → pr' = some p ∧ n = 0)
theorem num_anyF (B g : Nat) (line : Int) (F : Option Addr) (fs : List Fld) (c k most : Nat) (pr : Option Prob) (w : World) (h : Scan w g line F fs.length c k pr) (hF : FieldsAt B w F fs) (h2 : k < fs.length) (hm : fs.length ≤ 1000) (hB : B ≤ g) (h1 : ∀ p, pr = some p → 1 ≤ k) (h18 : most ≤ 18) (hsz : (textAt fs k).size ≤ 9223372036854775807) :
    Calls Tryz.prog 67 #[.pointer (some ⟨g, 0, none⟩), .int .i64 most, .bool true] w fun e w' => NumAnyF most g line F fs c k pr w e w' := by
  cases pr with
  | none =>
    refine (fnum_walk B g line F fs c k most w h hF h2 hm hB h18 hsz).mono ?_
    rintro e w' ⟨rfl, hs, ho⟩
    exact ⟨k + 1, _, _, rfl, hs, ho, by omega, Nat.le_refl _, fun _ => ⟨rfl, rfl, rfl⟩, fun p hp => by cases hp⟩
  | some p =>
    have hk := h1 p rfl
    refine (fnum_stop B g line F fs c k most p w h hF hk (by omega) hm hB h18).mono ?_
    rintro e w' ⟨rfl, hs, ho⟩
    exact ⟨k, 0, _, rfl, hs, ho, hk, by omega, (fun hp => by cases hp), fun q hq => ⟨hq, rfl⟩⟩
/-- A number of at most two digits. -/
theorem numE_99 (s : ByteArray) : (numE 2 s).getD 0 ≤ 99 := by
  unfold numE
  split
  · rename_i h
    have h2 := (dig_val h.2.2).2
    have h3 : 10 ^ s.size ≤ 10 ^ 2 := Nat.pow_le_pow_right (by omega) h.2.1
    have : (10 : Nat) ^ 2 = 100 := rfl
    show valS s ≤ 99
    omega
  · exact Nat.zero_le _
end Go.Proofs.YtimcdikeajbabaaGreatDoor

namespace Go.Proofs.YtimcdikeajbabaaGreatDoor
open Go.RowKit
set_option maxRecDepth 100000

theorem load2s (w : World) (g : Nat) (a b : Value) (h0 : w.cell? ⟨g, 0, none⟩ = some a) (h1 : w.cell? ⟨g, 1, none⟩ = some b) :
    (loadVar 70 ⟨g, 0, none⟩).run Tryz.prog w = .ok (.agg #[a, b]) w := by
  simp [go_sem, h0, h1]
theorem end_start {fn : Func} {p u : Tmp} (hr : fn.results = #[.cell p 70, .tmp u]) {Q : Ending → World → Prop} {act : Act} {w : World} (g : Nat) (a b e : Value) (hd : act.defers = [])
    (hp : act.tmps.getD p undef = .pointer (some ⟨g, 0, none⟩)) (he : act.tmps.getD u undef = e)
    (h0 : w.cell? ⟨g, 0, none⟩ = some a) (h1 : w.cell? ⟨g, 1, none⟩ = some b)
    (hQ : Q (.returned (.tuple #[.agg #[a, b], e])) w) : bodyPost Tryz.prog fn Q .ret act w := by
  refine bodyPost_ret (v := .tuple #[.agg #[a, b], e]) ?_ hd hQ
  rw [results_cell_tmp hr, hp, he]
  simp only [asAddr, Sem.run_pure, Result.andThen_ok]
  rw [load2s w g a b h0 h1]
  rfl
theorem set2_cells {w : World} {r : Nat} {a b a' b' : Value} (h0 : w.cell? ⟨r, 0, none⟩ = some a') (h1 : w.cell? ⟨r, 1, none⟩ = some b') :
    ((w.setCell ⟨r, 0, none⟩ a).setCell ⟨r, 1, none⟩ b).cell? ⟨r, 0, none⟩ = some a ∧ ((w.setCell ⟨r, 0, none⟩ a).setCell ⟨r, 1, none⟩ b).cell? ⟨r, 1, none⟩ = some b := by
  refine ⟨(World.cell?_setCell_other _ _ _ _ (by simp)).trans (World.cell?_setCell_same _ _ _ h0), World.cell?_setCell_same _ _ _ ((World.cell?_setCell_other _ _ _ _ (by simp)).trans h1)⟩
set_option maxHeartbeats 8000000 in
theorem start_walk (z : ByteArray) (d sl b m len : Int) (w : World) (hS : Std w) (hz : z.size < 1073741824) (hl : 0 ≤ len ∧ len ≤ 100) (hs : 1 ≤ sl ∧ sl ≤ 24) :
    Calls Tryz.prog 110 #[.string z, .int .i64 len, .agg #[.int .i64 d, .int .i64 sl, .int .i64 b, .int .i64 m]] w fun e w' => e = .returned (.tuple #[.agg #[.int .i64 (startV d sl len z).1.1, .int .i64 (startV d sl len z).1.2], .int .i64 (startV d sl len z).2]) ∧ Below w.heap.size w w' := by
  obtain ⟨x, y, t, hc⟩ : ∃ x y t, Lib.cut z.data.toList (⟨#[32]⟩ : ByteArray).data.toList = (x, y, t) := ⟨_, _, _, rfl⟩
  have hyl : y.length ≤ z.size := by
    have h := cut1_len (c := 32) (r := z.data.toList) ((cut_eq 32 z.data.toList).symm.trans hc)
    have h2 := ba_len z
    omega
  obtain ⟨X, hX⟩ : ∃ X : ByteArray, (⟨x.toArray⟩ : ByteArray) = X := ⟨_, rfl⟩
  obtain ⟨Y, hY⟩ : ∃ Y : ByteArray, (⟨y.toArray⟩ : ByteArray) = Y := ⟨_, rfl⟩
  have hYs : Y.size < 1073741824 := by rw [← hY]; show y.toArray.size < _; simp; omega
  have eX : spOf z = X := by unfold spOf; rw [show Lib.cut z.data.toList [32] = (x, y, t) from hc]; exact hX
  have eY : spBehind z = Y := by unfold spBehind; rw [show Lib.cut z.data.toList [32] = (x, y, t) from hc]; exact hY
  have eT : spTwo z = t := by unfold spTwo; rw [show Lib.cut z.data.toList [32] = (x, y, t) from hc]
  obtain ⟨V, hV⟩ : ∃ V, startV d sl len z = V := ⟨_, rfl⟩
  have hE : V = if t = false ∨ dayI X < 0 ∨ numS 2 Y = none then ((0, 0), 4) else if possB d sl len (dayI X, (((numS 2 Y).getD 0 : Nat) : Int) - 1) = true then ((dayI X, (((numS 2 Y).getD 0 : Nat) : Int) - 1), 0) else ((0, 0), 14) := by rw [← hV]; unfold startV; rw [eX, eY, eT]
  rw [hV]
  have hday := fun (U : World) => day_walk X U
  have hdig := fun (U : World) => digits_walk Y 2 (by decide) U (by omega)
  have h99 := numE_99 Y
  obtain ⟨o, ho⟩ : ∃ o, numE 2 Y = o := ⟨_, rfl⟩
  rw [ho] at hdig h99
  unfold digV at hdig
  have hb0 : Below w.heap.size w ((w.alloc (.cells #[.int .i64 d, .int .i64 sl, .int .i64 b, .int .i64 m] 24)).alloc (.cells #[.int .i64 0, .int .i64 0] 70)) := (by repeat (first | exact Below.refl _ _ | refine ext_alloc ?_ _ | refine ext_drewN ?_ _ | refine ext_drew ?_ | refine ext_trans ?_ (by assumption)))
  have bG := (Box4.new w 24 (.int .i64 d) (.int .i64 sl) (.int .i64 b) (.int .i64 m)).alloc (.cells #[.int .i64 0, .int .i64 0] 70)
  have hzz : (w.alloc (.cells #[.int .i64 d, .int .i64 sl, .int .i64 b, .int .i64 m] 24)).heap.size = w.heap.size + 1 := World.size_alloc _ _
  have r0 : ((w.alloc (.cells #[.int .i64 d, .int .i64 sl, .int .i64 b, .int .i64 m] 24)).alloc (.cells #[.int .i64 0, .int .i64 0] 70)).cell? ⟨w.heap.size + 1, 0, none⟩ = some (.int .i64 0) := by rw [← hzz]; simp
  have r1 : ((w.alloc (.cells #[.int .i64 d, .int .i64 sl, .int .i64 b, .int .i64 m] 24)).alloc (.cells #[.int .i64 0, .int .i64 0] 70)).cell? ⟨w.heap.size + 1, 1, none⟩ = some (.int .i64 0) := by rw [← hzz]; simp
  have rf0 : ((w.alloc (.cells #[.int .i64 d, .int .i64 sl, .int .i64 b, .int .i64 m] 24)).alloc (.cells #[.int .i64 0, .int .i64 0] 70)).frozen? ⟨w.heap.size + 1, 0, none⟩ = false := by rw [← hzz]; simp
  have rf1 : ((w.alloc (.cells #[.int .i64 d, .int .i64 sl, .int .i64 b, .int .i64 m] 24)).alloc (.cells #[.int .i64 0, .int .i64 0] 70)).frozen? ⟨w.heap.size + 1, 1, none⟩ = false := by rw [← hzz]; simp
  obtain ⟨W, hWW⟩ : ∃ W, (w.alloc (.cells #[.int .i64 d, .int .i64 sl, .int .i64 b, .int .i64 m] 24)).alloc (.cells #[.int .i64 0, .int .i64 0] 70) = W := ⟨_, rfl⟩
  rw [hWW] at hb0 bG r0 r1 rf0 rf1
  obtain ⟨g0, g1, g2, g3⟩ := bG
  obtain ⟨gb, hgb⟩ : ∃ gb, w.heap.size = gb := ⟨_, rfl⟩
  obtain ⟨r, hr⟩ : ∃ r, w.heap.size + 1 = r := ⟨_, rfl⟩
  rw [hgb] at g0 g1 g2 g3
  rw [hr] at r0 r1 rf0 rf1
  have hrl : r < W.heap.size := World.block_lt_of_cell? _ _ r0
  have hS0 := hS.after hb0
  replace hWW := hide hWW
  replace hr := hide hr
  replace hgb := hide hgb
  replace hc := hide hc
  replace hX := hide hX
  replace hY := hide hY
  replace hday := hide hday
  replace hdig := hide hdig
  clear hzz eX eY eT hV hyl hYs
  cases t with
  | false =>
    rw [if_pos (Or.inl rfl)] at hE
    have hV := hide hE
    clear hE ho
    (
      (
        go_enter Tryz.func110, Tryz.ntmps110
        go_wp2_with fail
        rw [hWW.out, hr.out, hgb.out]
        refine (cut_walk z ⟨#[32]⟩ x y _ (by omega) W hS0 hc.out).mono ?_
        rintro e w1 ⟨rfl, hb1⟩
        rw [hX.out, hY.out]
        go_wp2_with fail
        refine (hday.out w1).mono ?_
        rintro e w2 ⟨rfl, hb2⟩
        go_wp2_with fail
        refine (hdig.out w2).mono ?_
        rintro e w3 ⟨rfl, hb3⟩
        have hbb := ext_trans hb1 (ext_trans hb2 hb3)
        have k0 := cell_later hbb r0
        have k1 := cell_later hbb r1
        have q0 := cell_later hbb g0
        have q1 := cell_later hbb g1
        have q2 := cell_later hbb g2
        have q3 := cell_later hbb g3
        have kf0 : w3.frozen? ⟨r, 0, none⟩ = false := (World.frozen?_of_block (hbb.block r hrl)).trans rf0
        have kf1 : w3.frozen? ⟨r, 1, none⟩ = false := (World.frozen?_of_block (hbb.block r hrl)).trans rf1
        have hr3 : r < w3.heap.size := World.block_lt_of_cell? _ _ k0
        have hg3 : gb < w3.heap.size := World.block_lt_of_cell? _ _ q0
        have hbw := ext_trans hb0 hbb
        clear hb1 hb2 hb3 hday hdig)
      go_wp2
      all_goals try (exfalso; omega)
      all_goals
        obtain ⟨s0, s1⟩ := set2_cells (a := .int .i64 0) (b := .int .i64 0) k0 k1
        refine end_start rfl r (.int .i64 0) (.int .i64 0) (.int .i64 4) rfl rfl rfl s0 s1 ⟨by rw [hV.out], ?_⟩
        exact ext_set (ext_set hbw (p := ⟨r, 0, none⟩) (by have := hr.out; show w.heap.size ≤ r; omega) _) (p := ⟨r, 1, none⟩) (by have := hr.out; show w.heap.size ≤ r; omega) _)
  | true =>
    by_cases hD : 0 ≤ dayI X
    · have hmx : max (dayI X) 0 = dayI X := by omega
      have hdd : decide (0 ≤ dayI X) = true := decide_eq_true hD
      have hday2 := hide (by have := hday.out; rwa [hmx, hdd] at this)
      clear hday
      obtain ⟨D, hDD⟩ : ∃ D, dayI X = D := ⟨_, rfl⟩
      rw [hDD] at hday2 hE hD hmx hdd
      cases o with
      | none =>
        have hn : numS 2 Y = none := by
          unfold numS
          split
          · rfl
          · exact ho
        rw [if_pos (Or.inr (Or.inr hn))] at hE
        have hV := hide hE
        have hday := hday2
        clear hE ho hn hday2 hDD hmx hdd
        (
          (
            go_enter Tryz.func110, Tryz.ntmps110
            go_wp2_with fail
            rw [hWW.out, hr.out, hgb.out]
            refine (cut_walk z ⟨#[32]⟩ x y _ (by omega) W hS0 hc.out).mono ?_
            rintro e w1 ⟨rfl, hb1⟩
            rw [hX.out, hY.out]
            go_wp2_with fail
            refine (hday.out w1).mono ?_
            rintro e w2 ⟨rfl, hb2⟩
            go_wp2_with fail
            refine (hdig.out w2).mono ?_
            rintro e w3 ⟨rfl, hb3⟩
            have hbb := ext_trans hb1 (ext_trans hb2 hb3)
            have k0 := cell_later hbb r0
            have k1 := cell_later hbb r1
            have q0 := cell_later hbb g0
            have q1 := cell_later hbb g1
            have q2 := cell_later hbb g2
            have q3 := cell_later hbb g3
            have kf0 : w3.frozen? ⟨r, 0, none⟩ = false := (World.frozen?_of_block (hbb.block r hrl)).trans rf0
            have kf1 : w3.frozen? ⟨r, 1, none⟩ = false := (World.frozen?_of_block (hbb.block r hrl)).trans rf1
            have hr3 : r < w3.heap.size := World.block_lt_of_cell? _ _ k0
            have hg3 : gb < w3.heap.size := World.block_lt_of_cell? _ _ q0
            have hbw := ext_trans hb0 hbb
            clear hb1 hb2 hb3 hday hdig)
          go_wp2
          all_goals try (exfalso; omega)
          all_goals
            obtain ⟨s0, s1⟩ := set2_cells (a := .int .i64 0) (b := .int .i64 0) k0 k1
            refine end_start rfl r (.int .i64 0) (.int .i64 0) (.int .i64 4) rfl rfl rfl s0 s1 ⟨by rw [hV.out], ?_⟩
            exact ext_set (ext_set hbw (p := ⟨r, 0, none⟩) (by have := hr.out; show w.heap.size ≤ r; omega) _) (p := ⟨r, 1, none⟩) (by have := hr.out; show w.heap.size ≤ r; omega) _)
      | some k =>
        have hpos : 0 < Y.size := by
          apply Classical.byContradiction
          intro hn
          unfold numE at ho
          rw [if_neg (fun h => hn h.1)] at ho
          cases ho
        have hp0 : (0 : Int) < (Y.size : Int) := by omega
        by_cases hz0 : Y[0].toNat = 48
        · have hzi : ((Y[0].toNat : Nat) : Int) = 48 := by omega
          have hn : numS 2 Y = none := by unfold numS; rw [if_pos (by unfold zeroS; rw [dif_pos hpos]; simpa using hz0)]
          rw [if_pos (Or.inr (Or.inr hn))] at hE
          have hV := hide hE
          have hday := hday2
          clear hE ho hn hday2 hDD hmx hdd
          (
            (
              go_enter Tryz.func110, Tryz.ntmps110
              go_wp2_with fail
              rw [hWW.out, hr.out, hgb.out]
              refine (cut_walk z ⟨#[32]⟩ x y _ (by omega) W hS0 hc.out).mono ?_
              rintro e w1 ⟨rfl, hb1⟩
              rw [hX.out, hY.out]
              go_wp2_with fail
              refine (hday.out w1).mono ?_
              rintro e w2 ⟨rfl, hb2⟩
              go_wp2_with fail
              refine (hdig.out w2).mono ?_
              rintro e w3 ⟨rfl, hb3⟩
              have hbb := ext_trans hb1 (ext_trans hb2 hb3)
              have k0 := cell_later hbb r0
              have k1 := cell_later hbb r1
              have q0 := cell_later hbb g0
              have q1 := cell_later hbb g1
              have q2 := cell_later hbb g2
              have q3 := cell_later hbb g3
              have kf0 : w3.frozen? ⟨r, 0, none⟩ = false := (World.frozen?_of_block (hbb.block r hrl)).trans rf0
              have kf1 : w3.frozen? ⟨r, 1, none⟩ = false := (World.frozen?_of_block (hbb.block r hrl)).trans rf1
              have hr3 : r < w3.heap.size := World.block_lt_of_cell? _ _ k0
              have hg3 : gb < w3.heap.size := World.block_lt_of_cell? _ _ q0
              have hbw := ext_trans hb0 hbb
              clear hb1 hb2 hb3 hday hdig)
            go_wp2
            all_goals try (exfalso; omega)
            all_goals
              obtain ⟨s0, s1⟩ := set2_cells (a := .int .i64 0) (b := .int .i64 0) k0 k1
              refine end_start rfl r (.int .i64 0) (.int .i64 0) (.int .i64 4) rfl rfl rfl s0 s1 ⟨by rw [hV.out], ?_⟩
              exact ext_set (ext_set hbw (p := ⟨r, 0, none⟩) (by have := hr.out; show w.heap.size ≤ r; omega) _) (p := ⟨r, 1, none⟩) (by have := hr.out; show w.heap.size ≤ r; omega) _)
        · have hzi : ¬ ((Y[0].toNat : Nat) : Int) = 48 := by omega
          have hn : numS 2 Y = some k := by unfold numS; rw [if_neg (by unfold zeroS; rw [dif_pos hpos]; simpa using hz0), ho]
          rw [hn, if_neg (by rintro (h | h | h) <;> first | cases h | omega)] at hE
          rw [Option.getD_some] at hE hdig
          have hkw : IntKind.i64.wrap ((k : Int) - 1) = (k : Int) - 1 := IntWalk.i64_in _ (by have : k ≤ 99 := h99; omega)
          have hk : (k : Int) ≤ 99 := by have : k ≤ 99 := h99; omega
          have hday := hday2
          have hposs := hide (fun (U : World) => cposs_walk D ((k : Int) - 1) len d sl b m (by omega) (by omega) U)
          clear ho hn hday2 hDD hmx hdd
          cases hP : possB d sl len (D, (k : Int) - 1) with
          | true =>
            rw [if_pos hP] at hE
            rw [hP] at hposs
            have hV := hide hE
            clear hE
            (
              go_enter Tryz.func110, Tryz.ntmps110
              go_wp2_with fail
              rw [hWW.out, hr.out, hgb.out]
              refine (cut_walk z ⟨#[32]⟩ x y _ (by omega) W hS0 hc.out).mono ?_
              rintro e w1 ⟨rfl, hb1⟩
              rw [hX.out, hY.out]
              go_wp2_with fail
              refine (hday.out w1).mono ?_
              rintro e w2 ⟨rfl, hb2⟩
              go_wp2_with fail
              refine (hdig.out w2).mono ?_
              rintro e w3 ⟨rfl, hb3⟩
              have hbb := ext_trans hb1 (ext_trans hb2 hb3)
              have k0 := cell_later hbb r0
              have k1 := cell_later hbb r1
              have q0 := cell_later hbb g0
              have q1 := cell_later hbb g1
              have q2 := cell_later hbb g2
              have q3 := cell_later hbb g3
              have kf0 : w3.frozen? ⟨r, 0, none⟩ = false := (World.frozen?_of_block (hbb.block r hrl)).trans rf0
              have kf1 : w3.frozen? ⟨r, 1, none⟩ = false := (World.frozen?_of_block (hbb.block r hrl)).trans rf1
              have hr3 : r < w3.heap.size := World.block_lt_of_cell? _ _ k0
              have hg3 : gb < w3.heap.size := World.block_lt_of_cell? _ _ q0
              have hbw := ext_trans hb0 hbb
              clear hb1 hb2 hb3 hday hdig)
            go_wp2_with fail
            (
              refine (hposs.out _).mono ?_
              rintro e w4 ⟨rfl, hb4⟩
              have hb5 := ext_trans (ext_alloc (Below.refl _ _) (.cells #[.int .i64 D, .int .i64 ((k : Int) - 1)] 70)) hb4
              have s0 := cell_later hb5 k0
              have s1 := cell_later hb5 k1
              have sf0 : w4.frozen? ⟨r, 0, none⟩ = false := (World.frozen?_of_block (hb5.block r hr3)).trans kf0
              have sf1 : w4.frozen? ⟨r, 1, none⟩ = false := (World.frozen?_of_block (hb5.block r hr3)).trans kf1
              have d0 : w4.cell? ⟨w3.heap.size, 0, none⟩ = some (.int .i64 D) := cell_later hb4 (by simp)
              have d1 : w4.cell? ⟨w3.heap.size, 1, none⟩ = some (.int .i64 ((k : Int) - 1)) := cell_later hb4 (by simp)
              have hd4 := World.block_lt_of_cell? _ _ d0
              have hr4 := World.block_lt_of_cell? _ _ s0
              have hbw5 := ext_trans hbw hb5
              clear hb4 hb5 k0 k1 kf0 kf1 q0 q1 q2 q3 hposs)
            go_wp2
            obtain ⟨u0, u1⟩ := set2_cells (a := .int .i64 D) (b := .int .i64 ((k : Int) - 1)) s0 s1
            refine end_start rfl r (.int .i64 D) (.int .i64 ((k : Int) - 1)) (.int .i64 0) rfl rfl rfl u0 u1 ⟨by rw [hV.out], ?_⟩
            exact ext_set (ext_set hbw5 (p := ⟨r, 0, none⟩) (by have := hr.out; show w.heap.size ≤ r; omega) _) (p := ⟨r, 1, none⟩) (by have := hr.out; show w.heap.size ≤ r; omega) _
          | false =>
            rw [if_neg (by rw [hP]; simp)] at hE
            rw [hP] at hposs
            have hV := hide hE
            clear hE
            (
              go_enter Tryz.func110, Tryz.ntmps110
              go_wp2_with fail
              rw [hWW.out, hr.out, hgb.out]
              refine (cut_walk z ⟨#[32]⟩ x y _ (by omega) W hS0 hc.out).mono ?_
              rintro e w1 ⟨rfl, hb1⟩
              rw [hX.out, hY.out]
              go_wp2_with fail
              refine (hday.out w1).mono ?_
              rintro e w2 ⟨rfl, hb2⟩
              go_wp2_with fail
              refine (hdig.out w2).mono ?_
              rintro e w3 ⟨rfl, hb3⟩
              have hbb := ext_trans hb1 (ext_trans hb2 hb3)
              have k0 := cell_later hbb r0
              have k1 := cell_later hbb r1
              have q0 := cell_later hbb g0
              have q1 := cell_later hbb g1
              have q2 := cell_later hbb g2
              have q3 := cell_later hbb g3
              have kf0 : w3.frozen? ⟨r, 0, none⟩ = false := (World.frozen?_of_block (hbb.block r hrl)).trans rf0
              have kf1 : w3.frozen? ⟨r, 1, none⟩ = false := (World.frozen?_of_block (hbb.block r hrl)).trans rf1
              have hr3 : r < w3.heap.size := World.block_lt_of_cell? _ _ k0
              have hg3 : gb < w3.heap.size := World.block_lt_of_cell? _ _ q0
              have hbw := ext_trans hb0 hbb
              clear hb1 hb2 hb3 hday hdig)
            go_wp2_with fail
            (
              refine (hposs.out _).mono ?_
              rintro e w4 ⟨rfl, hb4⟩
              have hb5 := ext_trans (ext_alloc (Below.refl _ _) (.cells #[.int .i64 D, .int .i64 ((k : Int) - 1)] 70)) hb4
              have s0 := cell_later hb5 k0
              have s1 := cell_later hb5 k1
              have sf0 : w4.frozen? ⟨r, 0, none⟩ = false := (World.frozen?_of_block (hb5.block r hr3)).trans kf0
              have sf1 : w4.frozen? ⟨r, 1, none⟩ = false := (World.frozen?_of_block (hb5.block r hr3)).trans kf1
              have d0 : w4.cell? ⟨w3.heap.size, 0, none⟩ = some (.int .i64 D) := cell_later hb4 (by simp)
              have d1 : w4.cell? ⟨w3.heap.size, 1, none⟩ = some (.int .i64 ((k : Int) - 1)) := cell_later hb4 (by simp)
              have hd4 := World.block_lt_of_cell? _ _ d0
              have hr4 := World.block_lt_of_cell? _ _ s0
              have hbw5 := ext_trans hbw hb5
              clear hb4 hb5 k0 k1 kf0 kf1 q0 q1 q2 q3 hposs)
            go_wp2
            obtain ⟨u0, u1⟩ := set2_cells (a := .int .i64 0) (b := .int .i64 0) s0 s1
            refine end_start rfl r (.int .i64 0) (.int .i64 0) (.int .i64 14) rfl rfl rfl u0 u1 ⟨by rw [hV.out], ?_⟩
            exact ext_set (ext_set hbw5 (p := ⟨r, 0, none⟩) (by have := hr.out; show w.heap.size ≤ r; omega) _) (p := ⟨r, 1, none⟩) (by have := hr.out; show w.heap.size ≤ r; omega) _
    · have hdd : decide (0 ≤ dayI X) = false := decide_eq_false hD
      have hmx : max (dayI X) 0 = 0 := by omega
      have hday2 := hide (by have := hday.out; rwa [hmx, hdd] at this)
      clear hday
      have hday := hday2
      rw [if_pos (Or.inr (Or.inl (by omega)))] at hE
      have hV := hide hE
      clear hE ho hday2 hmx hdd
      (
        (
          go_enter Tryz.func110, Tryz.ntmps110
          go_wp2_with fail
          rw [hWW.out, hr.out, hgb.out]
          refine (cut_walk z ⟨#[32]⟩ x y _ (by omega) W hS0 hc.out).mono ?_
          rintro e w1 ⟨rfl, hb1⟩
          rw [hX.out, hY.out]
          go_wp2_with fail
          refine (hday.out w1).mono ?_
          rintro e w2 ⟨rfl, hb2⟩
          go_wp2_with fail
          refine (hdig.out w2).mono ?_
          rintro e w3 ⟨rfl, hb3⟩
          have hbb := ext_trans hb1 (ext_trans hb2 hb3)
          have k0 := cell_later hbb r0
          have k1 := cell_later hbb r1
          have q0 := cell_later hbb g0
          have q1 := cell_later hbb g1
          have q2 := cell_later hbb g2
          have q3 := cell_later hbb g3
          have kf0 : w3.frozen? ⟨r, 0, none⟩ = false := (World.frozen?_of_block (hbb.block r hrl)).trans rf0
          have kf1 : w3.frozen? ⟨r, 1, none⟩ = false := (World.frozen?_of_block (hbb.block r hrl)).trans rf1
          have hr3 : r < w3.heap.size := World.block_lt_of_cell? _ _ k0
          have hg3 : gb < w3.heap.size := World.block_lt_of_cell? _ _ q0
          have hbw := ext_trans hb0 hbb
          clear hb1 hb2 hb3 hday hdig)
        go_wp2
        all_goals try (exfalso; omega)
        all_goals
          obtain ⟨s0, s1⟩ := set2_cells (a := .int .i64 0) (b := .int .i64 0) k0 k1
          refine end_start rfl r (.int .i64 0) (.int .i64 0) (.int .i64 4) rfl rfl rfl s0 s1 ⟨by rw [hV.out], ?_⟩
          exact ext_set (ext_set hbw (p := ⟨r, 0, none⟩) (by have := hr.out; show w.heap.size ≤ r; omega) _) (p := ⟨r, 1, none⟩) (by have := hr.out; show w.heap.size ≤ r; omega) _)
end Go.Proofs.YtimcdikeajbabaaGreatDoor
