/- What the reading of a class gives (plain). No walk. What the walk of the closure of coursefile.Lines leaves: a class written whole; the length's problem. No walk. Walk of timetableref10.number: where a number stands in a list. Conditions: the cells. -/
import Derived.Test.YtimcdikeajbabaaGreatDoorRows
import Derived.WalkKit
import Derived.WalkSpells
import Derived.WalkLawsBesides
import Derived.BigGuardPart
import Derived.Lib.Hide
import Derived.Laws.BitsAllLaws
import Derived.Laws.BitsLemmas
import Derived.Lib.LaidTab
import Derived.Test.YtimcdikeajbabaaGreatDoorShelf
import Derived.Lib.ConvBytes
import Derived.Deep.QuietTactic
import Derived.BigQuiet
import Derived.Test.YtimcdikeajbabaaGreatDoorShelfS
import Derived.Laws.ResultCell
import Derived.RegionTactic
import Derived.BigRegion
import Derived.Deep.RegionHeld3
import Derived.Deep.DeepCutAuto
import Derived.Lib.SmallJoins
import Derived.Lib.SplitLaws
import Derived.Lib.CountLaws
import Derived.Lib.IndexMore
import Derived.Lib.Split
import Derived.Lib.Join
import Derived.Lib.ItoaNum
import Derived.Laws.AppendOwn
import Derived.Test.YtimcdikeajbabaaGreatDoorShelfT
import Derived.Lib.ItoaLen
import Derived.Lib.AppendIntMem
import Derived.Deep.AppendLies
import Derived.Lib.PathFns
import Derived.Maps.Range
import Derived.Lib.OwnBridge
import Derived.Sort.OwnSorted
import Derived.Sort.Walk0
import Derived.Test.YtimcdikeajbabaaGreatDoorCards
import Derived.Test.YtimcdikeajbabaaGreatDoorTie
import Derived.ProofKit
import Derived.OpenShut
import Derived.LaidMore
import Derived.Lay
import Derived.SevenTiedAt
import Derived.Stop.Joined
import Derived.Stop.LaidErr
import Derived.Deep.DeepHandedRow
import Derived.Lib.LaidU8
import Derived.LaidSub
import Derived.Deep.Slices
import Derived.Deep.Fields
import Derived.ChangeSame
import Derived.Test.YtimcdikeajbabaaGreatDoorQROneQ
import Derived.Test.YtimcdikeajbabaaGreatDoorQClsOwn
import Derived.Test.YtimcdikeajbabaaGreatDoorQLater
namespace Go.Proofs.YtimcdikeajbabaaGreatDoor
open Go.RowKit
set_option maxRecDepth 100000

/-- The error of a length. -/
def lenE (sl : Int) (t : ByteArray) : Int := if numS 2 t = none then 4 else if sl < (((numS 2 t).getD 0 : Nat) : Int) then 3 else 0
def lenOf (t : ByteArray) : Int := (((numE 2 t).getD 0 : Nat) : Int)
def codeE (t : ByteArray) : Int := if codeB t = true then 0 else 10
def seatE (t : ByteArray) : Int := if numE 4 t = none then 4 else 0
/-- The problem of a class's fields. -/
def fieldsK (d sl n line : Int) (fs : List Fld) : Option Prob :=
  orP (orP (orP (orP (orP (orP (orP (orP (probOf line (colAt fs 1) (codeE (textAt fs 0))) (probOf line (colAt fs 2) (codeE (textAt fs 1)))) (probOf line (colAt fs 3) (codeE (textAt fs 2)))) (probOf line (colAt fs 4) (lenE sl (textAt fs 3)))) (probOf line (colAt fs 5) (patsRE n (slashOf (textAt fs 4))))) (probOf line (colAt fs 6) (seatE (textAt fs 5)))) (codesP 8 line (colAt fs 7) (textAt fs 6))) (codesP 8 line (colAt fs 8) (textAt fs 7))) (probOf line (colAt fs 9) (startsRE d sl (lenOf (textAt fs 3)) (partsOf (textAt fs 8))))
/-- The problem of the record of a class, behind others. -/
def clsP (d sl n line : Int) (fs : List Fld) (ls : List Cls) : Option Prob :=
  noted (noted (fieldsK d sl n line fs) (decide (0 ≤ idxS (textAt fs 0) (codesK ls))) (line, 0, 11)) (decide (24 ≤ ls.length)) (line, 0, 2)
def clsOf (d sl n : Int) (fs : List Fld) : Cls := (textAt fs 0, textAt fs 1, textAt fs 2, lenOf (textAt fs 3), (slashOf (textAt fs 4)).map (patV n), (((numE 4 (textAt fs 5)).getD 0 : Nat) : Int), ascS (listV (textAt fs 6)).2, ascS (listV (textAt fs 7)).2, ascP ((partsOf (textAt fs 8)).map (startP d sl (lenOf (textAt fs 3)))))
theorem num_prob {o : Option Nat} {line col : Int} : numP o (line, col, 4) = probOf line col (if o = none then 4 else 0) := by
  cases o <;> rfl
theorem code_prob {t : ByteArray} {line col : Int} : (if codeB t then none else some (line, col, (10 : Int))) = probOf line col (codeE t) := by
  unfold codeE
  cases codeB t <;> rfl
theorem cls_steps {d sl n line : Int} {fs : List Fld} {ls : List Cls} {k0 k1 k2 k3 k4 k5 k6 k7 k8 k9 : Nat} {t0 t1 t2 : ByteArray} {len seats : Int} {ps : List Int} {f6 f7 : List ByteArray} {ss : List (Int × Int)} {pr0 pr1 pr2 pr3 pr4 pr5 pr6 pr7 pr8 pr9 : Option Prob} (h0 : pr0 = none) (hk : k0 = 0)
    (a0 : pr0 = none → k1 = k0 + 1 ∧ t0 = textAt fs k0 ∧ pr1 = probOf line (colAt fs (k0 + 1)) (codeE (textAt fs k0))) (b0 : ∀ p, pr0 = some p → pr1 = some p)
    (a1 : pr1 = none → k2 = k1 + 1 ∧ t1 = textAt fs k1 ∧ pr2 = probOf line (colAt fs (k1 + 1)) (codeE (textAt fs k1))) (b1 : ∀ p, pr1 = some p → pr2 = some p)
    (a2 : pr2 = none → k3 = k2 + 1 ∧ t2 = textAt fs k2 ∧ pr3 = probOf line (colAt fs (k2 + 1)) (codeE (textAt fs k2))) (b2 : ∀ p, pr2 = some p → pr3 = some p)
    (a3 : pr3 = none → k4 = k3 + 1 ∧ len = lenOf (textAt fs k3) ∧ pr4 = probOf line (colAt fs (k3 + 1)) (lenE sl (textAt fs k3))) (b3 : ∀ p, pr3 = some p → pr4 = some p)
    (a4 : pr4 = none → k5 = k4 + 1 ∧ ps = (slashOf (textAt fs k4)).map (patV n) ∧ pr5 = probOf line (colAt fs (k4 + 1)) (patsRE n (slashOf (textAt fs k4)))) (b4 : ∀ p, pr4 = some p → pr5 = some p)
    (a5 : pr5 = none → k6 = k5 + 1 ∧ seats = (((numE 4 (textAt fs k5)).getD 0 : Nat) : Int) ∧ pr6 = probOf line (colAt fs (k5 + 1)) (seatE (textAt fs k5))) (b5 : ∀ p, pr5 = some p → pr6 = some p)
    (a6 : pr6 = none → k7 = k6 + 1 ∧ f6 = (listV (textAt fs k6)).2 ∧ pr7 = codesP 8 line (colAt fs (k6 + 1)) (textAt fs k6)) (b6 : ∀ p, pr6 = some p → pr7 = some p)
    (a7 : pr7 = none → k8 = k7 + 1 ∧ f7 = (listV (textAt fs k7)).2 ∧ pr8 = codesP 8 line (colAt fs (k7 + 1)) (textAt fs k7)) (b7 : ∀ p, pr7 = some p → pr8 = some p)
    (a8 : pr8 = none → k9 = k8 + 1 ∧ ss = (partsOf (textAt fs k8)).map (startP d sl len) ∧ pr9 = probOf line (colAt fs (k8 + 1)) (startsRE d sl len (partsOf (textAt fs k8)))) (b8 : ∀ p, pr8 = some p → pr9 = some p) :
    noted (noted pr9 (decide (0 ≤ idxS t0 (codesK ls))) (line, 0, 11)) (decide (24 ≤ ls.length)) (line, 0, 2) = clsP d sl n line fs ls ∧ (clsP d sl n line fs ls = none → (t0, t1, t2, len, ps, seats, ascS f6, ascS f7, ascP ss) = clsOf d sl n fs) := by
  subst h0 hk
  obtain ⟨rfl, rfl, hp1⟩ := a0 rfl
  have hmain : pr9 = fieldsK d sl n line fs ∧ (fieldsK d sl n line fs = none → (textAt fs 0, t1, t2, len, ps, seats, ascS f6, ascS f7, ascP ss) = clsOf d sl n fs) := by
    unfold fieldsK
    rw [show probOf line (colAt fs 1) (codeE (textAt fs 0)) = pr1 from hp1.symm]
    cases pr1 with
    | some p => rw [b8 p (b7 p (b6 p (b5 p (b4 p (b3 p (b2 p (b1 p rfl)))))))]; exact ⟨rfl, fun h => by cases h⟩
    | none =>
      obtain ⟨rfl, rfl, hp2⟩ := a1 rfl
      rw [show probOf line (colAt fs 2) (codeE (textAt fs 1)) = pr2 from hp2.symm]
      cases pr2 with
      | some p => rw [b8 p (b7 p (b6 p (b5 p (b4 p (b3 p (b2 p rfl))))))]; exact ⟨rfl, fun h => by cases h⟩
      | none =>
        obtain ⟨rfl, rfl, hp3⟩ := a2 rfl
        rw [show probOf line (colAt fs 3) (codeE (textAt fs 2)) = pr3 from hp3.symm]
        cases pr3 with
        | some p => rw [b8 p (b7 p (b6 p (b5 p (b4 p (b3 p rfl)))))]; exact ⟨rfl, fun h => by cases h⟩
        | none =>
          obtain ⟨rfl, rfl, hp4⟩ := a3 rfl
          rw [show probOf line (colAt fs 4) (lenE sl (textAt fs 3)) = pr4 from hp4.symm]
          cases pr4 with
          | some p => rw [b8 p (b7 p (b6 p (b5 p (b4 p rfl))))]; exact ⟨rfl, fun h => by cases h⟩
          | none =>
            obtain ⟨rfl, rfl, hp5⟩ := a4 rfl
            rw [show probOf line (colAt fs 5) (patsRE n (slashOf (textAt fs 4))) = pr5 from hp5.symm]
            cases pr5 with
            | some p => rw [b8 p (b7 p (b6 p (b5 p rfl)))]; exact ⟨rfl, fun h => by cases h⟩
            | none =>
              obtain ⟨rfl, rfl, hp6⟩ := a5 rfl
              rw [show probOf line (colAt fs 6) (seatE (textAt fs 5)) = pr6 from hp6.symm]
              cases pr6 with
              | some p => rw [b8 p (b7 p (b6 p rfl))]; exact ⟨rfl, fun h => by cases h⟩
              | none =>
                obtain ⟨rfl, rfl, hp7⟩ := a6 rfl
                rw [show codesP 8 line (colAt fs 7) (textAt fs 6) = pr7 from hp7.symm]
                cases pr7 with
                | some p => rw [b8 p (b7 p rfl)]; exact ⟨rfl, fun h => by cases h⟩
                | none =>
                  obtain ⟨rfl, rfl, hp8⟩ := a7 rfl
                  rw [show codesP 8 line (colAt fs 8) (textAt fs 7) = pr8 from hp8.symm]
                  cases pr8 with
                  | some p => rw [b8 p rfl]; exact ⟨rfl, fun h => by cases h⟩
                  | none =>
                    obtain ⟨rfl, rfl, hp9⟩ := a8 rfl
                    exact ⟨hp9, fun _ => rfl⟩
  unfold clsP
  rw [hmain.1]
  exact ⟨rfl, fun h => hmain.2 (noted_no (noted_no h))⟩
/-- The place and the error of a class's record. -/
def clsKE (d sl n : Int) (fs : List Fld) (ls : List Cls) : Int × Int :=
  if fs.length ≠ 9 then (-1, 9) else
  if codeB (textAt fs 0) = false then (0, 10) else
  if codeB (textAt fs 1) = false then (1, 10) else
  if codeB (textAt fs 2) = false then (2, 10) else
  if lenE sl (textAt fs 3) ≠ 0 then (3, lenE sl (textAt fs 3)) else
  if patsRE n (slashOf (textAt fs 4)) ≠ 0 then (4, patsRE n (slashOf (textAt fs 4))) else
  if numE 4 (textAt fs 5) = none then (5, 4) else
  if (shortV (textAt fs 6)).1 ≠ 0 then (6, ((shortV (textAt fs 6)).1 : Int)) else
  if (shortV (textAt fs 7)).1 ≠ 0 then (7, ((shortV (textAt fs 7)).1 : Int)) else
  if startsRE d sl (lenOf (textAt fs 3)) (partsOf (textAt fs 8)) ≠ 0 then (8, startsRE d sl (lenOf (textAt fs 3)) (partsOf (textAt fs 8))) else
  if 0 ≤ idxS (textAt fs 0) (codesK ls) then (-1, 11) else
  if ls.length = 24 then (-1, 2) else (0, 0)
theorem cls_ke (d sl n line : Int) (fs : List Fld) (ls : List Cls) (hl : ls.length ≤ 24) (h9 : fs.length = 9) :
    clsP d sl n line fs ls = if (clsKE d sl n fs ls).2 = 0 then none else some (line, placeOf fs (clsKE d sl n fs ls).1, (clsKE d sl n fs ls).2) := by
  have e9 : placeOf fs (-1) = 0 := rfl
  have e0 : placeOf fs 0 = colAt fs 1 := rfl
  have e1 : placeOf fs 1 = colAt fs 2 := rfl
  have e2 : placeOf fs 2 = colAt fs 3 := rfl
  have e3 : placeOf fs 3 = colAt fs 4 := rfl
  have e4 : placeOf fs 4 = colAt fs 5 := rfl
  have e5 : placeOf fs 5 = colAt fs 6 := rfl
  have e6 : placeOf fs 6 = colAt fs 7 := rfl
  have e7 : placeOf fs 7 = colAt fs 8 := rfl
  have e8 : placeOf fs 8 = colAt fs 9 := rfl
  unfold clsP fieldsK clsKE codeE seatE
  rw [short_codes, short_codes, if_neg (show ¬ fs.length ≠ 9 from fun h => h h9)]
  obtain ⟨s6, hs6⟩ : ∃ s, (shortV (textAt fs 6)).1 = s := ⟨_, rfl⟩
  obtain ⟨s7, hs7⟩ : ∃ s, (shortV (textAt fs 7)).1 = s := ⟨_, rfl⟩
  obtain ⟨l3, hl3⟩ : ∃ s, lenE sl (textAt fs 3) = s := ⟨_, rfl⟩
  obtain ⟨p4, hp4⟩ : ∃ s, patsRE n (slashOf (textAt fs 4)) = s := ⟨_, rfl⟩
  obtain ⟨t8, ht8⟩ : ∃ s, startsRE d sl (lenOf (textAt fs 3)) (partsOf (textAt fs 8)) = s := ⟨_, rfl⟩
  rw [hs6, hs7, hl3, hp4, ht8]
  cases codeB (textAt fs 0) with
  | false => simp [orP, noted, probOf, e0]
  | true =>
    cases codeB (textAt fs 1) with
    | false => simp [orP, noted, probOf, e1]
    | true =>
      cases codeB (textAt fs 2) with
      | false => simp [orP, noted, probOf, e2]
      | true =>
        by_cases h3 : l3 = 0
        · by_cases h4 : p4 = 0
          · cases numE 4 (textAt fs 5) with
            | none => simp [orP, noted, probOf, h3, h4, e5]
            | some k =>
              by_cases h6 : s6 = 0
              · by_cases h7 : s7 = 0
                · by_cases h8 : t8 = 0
                  · by_cases hi : 0 ≤ idxS (textAt fs 0) (codesK ls)
                    · simp [orP, noted, h3, h4, h6, h7, h8, probOf, hi, e9]
                    · by_cases h24 : ls.length = 24
                      · simp [orP, noted, h3, h4, h6, h7, h8, probOf, hi, h24, e9]
                      · have : ¬ 24 ≤ ls.length := by omega
                        simp [orP, noted, h3, h4, h6, h7, h8, probOf, hi, h24, this]
                  · simp [orP, noted, h3, h4, h6, h7, h8, probOf, e8]
                · simp [orP, noted, h3, h4, h6, h7, probOf, e7]
              · simp [orP, noted, h3, h4, h6, probOf, e6]
          · simp [orP, noted, h3, h4, probOf, e4]
        · simp [orP, noted, h3, probOf, e3]
theorem cls_step {d sl n line : Int} {fs : List Fld} {st : RG Cls} (hl : st.ls.length ≤ 24) :
    gathStep 9 (clsP d sl n) (clsOf d sl n) st (line, fs) = if (clsKE d sl n fs st.ls).2 = 0 then ⟨st.ls ++ [clsOf d sl n fs], st.lines ++ [line], st.ps⟩ else ⟨st.ls, st.lines, st.ps ++ [(line, placeOf fs (clsKE d sl n fs st.ls).1, (clsKE d sl n fs st.ls).2)]⟩ :=
  gath_ke (fun h => if_pos h) (fun h => cls_ke d sl n line fs st.ls hl h)
theorem cls_place (d sl n : Int) (fs : List Fld) (ls : List Cls) : (clsKE d sl n fs ls).1 < fs.length := by
  unfold clsKE
  by_cases h9 : fs.length = 9
  · rw [if_neg (show ¬ fs.length ≠ 9 from fun h => h h9), h9]
    repeat' split
    all_goals first | decide | exact (show (3 : Int) < ((9 : Nat) : Int) by decide) | exact (show (4 : Int) < ((9 : Nat) : Int) by decide) | exact (show (6 : Int) < ((9 : Nat) : Int) by decide) | exact (show (7 : Int) < ((9 : Nat) : Int) by decide) | exact (show (8 : Int) < ((9 : Nat) : Int) by decide)
  · rw [if_pos h9]
    show (-1 : Int) < _
    omega
theorem clsP_len {d sl n : Int} (line : Int) (fs : List Fld) (ls : List Cls) (h : clsP d sl n line fs ls = none) : ls.length < 24 := by
  unfold clsP at h
  have := of_decide_eq_false (noted_none h).2
  omega
def readCls (d sl n : Int) (rs : List Rec) : RG Cls := readAll 9 (clsP d sl n) (clsOf d sl n) rs
theorem readCls_len (d sl n : Int) (rs : List Rec) : (readCls d sl n rs).ls.length ≤ 24 ∧ (readCls d sl n rs).lines.length = (readCls d sl n rs).ls.length ∧ (readCls d sl n rs).ps.length ≤ rs.length := readAll_len clsP_len rs
end Go.Proofs.YtimcdikeajbabaaGreatDoor

namespace Go.Proofs.YtimcdikeajbabaaGreatDoor
open Go.RowKit
set_option maxRecDepth 100000

theorem CBox.only {W W' : World} {g x : Nat} {q : Nine} (h : CBox W x q) (ho : Only g W W') (hne : x ≠ g) : CBox W' x q := h.grown ho (fun e => hne (by injection e with e; exact e.symm))
def set9 (w : World) (r : Nat) (q : Nine) : World := ((((((((w.setCell ⟨r, 0, none⟩ (.string q.z)).setCell ⟨r, 1, none⟩ (.string q.co)).setCell ⟨r, 2, none⟩ (.string q.pa)).setCell ⟨r, 3, none⟩ (.int .i64 q.n)).setCell ⟨r, 4, none⟩ (.slice q.A4 q.n4 q.c4)).setCell ⟨r, 5, none⟩ (.int .i64 q.m)).setCell ⟨r, 6, none⟩ (.slice q.A6 q.n6 q.c6)).setCell ⟨r, 7, none⟩ (.slice q.A7 q.n7 q.c7)).setCell ⟨r, 8, none⟩ (.slice q.A8 q.n8 q.c8)
theorem set9_box {w : World} {r : Nat} {q q0 : Nine} (h : CBox w r q0) : CBox (set9 w r q) r q :=
  ((((((((h.set0 q.z).set1 q.co).set2 q.pa).set3 q.n).set4 q.A4 q.n4 q.c4).set5 q.m).set6 q.A6 q.n6 q.c6).set7 q.A7 q.n7 q.c7).set8 q.A8 q.n8 q.c8
theorem box_scan {w : World} {r g i : Nat} {q0 : Nine} {line : Int} {F : Option Addr} {m c k : Nat} {pr : Option Prob} (h : Scan w g line F m c k pr) (hb : CBox w r q0) (hne : r ≠ g) (u : Value) : Scan (w.setCell ⟨r, i, none⟩ u) g line F m c k pr := scan_set h hb.c0 hne
theorem set9_scan {w : World} {r g : Nat} {q q0 : Nine} {line : Int} {F : Option Addr} {m c k : Nat} {pr : Option Prob} (h : Scan w g line F m c k pr) (hb : CBox w r q0) (hne : r ≠ g) : Scan (set9 w r q) g line F m c k pr := by
  have b1 := hb.set0 q.z
  have b2 := b1.set1 q.co
  have b3 := b2.set2 q.pa
  have b4 := b3.set3 q.n
  have b5 := b4.set4 q.A4 q.n4 q.c4
  have b6 := b5.set5 q.m
  have b7 := b6.set6 q.A6 q.n6 q.c6
  have b8 := b7.set7 q.A7 q.n7 q.c7
  exact box_scan (box_scan (box_scan (box_scan (box_scan (box_scan (box_scan (box_scan (box_scan h hb hne _) b1 hne _) b2 hne _) b3 hne _) b4 hne _) b5 hne _) b6 hne _) b7 hne _) b8 hne _
theorem set9_only {a w : World} {g r : Nat} {q : Nine} (h : Only g a w) (hp : r = g ∨ a.heap.size ≤ r) : Only g a (set9 w r q) :=
  only_setCell (only_setCell (only_setCell (only_setCell (only_setCell (only_setCell (only_setCell (only_setCell (only_setCell h hp _) hp _) hp _) hp _) hp _) hp _) hp _) hp _) hp _
theorem load9 (w : World) (g : Nat) (q : Nine) (h : CBox w g q) :
    (loadVar 47 ⟨g, 0, none⟩).run Tryz.prog w = .ok (.agg (cboxV q)) w := by
  simp [go_sem, h.c0, h.c1, h.c2, h.c3, h.c4, h.c5, h.c6, h.c7, h.c8, cboxV]
theorem end_clsK {fn : Func} {p : Tmp} (hr : fn.results = #[.cell p 47]) {Q : Ending → World → Prop} {act : Act} {w : World} (g : Nat) (q : Nine) (hd : act.defers = [])
    (hp : act.tmps.getD p undef = .pointer (some ⟨g, 0, none⟩))
    (h : CBox w g q) (hQ : Q (.returned (.agg (cboxV q))) w) : bodyPost Tryz.prog fn Q .ret act w := by
  refine bodyPost_ret (v := .agg (cboxV q)) ?_ hd hQ
  simp only [results, hr]
  simp [Sem.run_bind, Result.andThen, -Array.getD_eq_getD_getElem?]
  rw [hp]
  simp only [asAddr, Sem.run_pure]
  rw [load9 w g q h]
def ClsGives (d sl n : Int) (g : Nat) (line : Int) (F : Option Addr) (fs : List Fld) (c : Nat) (ls : List Cls) (w : World) (e : Ending) (w' : World) : Prop :=
  ∃ (q : Nine) (ps : List Int) (f6 f7 : List ByteArray) (ss : List (Int × Int)) (k : Nat), e = .returned (.agg (cboxV q)) ∧ Own kInt 3 [] 0 w.heap.size w' (.slice q.A4 q.n4 q.c4) ps ∧ Own kStr 9 [] 0 w.heap.size w' (.slice q.A6 q.n6 q.c6) f6 ∧ Own kStr 9 [] 0 w.heap.size w' (.slice q.A7 q.n7 q.c7) f7 ∧ Own kStart 70 [] 0 w.heap.size w' (.slice q.A8 q.n8 q.c8) ss ∧
    Scan w' g line F fs.length c k (clsP d sl n line fs ls) ∧ (clsP d sl n line fs ls = none → (q.z, q.co, q.pa, q.n, ps, q.m, f6, f7, ss) = clsOf d sl n fs) ∧ Only g w w'
theorem numS_someK {k : Nat} {t : ByteArray} {v : Nat} (h : numS k t = some v) : numE k t = some v := by
  unfold numS at h
  split at h
  · cases h
  · exact h
/-- A length that is read. -/
theorem len_step {pr3 prn : Option Prob} {line sl : Int} {fs : List Fld} {k3 k4 nn : Nat} (_hsl : 0 ≤ sl)
    (hn : pr3 = none → k4 = k3 + 1 ∧ nn = (numE 2 (textAt fs k3)).getD 0 ∧ prn = numP (numS 2 (textAt fs k3)) (line, colAt fs (k3 + 1), 4)) (hp : ∀ p, pr3 = some p → prn = some p ∧ nn = 0) :
    (pr3 = none → k4 = k3 + 1 ∧ (nn : Int) = lenOf (textAt fs k3) ∧ noted prn (decide (sl < (nn : Int))) (line, colAt fs k4, 3) = probOf line (colAt fs (k3 + 1)) (lenE sl (textAt fs k3))) ∧ ∀ p, pr3 = some p → noted prn (decide (sl < (nn : Int))) (line, colAt fs k4, 3) = some p := by
  refine ⟨fun h => ?_, fun p h => by rw [(hp p h).1]; rfl⟩
  obtain ⟨rfl, rfl, rfl⟩ := hn h
  refine ⟨rfl, rfl, ?_⟩
  unfold lenE
  cases hs : numS 2 (textAt fs k3) with
  | none => rfl
  | some v =>
    rw [numS_someK hs, if_neg (by simp), Option.getD_some]
    by_cases hv : sl < (v : Int)
    · rw [decide_eq_true hv, if_pos hv]; rfl
    · rw [decide_eq_false hv, if_neg hv]; rfl
end Go.Proofs.YtimcdikeajbabaaGreatDoor

namespace Go.Proofs.YtimcdikeajbabaaGreatDoor
open Go.RowKit
set_option maxRecDepth 100000

/-- Where a number stands first; behind all, if it does not. -/
def numI (n : Int) : List Int → Nat
  | [] => 0
  | x :: r => if x = n then 0 else numI n r + 1
theorem numI_le (n : Int) : ∀ l : List Int, numI n l ≤ l.length
  | [] => Nat.le_refl _
  | x :: r => by rw [numI]; split; exact Nat.zero_le _; have := numI_le n r; simp; omega
theorem numI_hit {n : Int} : ∀ {l : List Int} {j : Nat}, l[j]? = some n → n ∉ l.take j → numI n l = j
  | [], j, h, _ => by simp at h
  | x :: r, 0, h, _ => by
    simp at h
    rw [numI, if_pos h]
  | x :: r, j + 1, h, hn => by
    rw [List.take_succ_cons, List.mem_cons, not_or] at hn
    rw [numI, if_neg (fun e => hn.1 e.symm), numI_hit (l := r) (j := j) (by simpa using h) hn.2]
theorem numI_none {n : Int} : ∀ {l : List Int}, n ∉ l → numI n l = l.length
  | [], _ => rfl
  | x :: r, h => by
    rw [List.mem_cons, not_or] at h
    rw [numI, if_neg (fun e => h.1 e.symm), numI_none h.2]; rfl
theorem numI_lt {n : Int} : ∀ {l : List Int} {i : Nat}, i ≤ l.length → (numI n l < i ↔ n ∈ l.take i)
  | [], i, h => by
    have : i = 0 := by simpa using h
    subst this; simp [numI]
  | x :: r, 0, _ => by simp
  | x :: r, i + 1, h => by
    rw [List.take_succ_cons, List.mem_cons, numI]
    by_cases e : x = n
    · rw [if_pos e]; simp [e]
    · rw [if_neg e]
      have := numI_lt (n := n) (l := r) (i := i) (by simpa using h)
      constructor
      · intro h2; exact Or.inr (this.1 (by omega))
      · rintro (h2 | h2)
        · exact absurd h2.symm e
        · have := this.2 h2; omega
theorem At.start {S : Nat → Prop} {w : World} {A : Option Addr} {l : List (Int × Int)} {j : Nat} {x : Int × Int} (h : At kStart S w A l) (hj : l[j]? = some x) :
    ∃ b off, A = some ⟨b, off, none⟩ ∧ S b ∧ b < w.heap.size ∧ w.cell? ⟨b, off + j * 2, none⟩ = some (.int .i64 x.1) ∧ w.cell? ⟨b, off + j * 2 + 1, none⟩ = some (.int .i64 x.2) := by
  obtain ⟨b, off, vs, e, hs, hlt, ⟨us, ts, rfl, h1, h2⟩, hc⟩ := h.get hj
  have h1 : us = [.int .i64 x.1] := h1
  have h2 : ts = [.int .i64 x.2] := h2
  subst h1 h2
  exact ⟨b, off, e, hs, hlt, hc 0 _ rfl, hc 1 _ rfl⟩
theorem take_mem {l : List Int} {j : Nat} {x n : Int} (hx : l[j]? = some x) (h : n ∉ l.take j) (hne : x ≠ n) : n ∉ l.take (j + 1) := by
  rw [List.take_add_one, hx, List.mem_append, not_or]
  exact ⟨h, by simpa using fun e => hne e.symm⟩
set_option maxHeartbeats 2000000 in
theorem r10number_walk (A : Option Addr) (l : List Int) (c : Nat) (n : Int) (w : World) (hn : l.length ≤ 9223372036854775807) (h : At kInt AnyB w A l) :
    Calls Tryz.prog 97 #[.slice A l.length c, .int .i64 n] w fun e w' => e = .returned (.int .i64 (numI n l)) ∧ w = w' := by
  obtain ⟨N, hnn⟩ : ∃ N, l.length = N := ⟨_, rfl⟩
  rw [hnn] at hn ⊢
  replace hnn := hide hnn
  go_enter Tryz.func97, Tryz.ntmps97
  go_wp2
  go_loop [5] (fun i => ∃ j : Nat, j ≤ N ∧ i = .int .i64 j ∧ Hid (n ∉ l.take j)) (fun i => N - (intOf i).toNat)
  case atStart => exact ⟨0, Nat.zero_le _, rfl, hide (by simp)⟩
  case round =>
    obtain ⟨j, hj, rfl, ho⟩ := hrel
    by_cases hlt : j < N
    · obtain ⟨x, hx⟩ : ∃ x, l[j]? = some x := ⟨_, List.getElem?_eq_getElem (by rw [hnn.out]; exact hlt)⟩
      obtain ⟨b, off, rfl, -, hbb, q0⟩ := h.int hx
      have hj0 : (0 : Int) ≤ (j : Int) := by omega
      have hj1 : (j : Int) < (N : Int) := by omega
      by_cases hq : x = n
      · have hit := hide (numI_hit (hq ▸ hx) ho.out)
        have hq2 : (x == n) = true := by simpa using hq
        replace hq := hide hq
        clear hx h ho
        go_wp2
        go_ret
        exact ⟨by rw [hit.out]; rfl, rfl⟩
      · have miss := hide (take_mem hx ho.out hq)
        have hq2 : (x == n) = false := by simpa using hq
        clear hx h ho
        go_wp2
        go_round
        case rel => exact ⟨j + 1, by omega, by go_num, miss⟩
        case measure => simp [intOf]; omega
    · obtain rfl : j = N := by omega
      have hall : Hid (numI n l = j) := hide (by
        have := ho.out
        rw [List.take_of_length_le (by rw [hnn.out]; exact Nat.le_refl _)] at this
        rw [numI_none this, hnn.out])
      clear h
      go_wp2
      go_ret
      exact ⟨by rw [hall.out]; rfl, rfl⟩
/-! slices.Index and Contains at numbers. -/
def posI (n : Int) (l : List Int) : Int := if numI n l < l.length then (numI n l : Int) else -1
theorem posI_hit {n : Int} {l : List Int} {j : Nat} (h : l[j]? = some n) (hn : n ∉ l.take j) : posI n l = (j : Int) := by
  have hj := (List.getElem?_eq_some_iff.1 h).1
  unfold posI
  rw [numI_hit h hn, if_pos hj]
theorem posI_none {n : Int} {l : List Int} (h : n ∉ l) : posI n l = -1 := by
  unfold posI
  rw [numI_none h, if_neg (Nat.lt_irrefl _)]
theorem posI_mem {n : Int} {l : List Int} : 0 ≤ posI n l ↔ n ∈ l := by
  unfold posI
  have h := numI_lt (n := n) (l := l) (Nat.le_refl _)
  rw [List.take_length] at h
  by_cases hl : numI n l < l.length
  · rw [if_pos hl]
    exact ⟨fun _ => h.1 hl, fun _ => by omega⟩
  · rw [if_neg hl]
    exact ⟨fun h2 => absurd h2 (by decide), fun h2 => absurd (h.2 h2) hl⟩
set_option maxHeartbeats 2000000 in
theorem iindex_walk (A : Option Addr) (xs : List Int) (c : Nat) (z : Int) (w : World) (hn : xs.length ≤ 9223372036854775807) (h : At kInt AnyB w A xs) :
    Calls Tryz.prog 143 #[.slice A xs.length c, .int .i64 z] w fun e w' => e = .returned (.int .i64 (posI z xs)) ∧ w = w' := by
  obtain ⟨n, hnn⟩ : ∃ n, xs.length = n := ⟨_, rfl⟩
  rw [hnn] at hn ⊢
  replace hnn := hide hnn
  go_enter Tryz.func143, Tryz.ntmps143
  go_wp2
  go_loop [5, 8] (fun _ i => ∃ j : Nat, j ≤ n ∧ i = .int .i64 j ∧ Hid (z ∉ xs.take j)) (fun _ i => n - (intOf i).toNat)
  case atStart => exact ⟨0, Nat.zero_le _, rfl, hide (by simp)⟩
  case round =>
    obtain ⟨j, hj, rfl, ho⟩ := hrel
    by_cases hlt : j < n
    · obtain ⟨x, hx⟩ : ∃ x, xs[j]? = some x := ⟨_, List.getElem?_eq_getElem (by rw [hnn.out]; exact hlt)⟩
      obtain ⟨b, off, rfl, -, hb, k0⟩ := h.int hx
      have hj0 : (0 : Int) ≤ (j : Int) := by omega
      have hj1 : (j : Int) < (n : Int) := by omega
      by_cases hq : x = z
      · have hit := hide (posI_hit (hq ▸ hx) ho.out)
        have hq1 : (z == x) = true := by simpa using hq.symm
        have hq2 : (x == z) = true := by simpa using hq
        replace hq := hide hq
        clear hx h ho
        go_wp2
        go_ret
        exact ⟨by rw [hit.out]; rfl, rfl⟩
      · have miss := hide (take_mem hx ho.out hq)
        have hq1 : (z == x) = false := by simpa using fun e => hq e.symm
        have hq2 : (x == z) = false := by simpa using hq
        have hq3 : ¬ z = x := fun e => hq e.symm
        clear hx h ho
        go_wp2
        go_round
        case rel => exact ⟨j + 1, by omega, by go_num, miss⟩
        case measure => simp [intOf]; omega
    · obtain rfl : j = n := by omega
      have hall : Hid (posI z xs = -1) := hide (posI_none (by have := ho.out; rwa [List.take_of_length_le (by rw [hnn.out]; exact Nat.le_refl _)] at this))
      clear h
      go_wp2
      go_ret
      exact ⟨by rw [hall.out]; rfl, rfl⟩
theorem icontains_walk (A : Option Addr) (xs : List Int) (c : Nat) (z : Int) (w : World) (hn : xs.length ≤ 9223372036854775807) (h : At kInt AnyB w A xs) :
    Calls Tryz.prog 105 #[.slice A xs.length c, .int .i64 z] w fun e w' => e = .returned (.bool (decide (z ∈ xs))) ∧ w = w' := by
  have hm : decide (0 ≤ posI z xs) = decide (z ∈ xs) := decide_eq_decide.2 posI_mem
  rw [← hm]
  clear hm
  go_enter Tryz.func105, Tryz.ntmps105
  go_wp2_with fail
  refine (iindex_walk A xs c z w hn h).mono ?_
  rintro e w' ⟨rfl, rfl⟩
  go_wp2
  go_ret
  exact ⟨rfl, rfl⟩
end Go.Proofs.YtimcdikeajbabaaGreatDoor
