/- Lecturers and times as kinds of data. No condition. Rooms as data; what is wrong with rooms (plain). No walk. What the reading of a room gives (plain). No walk. -/
import Derived.Test.YtimcdikeajbabaaGreatDoorRows
import Derived.WalkKit
import Derived.WalkSpells
import Derived.WalkLawsBesides
import Derived.BigGuardPart
import Derived.Lib.Hide
import Derived.Laws.BitsAllLaws
import Derived.Laws.BitsLemmas
import Derived.Lib.LaidTab
import Derived.Test.YtimcdikeajbabaaGreatDoorShelf
import Derived.Lib.ConvBytes
import Derived.Deep.QuietTactic
import Derived.BigQuiet
import Derived.Test.YtimcdikeajbabaaGreatDoorCards
import Derived.Test.YtimcdikeajbabaaGreatDoorTie
import Derived.ProofKit
import Derived.OpenShut
import Derived.LaidMore
import Derived.Lay
import Derived.SevenTiedAt
import Derived.Stop.Joined
import Derived.Stop.LaidErr
import Derived.Deep.DeepHandedRow
import Derived.Lib.LaidU8
import Derived.LaidSub
import Derived.Laws.ResultCell
import Derived.RegionTactic
import Derived.BigRegion
import Derived.Deep.RegionHeld3
import Derived.Deep.DeepCutAuto
import Derived.Lib.SmallJoins
import Derived.Lib.SplitLaws
import Derived.Lib.CountLaws
import Derived.Lib.IndexMore
import Derived.Lib.Split
import Derived.Lib.Join
import Derived.Lib.ItoaNum
import Derived.Laws.AppendOwn
import Derived.Deep.Slices
import Derived.Deep.Fields
import Derived.ChangeSame
import Derived.Deep.AppendLies
import Derived.Test.YtimcdikeajbabaaGreatDoorQValB
import Derived.Test.YtimcdikeajbabaaGreatDoorQKindArg
import Derived.Test.YtimcdikeajbabaaGreatDoorShelfS
import Derived.Test.YtimcdikeajbabaaGreatDoorShelfT
import Derived.Lib.ItoaLen
import Derived.Lib.AppendIntMem
import Derived.Lib.PathFns
import Derived.Maps.Range
import Derived.Lib.OwnBridge
import Derived.Sort.OwnSorted
import Derived.Sort.Walk0
import Derived.Test.YtimcdikeajbabaaGreatDoorQIdxS
import Derived.Test.YtimcdikeajbabaaGreatDoorQSorted
import Derived.Test.YtimcdikeajbabaaGreatDoorQNumS
import Derived.Test.YtimcdikeajbabaaGreatDoorQFound
namespace Go.Proofs.YtimcdikeajbabaaGreatDoor
open Go.RowKit
set_option maxRecDepth 100000

def kTime : Kind T4 := kPair kInt (kPair kInt (kPair kInt kInt))
def kLect : Kind Lect := kPair kStr (kSlice kTime)
theorem rep_time {S : Nat → Prop} {w : World} {t : T4} {vs : List Value} (h : kTime.rep S w t vs) : vs = encT t := by
  obtain ⟨us1, ts1, rfl, h1, us2, ts2, rfl, h2, us3, ts3, rfl, h3, h4⟩ := h
  rw [rep_int] at h1 h2 h3 h4
  subst h1 h2 h3 h4
  rfl
theorem cells_of_at {B : Nat} {w : World} {A : Option Addr} {ts : List T4} (h : At kTime (· < B) w A ts) : CellsAt B w A 4 ts.length fun k => encT (ts.getD k (0, 0, 0, 0)) := by
  intro hn
  obtain ⟨b, off, e, hb, hlt, hc⟩ := h hn
  refine ⟨b, off, e, hb, fun j hj i u hu => ?_⟩
  have hx : ts[j]? = some (ts.getD j (0, 0, 0, 0)) := by rw [List.getD_eq_getElem?_getD, List.getElem?_eq_getElem hj]; rfl
  obtain ⟨vs, hr, hcell⟩ := hc j _ hx
  rw [rep_time hr] at hcell
  exact hcell i u hu
theorem lects_of_at {B : Nat} {w : World} {A : Option Addr} {ls : List Lect} (h : At kLect (· < B) w A ls) : LectsAt B w A ls := by
  intro hn
  obtain ⟨b, off, e, hb, hlt, hc⟩ := h hn
  refine ⟨b, off, e, hb, fun j l hl => ?_⟩
  obtain ⟨vs, ⟨us, ts, rfl, h1, T, c, rfl, -, hT⟩, hcell⟩ := hc j l hl
  rw [rep_str] at h1
  subst h1
  exact ⟨T, c, hcell 0 _ rfl, hcell 1 _ rfl, cells_of_at hT⟩
theorem opens_time (G : Good) : Opens G Tryz.prog 49 kTime fun _ => True ∧ True ∧ True ∧ True := by
  have h := opensF_cons (G := G) (P := Tryz.prog) (f := ⟨"Weeks", 3, 0, false, "", "", 0⟩) (o := 0) rfl (opens_int Tryz.underlying3 (by kernel_rfl)) (opensF_cons (f := ⟨"Day", 3, 1, false, "", "", 8⟩) rfl (opens_int Tryz.underlying3 (by kernel_rfl)) (opensF_cons (f := ⟨"Start", 3, 2, false, "", "", 16⟩) rfl (opens_int Tryz.underlying3 (by kernel_rfl)) (opensF_one (f := ⟨"Length", 3, 3, false, "", "", 24⟩) rfl (opens_int Tryz.underlying3 (by kernel_rfl)))))
  exact opens_struct Tryz.underlying49 (by kernel_rfl) h
theorem opens_times (G : Good) : Opens G Tryz.prog 42 (kSlice kTime) fun l => G.len l.length ∧ l.length ≤ maxLen ∧ ∀ x ∈ l, True ∧ True ∧ True ∧ True :=
  opens_slice Tryz.underlying42 (by kernel_rfl) (by decide) (opens_time G)
theorem opens_lect (G : Good) : Opens G Tryz.prog 80 kLect fun l => (G.str l.1 ∧ l.1.size ≤ maxLen) ∧ G.len l.2.length ∧ l.2.length ≤ maxLen ∧ ∀ x ∈ l.2, True ∧ True ∧ True ∧ True := by
  have h := opensF_cons (G := G) (P := Tryz.prog) (f := ⟨"Code", 9, 0, false, "", "", 0⟩) (o := 0) rfl (opens_str Tryz.underlying9 (by kernel_rfl)) (opensF_one (f := ⟨"Away", 42, 1, false, "", "", 16⟩) rfl (opens_times G))
  exact opens_struct Tryz.underlying80 (by kernel_rfl) h
theorem opens_lects (G : Good) : Opens G Tryz.prog 53 (kSlice kLect) fun ls => G.len ls.length ∧ ls.length ≤ maxLen ∧ ∀ l ∈ ls, (G.str l.1 ∧ l.1.size ≤ maxLen) ∧ G.len l.2.length ∧ l.2.length ≤ maxLen ∧ ∀ x ∈ l.2, True ∧ True ∧ True ∧ True :=
  opens_slice Tryz.underlying53 (by kernel_rfl) (by decide) (opens_lect G)
end Go.Proofs.YtimcdikeajbabaaGreatDoor

namespace Go.Proofs.YtimcdikeajbabaaGreatDoor
open Go.RowKit
set_option maxRecDepth 100000

abbrev Room := ByteArray × ByteArray × Int × List ByteArray × List T4
def kRoom : Kind Room := kPair kStr (kPair kStr (kPair kInt (kPair (kSlice kStr) (kSlice kTime))))
def codesR (l : List Room) : List ByteArray := l.map fun x => x.1
/-- A room's five cells. -/
structure Five where
  z : ByteArray
  bl : ByteArray
  n : Int
  A3 : Option Addr
  n3 : Nat
  c3 : Nat
  A4 : Option Addr
  n4 : Nat
  c4 : Nat
def Five.cells (q : Five) : Array Value := #[.string q.z, .string q.bl, .int .i64 q.n, .slice q.A3 q.n3 q.c3, .slice q.A4 q.n4 q.c4]
def FiveAt (w : World) (b o : Nat) (q : Five) : Prop :=
  w.cell? ⟨b, o, none⟩ = some (.string q.z) ∧ w.cell? ⟨b, o + 1, none⟩ = some (.string q.bl) ∧ w.cell? ⟨b, o + 2, none⟩ = some (.int .i64 q.n) ∧ w.cell? ⟨b, o + 3, none⟩ = some (.slice q.A3 q.n3 q.c3) ∧ w.cell? ⟨b, o + 4, none⟩ = some (.slice q.A4 q.n4 q.c4)
theorem FiveAt.later {w w' : World} {b o : Nat} {q : Five} (h : FiveAt w b o q) (hb : Below w.heap.size w w') : FiveAt w' b o q := by
  obtain ⟨h0, h1, h2, h3, h4⟩ := h
  exact ⟨cell_later hb h0, cell_later hb h1, cell_later hb h2, cell_later hb h3, cell_later hb h4⟩
theorem five_new (w : World) (q : Five) (t : TypeId) : FiveAt (w.alloc (.cells #[.string q.z, .string q.bl, .int .i64 q.n, .slice q.A3 q.n3 q.c3, .slice q.A4 q.n4 q.c4] t)) w.heap.size 0 q := by
  refine ⟨?_, ?_, ?_, ?_, ?_⟩ <;> simp
theorem At.room {S : Nat → Prop} {w : World} {A : Option Addr} {l : List Room} {j : Nat} {x : Room} (h : At kRoom S w A l) (hj : l[j]? = some x) :
    ∃ b off A3 c3 A4 c4, A = some ⟨b, off, none⟩ ∧ S b ∧ b < w.heap.size ∧ FiveAt w b (off + j * 5) ⟨x.1, x.2.1, x.2.2.1, A3, x.2.2.2.1.length, c3, A4, x.2.2.2.2.length, c4⟩ ∧ x.2.2.2.1.length ≤ c3 ∧ x.2.2.2.2.length ≤ c4 ∧ At kStr S w A3 x.2.2.2.1 ∧ At kTime S w A4 x.2.2.2.2 := by
  obtain ⟨b, off, vs, e, hs, hlt, hr, hc⟩ := h.get hj
  obtain ⟨u0, r0, e0, h0, hr⟩ := hr
  obtain ⟨u1, r1, e1, h1, hr⟩ := hr
  obtain ⟨u2, r2, e2, h2, hr⟩ := hr
  obtain ⟨u3, u4, e3, h3, h4⟩ := hr
  obtain ⟨A3, c3, rfl, l3, a3⟩ := h3
  obtain ⟨A4, c4, rfl, l4, a4⟩ := h4
  have h0 : u0 = [.string x.1] := h0
  have h1 : u1 = [.string x.2.1] := h1
  have h2 : u2 = [.int .i64 x.2.2.1] := h2
  subst h0 h1 h2 e3 e2 e1 e0
  have hk : ∀ i u, ([Value.string x.1, .string x.2.1, .int .i64 x.2.2.1, .slice A3 x.2.2.2.1.length c3, .slice A4 x.2.2.2.2.length c4] : List Value)[i]? = some u → w.cell? ⟨b, off + j * 5 + i, none⟩ = some u := hc
  exact ⟨b, off, A3, c3, A4, c4, e, hs, hlt, ⟨hk 0 _ rfl, hk 1 _ rfl, hk 2 _ rfl, hk 3 _ rfl, hk 4 _ rfl⟩, l3, l4, a3, a4⟩
theorem room_rep {S : Nat → Prop} {W : World} {z bl : ByteArray} {n : Int} {fs : List ByteArray} {ts : List T4} {v3 v4 : Value} (h3 : (kSlice kStr).rep S W fs [v3]) (h4 : (kSlice kTime).rep S W ts [v4]) :
    kRoom.rep S W (z, bl, n, fs, ts) [.string z, .string bl, .int .i64 n, v3, v4] :=
  ⟨[_], _, rfl, rfl, [_], _, rfl, rfl, [_], _, rfl, rfl, [_], _, rfl, h3, h4⟩
/-! Ascending codes. -/
/-- x is not behind y. -/
def leqS (x y : ByteArray) : Bool := Op.bytesLess x.toList y.toList || x.toList == y.toList
def ascTo (l : List ByteArray) : Nat → Bool
  | 0 => true
  | n + 1 => ascTo l n && (codeB (l.getD n ⟨#[]⟩) && (decide (n = 0) || !leqS (l.getD n ⟨#[]⟩) (l.getD (n - 1) ⟨#[]⟩)))
def codesTo (l : List ByteArray) : Nat → Bool
  | 0 => true
  | n + 1 => codesTo l n && codeB (l.getD n ⟨#[]⟩)
def risesTo (l : List ByteArray) : Nat → Bool
  | 0 => true
  | n + 1 => risesTo l n && (decide (n = 0) || !leqS (l.getD n ⟨#[]⟩) (l.getD (n - 1) ⟨#[]⟩))
theorem asc_both (l : List ByteArray) : ∀ n, ascTo l n = (codesTo l n && risesTo l n)
  | 0 => rfl
  | n + 1 => by
    rw [ascTo, codesTo, risesTo, asc_both l n]
    cases codesTo l n <;> cases risesTo l n <;> cases codeB (l.getD n ⟨#[]⟩) <;> simp
theorem ascTo_false {l : List ByteArray} {k : Nat} (h : ascTo l k = false) : ∀ n, k ≤ n → ascTo l n = false
  | 0, hk => by
    have e : k = 0 := by omega
    rw [e] at h; exact h
  | n + 1, hk => by
    by_cases e : k = n + 1
    · rw [← e]; exact h
    · rw [ascTo, ascTo_false h n (by omega), Bool.false_and]
theorem codesTo_false {l : List ByteArray} {k : Nat} (h : codesTo l k = false) : ∀ n, k ≤ n → codesTo l n = false
  | 0, hk => by
    have e : k = 0 := by omega
    rw [e] at h; exact h
  | n + 1, hk => by
    by_cases e : k = n + 1
    · rw [← e]; exact h
    · rw [codesTo, codesTo_false h n (by omega), Bool.false_and]
theorem risesTo_false {l : List ByteArray} {k : Nat} (h : risesTo l k = false) : ∀ n, k ≤ n → risesTo l n = false
  | 0, hk => by
    have e : k = 0 := by omega
    rw [e] at h; exact h
  | n + 1, hk => by
    by_cases e : k = n + 1
    · rw [← e]; exact h
    · rw [risesTo, risesTo_false h n (by omega), Bool.false_and]
/-! What is wrong. -/
def unfitB (d sl b m n : Int) (ts : List T4) : Bool := orTo (fun j => fitsV d sl b m n (ts.getD j (0, 0, 0, 0)).1 (ts.getD j (0, 0, 0, 0)).2.1 (ts.getD j (0, 0, 0, 0)).2.2.1 (ts.getD j (0, 0, 0, 0)).2.2.2 != 0) ts.length
/-- What is wrong with a room behind such codes. -/
def roomEx (d sl b m n : Int) (x : Room) (met : List ByteArray) : Nat :=
  if codeB x.1 = false then 10 else if codeB x.2.1 = false then 10 else if x.2.2.1 < 1 then 3 else if 9999 < x.2.2.1 then 3 else if 8 < x.2.2.2.1.length then 2 else if 24 < x.2.2.2.2.length then 2 else if ascTo x.2.2.2.1 x.2.2.2.1.length = false then 10 else if unfitB d sl b m n x.2.2.2.2 = true then 14 else if 0 ≤ idxS x.1 met then 11 else 0
def roomE (d sl b m n : Int) (l : List Room) (i : Nat) : Nat := match l[i]? with
  | none => 0
  | some x => roomEx d sl b m n x ((codesR l).take i)
def roomErr (d sl b m n : Int) (l : List Room) : Nat → Nat
  | 0 => 0
  | k + 1 => if roomErr d sl b m n l k ≠ 0 then roomErr d sl b m n l k else roomE d sl b m n l k
def validR (d sl b m n : Int) (l : List Room) : Nat := if weekB d sl b m n = false then 1 else if 16 < l.length then 2 else roomErr d sl b m n l l.length
theorem roomErr_next {d sl b m n : Int} {l : List Room} {j : Nat} (h0 : roomErr d sl b m n l j = 0) : roomErr d sl b m n l (j + 1) = roomE d sl b m n l j := by rw [roomErr, if_neg (by rw [h0]; simp)]
theorem roomErr_hit {d sl b m n : Int} {l : List Room} {j : Nat} (h0 : roomErr d sl b m n l j = 0) (h : roomE d sl b m n l j ≠ 0) : ∀ k, j < k → roomErr d sl b m n l k = roomE d sl b m n l j
  | 0, hj => by omega
  | k + 1, hj => by
    by_cases e : j = k
    · subst e; exact roomErr_next h0
    · have ih := roomErr_hit h0 h k (by omega)
      rw [roomErr, if_pos (by rw [ih]; exact h), ih]
end Go.Proofs.YtimcdikeajbabaaGreatDoor

namespace Go.Proofs.YtimcdikeajbabaaGreatDoor
open Go.RowKit
set_option maxRecDepth 100000

def orP (a b : Option Prob) : Option Prob := match a with
  | some p => some p
  | none => b
/-- The problem of a room's fields. -/
def fieldsR (d sl b m n line : Int) (fs : List Fld) : Option Prob :=
  orP (orP (orP (orP (if codeB (textAt fs 0) then none else some (line, colAt fs 1, 10)) (if codeB (textAt fs 1) then none else some (line, colAt fs 2, 10))) (numP (numS 4 (textAt fs 2)) (line, colAt fs 3, 4))) (codesP 8 line (colAt fs 4) (textAt fs 3))) (probOf line (colAt fs 5) (timesE d sl b m n (partsOf (textAt fs 4))))
/-- The problem of the record of a room, behind others. -/
def roomP (d sl b m n line : Int) (fs : List Fld) (ls : List Room) : Option Prob :=
  noted (noted (fieldsR d sl b m n line fs) (decide (0 ≤ idxS (textAt fs 0) (codesR ls))) (line, 0, 11)) (decide (16 ≤ ls.length)) (line, 0, 2)
def roomOf (d sl b m n : Int) (fs : List Fld) : Room := (textAt fs 0, textAt fs 1, (((numE 4 (textAt fs 2)).getD 0 : Nat) : Int), ascS (listV (textAt fs 3)).2, (partsOf (textAt fs 4)).map (pieceV d sl b m n))
theorem noted_no {a : Option Prob} {wr : Bool} {p : Prob} (h : noted a wr p = none) : a = none := by
  cases a with
  | none => rfl
  | some q => cases h
theorem room_steps {d sl b m n line : Int} {fs : List Fld} {ls : List Room} {k1 k2 k3 k4 k5 nn : Nat} {t0 t1 : ByteArray} {l : List ByteArray} {ts : List T4} {pr1 pr2 pr3 pr4 pr5 : Option Prob}
    (a1 : k1 = 0 + 1 ∧ t0 = textAt fs 0 ∧ pr1 = if codeB (textAt fs 0) then none else some (line, colAt fs (0 + 1), 10))
    (b1 : pr1 = none → k2 = k1 + 1 ∧ t1 = textAt fs k1 ∧ pr2 = if codeB (textAt fs k1) then none else some (line, colAt fs (k1 + 1), 10)) (b2 : ∀ p, pr1 = some p → pr2 = some p)
    (c1 : pr2 = none → k3 = k2 + 1 ∧ nn = (numE 4 (textAt fs k2)).getD 0 ∧ pr3 = numP (numS 4 (textAt fs k2)) (line, colAt fs (k2 + 1), 4)) (c2 : ∀ p, pr2 = some p → pr3 = some p)
    (d1 : pr3 = none → k4 = k3 + 1 ∧ l = (listV (textAt fs k3)).2 ∧ pr4 = codesP 8 line (colAt fs (k3 + 1)) (textAt fs k3)) (d2 : ∀ p, pr3 = some p → pr4 = some p ∧ l = [])
    (e1 : pr4 = none → k5 = k4 + 1 ∧ ts = (partsOf (textAt fs k4)).map (pieceV d sl b m n) ∧ pr5 = probOf line (colAt fs (k4 + 1)) (timesE d sl b m n (partsOf (textAt fs k4)))) (e2 : ∀ p, pr4 = some p → pr5 = some p ∧ ts = []) :
    noted (noted pr5 (decide (0 ≤ idxS t0 (codesR ls))) (line, 0, 11)) (decide (16 ≤ ls.length)) (line, 0, 2) = roomP d sl b m n line fs ls ∧ (roomP d sl b m n line fs ls = none → (t0, t1, (nn : Int), ascS l, ts) = roomOf d sl b m n fs) := by
  obtain ⟨rfl, rfl, hp1⟩ := a1
  have hmain : pr5 = fieldsR d sl b m n line fs ∧ (fieldsR d sl b m n line fs = none → (textAt fs 0, t1, (nn : Int), ascS l, ts) = roomOf d sl b m n fs) := by
    unfold fieldsR
    rw [show (if codeB (textAt fs 0) then none else some (line, colAt fs 1, (10 : Int))) = pr1 from hp1.symm]
    cases pr1 with
    | some p => rw [(e2 p (d2 p (c2 p (b2 p rfl))).1).1]; exact ⟨rfl, fun h => by cases h⟩
    | none =>
      obtain ⟨rfl, rfl, hp2⟩ := b1 rfl
      rw [show (if codeB (textAt fs 1) then none else some (line, colAt fs 2, (10 : Int))) = pr2 from hp2.symm]
      cases pr2 with
      | some p => rw [(e2 p (d2 p (c2 p rfl)).1).1]; exact ⟨rfl, fun h => by cases h⟩
      | none =>
        obtain ⟨rfl, rfl, hp3⟩ := c1 rfl
        rw [show numP (numS 4 (textAt fs 2)) (line, colAt fs 3, 4) = pr3 from hp3.symm]
        cases pr3 with
        | some p => rw [(e2 p (d2 p rfl).1).1]; exact ⟨rfl, fun h => by cases h⟩
        | none =>
          obtain ⟨rfl, rfl, hp4⟩ := d1 rfl
          rw [show codesP 8 line (colAt fs 4) (textAt fs 3) = pr4 from hp4.symm]
          cases pr4 with
          | some p => rw [(e2 p rfl).1]; exact ⟨rfl, fun h => by cases h⟩
          | none =>
            obtain ⟨rfl, rfl, hp5⟩ := e1 rfl
            exact ⟨hp5, fun _ => rfl⟩
  unfold roomP
  rw [hmain.1]
  exact ⟨rfl, fun h => hmain.2 (noted_no (noted_no h))⟩
end Go.Proofs.YtimcdikeajbabaaGreatDoor
