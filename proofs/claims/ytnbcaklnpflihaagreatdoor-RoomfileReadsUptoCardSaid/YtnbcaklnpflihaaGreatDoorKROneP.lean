/- Lecturers and times as kinds of data. No condition. Rooms as data; what is wrong with rooms (plain). No walk. Walks of fields.Ascending, timetableref02.Rises, timetableref07.Codes. Conditions: the cells. What the reading of a room gives (plain). No walk. -/
import Derived.Test.YtnbcaklnpflihaaGreatDoorKRecArg
import Derived.Test.YtnbcaklnpflihaaGreatDoorKValB
import Derived.Test.YtnbcaklnpflihaaGreatDoorKSorted
import Derived.Test.YtnbcaklnpflihaaGreatDoorKCurr
import Derived.Test.YtnbcaklnpflihaaGreatDoorKFieldsC
import Derived.Test.YtnbcaklnpflihaaGreatDoorKDigT
import Derived.Test.YtnbcaklnpflihaaGreatDoorKShort
import Derived.Test.YtnbcaklnpflihaaGreatDoorKCOneR
namespace Go.Proofs.YtnbcaklnpflihaaGreatDoor
open Go.RowKit
set_option maxRecDepth 100000

def kTime : Kind T4 := kPair kInt (kPair kInt (kPair kInt kInt))
def kLect : Kind Lect := kPair kStr (kSlice kTime)
theorem rep_time {S : Nat → Prop} {w : World} {t : T4} {vs : List Value} (h : kTime.rep S w t vs) : vs = encT t := by
  obtain ⟨us1, ts1, rfl, h1, us2, ts2, rfl, h2, us3, ts3, rfl, h3, h4⟩ := h
  rw [rep_int] at h1 h2 h3 h4
  subst h1 h2 h3 h4
  rfl
theorem cells_of_at {B : Nat} {w : World} {A : Option Addr} {ts : List T4} (h : At kTime (· < B) w A ts) : CellsAt B w A 4 ts.length fun k => encT (ts.getD k (0, 0, 0, 0)) := by
  intro hn
  obtain ⟨b, off, e, hb, hlt, hc⟩ := h hn
  refine ⟨b, off, e, hb, fun j hj i u hu => ?_⟩
  have hx : ts[j]? = some (ts.getD j (0, 0, 0, 0)) := by rw [List.getD_eq_getElem?_getD, List.getElem?_eq_getElem hj]; rfl
  obtain ⟨vs, hr, hcell⟩ := hc j _ hx
  rw [rep_time hr] at hcell
  exact hcell i u hu
theorem lects_of_at {B : Nat} {w : World} {A : Option Addr} {ls : List Lect} (h : At kLect (· < B) w A ls) : LectsAt B w A ls := by
  intro hn
  obtain ⟨b, off, e, hb, hlt, hc⟩ := h hn
  refine ⟨b, off, e, hb, fun j l hl => ?_⟩
  obtain ⟨vs, ⟨us, ts, rfl, h1, T, c, rfl, -, hT⟩, hcell⟩ := hc j l hl
  rw [rep_str] at h1
  subst h1
  exact ⟨T, c, hcell 0 _ rfl, hcell 1 _ rfl, cells_of_at hT⟩
theorem opens_time (G : Good) : Opens G Tryz.prog 50 kTime fun _ => True ∧ True ∧ True ∧ True := by
  have h := opensF_cons (G := G) (P := Tryz.prog) (f := ⟨"Weeks", 3, 0, false, "", "", 0⟩) (o := 0) rfl (opens_int Tryz.underlying3 (by kernel_rfl)) (opensF_cons (f := ⟨"Day", 3, 1, false, "", "", 8⟩) rfl (opens_int Tryz.underlying3 (by kernel_rfl)) (opensF_cons (f := ⟨"Start", 3, 2, false, "", "", 16⟩) rfl (opens_int Tryz.underlying3 (by kernel_rfl)) (opensF_one (f := ⟨"Length", 3, 3, false, "", "", 24⟩) rfl (opens_int Tryz.underlying3 (by kernel_rfl)))))
  exact opens_struct Tryz.underlying50 (by kernel_rfl) h
theorem opens_times (G : Good) : Opens G Tryz.prog 45 (kSlice kTime) fun l => G.len l.length ∧ l.length ≤ maxLen ∧ ∀ x ∈ l, True ∧ True ∧ True ∧ True :=
  opens_slice Tryz.underlying45 (by kernel_rfl) (by decide) (opens_time G)
end Go.Proofs.YtnbcaklnpflihaaGreatDoor

namespace Go.Proofs.YtnbcaklnpflihaaGreatDoor
open Go.RowKit
set_option maxRecDepth 100000

abbrev Room := ByteArray × ByteArray × Int × List ByteArray × List T4
def kRoom : Kind Room := kPair kStr (kPair kStr (kPair kInt (kPair (kSlice kStr) (kSlice kTime))))
def codesR (l : List Room) : List ByteArray := l.map fun x => x.1
/-- A room's five cells. -/
structure Five where
  z : ByteArray
  bl : ByteArray
  n : Int
  A3 : Option Addr
  n3 : Nat
  c3 : Nat
  A4 : Option Addr
  n4 : Nat
  c4 : Nat
def Five.cells (q : Five) : Array Value := #[.string q.z, .string q.bl, .int .i64 q.n, .slice q.A3 q.n3 q.c3, .slice q.A4 q.n4 q.c4]
def FiveAt (w : World) (b o : Nat) (q : Five) : Prop :=
  w.cell? ⟨b, o, none⟩ = some (.string q.z) ∧ w.cell? ⟨b, o + 1, none⟩ = some (.string q.bl) ∧ w.cell? ⟨b, o + 2, none⟩ = some (.int .i64 q.n) ∧ w.cell? ⟨b, o + 3, none⟩ = some (.slice q.A3 q.n3 q.c3) ∧ w.cell? ⟨b, o + 4, none⟩ = some (.slice q.A4 q.n4 q.c4)
theorem FiveAt.later {w w' : World} {b o : Nat} {q : Five} (h : FiveAt w b o q) (hb : Below w.heap.size w w') : FiveAt w' b o q := by
  obtain ⟨h0, h1, h2, h3, h4⟩ := h
  exact ⟨cell_later hb h0, cell_later hb h1, cell_later hb h2, cell_later hb h3, cell_later hb h4⟩
theorem five_new (w : World) (q : Five) (t : TypeId) : FiveAt (w.alloc (.cells #[.string q.z, .string q.bl, .int .i64 q.n, .slice q.A3 q.n3 q.c3, .slice q.A4 q.n4 q.c4] t)) w.heap.size 0 q := by
  refine ⟨?_, ?_, ?_, ?_, ?_⟩ <;> simp
theorem At.room {S : Nat → Prop} {w : World} {A : Option Addr} {l : List Room} {j : Nat} {x : Room} (h : At kRoom S w A l) (hj : l[j]? = some x) :
    ∃ b off A3 c3 A4 c4, A = some ⟨b, off, none⟩ ∧ S b ∧ b < w.heap.size ∧ FiveAt w b (off + j * 5) ⟨x.1, x.2.1, x.2.2.1, A3, x.2.2.2.1.length, c3, A4, x.2.2.2.2.length, c4⟩ ∧ x.2.2.2.1.length ≤ c3 ∧ x.2.2.2.2.length ≤ c4 ∧ At kStr S w A3 x.2.2.2.1 ∧ At kTime S w A4 x.2.2.2.2 := by
  obtain ⟨b, off, vs, e, hs, hlt, hr, hc⟩ := h.get hj
  obtain ⟨u0, r0, e0, h0, hr⟩ := hr
  obtain ⟨u1, r1, e1, h1, hr⟩ := hr
  obtain ⟨u2, r2, e2, h2, hr⟩ := hr
  obtain ⟨u3, u4, e3, h3, h4⟩ := hr
  obtain ⟨A3, c3, rfl, l3, a3⟩ := h3
  obtain ⟨A4, c4, rfl, l4, a4⟩ := h4
  have h0 : u0 = [.string x.1] := h0
  have h1 : u1 = [.string x.2.1] := h1
  have h2 : u2 = [.int .i64 x.2.2.1] := h2
  subst h0 h1 h2 e3 e2 e1 e0
  have hk : ∀ i u, ([Value.string x.1, .string x.2.1, .int .i64 x.2.2.1, .slice A3 x.2.2.2.1.length c3, .slice A4 x.2.2.2.2.length c4] : List Value)[i]? = some u → w.cell? ⟨b, off + j * 5 + i, none⟩ = some u := hc
  exact ⟨b, off, A3, c3, A4, c4, e, hs, hlt, ⟨hk 0 _ rfl, hk 1 _ rfl, hk 2 _ rfl, hk 3 _ rfl, hk 4 _ rfl⟩, l3, l4, a3, a4⟩
theorem room_rep {S : Nat → Prop} {W : World} {z bl : ByteArray} {n : Int} {fs : List ByteArray} {ts : List T4} {v3 v4 : Value} (h3 : (kSlice kStr).rep S W fs [v3]) (h4 : (kSlice kTime).rep S W ts [v4]) :
    kRoom.rep S W (z, bl, n, fs, ts) [.string z, .string bl, .int .i64 n, v3, v4] :=
  ⟨[_], _, rfl, rfl, [_], _, rfl, rfl, [_], _, rfl, rfl, [_], _, rfl, h3, h4⟩
/-! Ascending codes. -/
/-- x is not behind y. -/
def leqS (x y : ByteArray) : Bool := Op.bytesLess x.toList y.toList || x.toList == y.toList
def ascTo (l : List ByteArray) : Nat → Bool
  | 0 => true
  | n + 1 => ascTo l n && (codeB (l.getD n ⟨#[]⟩) && (decide (n = 0) || !leqS (l.getD n ⟨#[]⟩) (l.getD (n - 1) ⟨#[]⟩)))
def codesTo (l : List ByteArray) : Nat → Bool
  | 0 => true
  | n + 1 => codesTo l n && codeB (l.getD n ⟨#[]⟩)
def risesTo (l : List ByteArray) : Nat → Bool
  | 0 => true
  | n + 1 => risesTo l n && (decide (n = 0) || !leqS (l.getD n ⟨#[]⟩) (l.getD (n - 1) ⟨#[]⟩))
theorem asc_both (l : List ByteArray) : ∀ n, ascTo l n = (codesTo l n && risesTo l n)
  | 0 => rfl
  | n + 1 => by
    rw [ascTo, codesTo, risesTo, asc_both l n]
    cases codesTo l n <;> cases risesTo l n <;> cases codeB (l.getD n ⟨#[]⟩) <;> simp
theorem ascTo_false {l : List ByteArray} {k : Nat} (h : ascTo l k = false) : ∀ n, k ≤ n → ascTo l n = false
  | 0, hk => by
    have e : k = 0 := by omega
    rw [e] at h; exact h
  | n + 1, hk => by
    by_cases e : k = n + 1
    · rw [← e]; exact h
    · rw [ascTo, ascTo_false h n (by omega), Bool.false_and]
theorem codesTo_false {l : List ByteArray} {k : Nat} (h : codesTo l k = false) : ∀ n, k ≤ n → codesTo l n = false
  | 0, hk => by
    have e : k = 0 := by omega
    rw [e] at h; exact h
  | n + 1, hk => by
    by_cases e : k = n + 1
    · rw [← e]; exact h
    · rw [codesTo, codesTo_false h n (by omega), Bool.false_and]
theorem risesTo_false {l : List ByteArray} {k : Nat} (h : risesTo l k = false) : ∀ n, k ≤ n → risesTo l n = false
  | 0, hk => by
    have e : k = 0 := by omega
    rw [e] at h; exact h
  | n + 1, hk => by
    by_cases e : k = n + 1
    · rw [← e]; exact h
    · rw [risesTo, risesTo_false h n (by omega), Bool.false_and]
/-! What is wrong. -/
def unfitB (d sl b m n : Int) (ts : List T4) : Bool := orTo (fun j => fitsV d sl b m n (ts.getD j (0, 0, 0, 0)).1 (ts.getD j (0, 0, 0, 0)).2.1 (ts.getD j (0, 0, 0, 0)).2.2.1 (ts.getD j (0, 0, 0, 0)).2.2.2 != 0) ts.length
/-- What is wrong with a room behind such codes. -/
def roomEx (d sl b m n : Int) (x : Room) (met : List ByteArray) : Nat :=
  if codeB x.1 = false then 10 else if codeB x.2.1 = false then 10 else if x.2.2.1 < 1 then 3 else if 9999 < x.2.2.1 then 3 else if 8 < x.2.2.2.1.length then 2 else if 24 < x.2.2.2.2.length then 2 else if ascTo x.2.2.2.1 x.2.2.2.1.length = false then 10 else if unfitB d sl b m n x.2.2.2.2 = true then 14 else if 0 ≤ idxS x.1 met then 11 else 0
def roomE (d sl b m n : Int) (l : List Room) (i : Nat) : Nat := match l[i]? with
  | none => 0
  | some x => roomEx d sl b m n x ((codesR l).take i)
def roomErr (d sl b m n : Int) (l : List Room) : Nat → Nat
  | 0 => 0
  | k + 1 => if roomErr d sl b m n l k ≠ 0 then roomErr d sl b m n l k else roomE d sl b m n l k
def validR (d sl b m n : Int) (l : List Room) : Nat := if weekB d sl b m n = false then 1 else if 16 < l.length then 2 else roomErr d sl b m n l l.length
theorem roomErr_next {d sl b m n : Int} {l : List Room} {j : Nat} (h0 : roomErr d sl b m n l j = 0) : roomErr d sl b m n l (j + 1) = roomE d sl b m n l j := by rw [roomErr, if_neg (by rw [h0]; simp)]
theorem roomErr_hit {d sl b m n : Int} {l : List Room} {j : Nat} (h0 : roomErr d sl b m n l j = 0) (h : roomE d sl b m n l j ≠ 0) : ∀ k, j < k → roomErr d sl b m n l k = roomE d sl b m n l j
  | 0, hj => by omega
  | k + 1, hj => by
    by_cases e : j = k
    · subst e; exact roomErr_next h0
    · have ih := roomErr_hit h0 h k (by omega)
      rw [roomErr, if_pos (by rw [ih]; exact h), ih]
end Go.Proofs.YtnbcaklnpflihaaGreatDoor

namespace Go.Proofs.YtnbcaklnpflihaaGreatDoor
open Go.RowKit
set_option maxRecDepth 100000

theorem getD_atS {l : List ByteArray} {i : Nat} {x : ByteArray} (hx : l[i]? = some x) : l.getD i ⟨#[]⟩ = x := by rw [List.getD_eq_getElem?_getD, hx]; rfl
theorem ascTo_bad {l : List ByteArray} {i n : Nat} {x : ByteArray} (hx : l[i]? = some x) (hi : i < n) (h : codeB x = false) : ascTo l n = false := ascTo_false (k := i + 1) (by rw [ascTo, getD_atS hx, h, Bool.false_and, Bool.and_false]) n hi
theorem ascTo_low {l : List ByteArray} {k n : Nat} {x y : ByteArray} (hx : l[k + 1]? = some x) (hy : l[k]? = some y) (hi : k + 1 < n) (h : leqS x y = true) : ascTo l n = false := ascTo_false (k := k + 1 + 1) (by rw [ascTo, getD_atS hx, show k + 1 - 1 = k from rfl, getD_atS hy, h]; simp) n hi
theorem ascTo_first {l : List ByteArray} {x : ByteArray} (hx : l[0]? = some x) (h : codeB x = true) : ascTo l (0 + 1) = true := by rw [ascTo, getD_atS hx, h]; rfl
theorem ascTo_more {l : List ByteArray} {k : Nat} {x y : ByteArray} (h0 : ascTo l (k + 1) = true) (hx : l[k + 1]? = some x) (hy : l[k]? = some y) (hc : codeB x = true) (h : leqS x y = false) : ascTo l (k + 1 + 1) = true := by rw [ascTo, h0, getD_atS hx, show k + 1 - 1 = k from rfl, getD_atS hy, h, hc]; simp
theorem risesTo_low {l : List ByteArray} {k n : Nat} {x y : ByteArray} (hx : l[k + 1]? = some x) (hy : l[k]? = some y) (hi : k + 1 < n) (h : leqS x y = true) : risesTo l n = false := risesTo_false (k := k + 1 + 1) (by rw [risesTo, getD_atS hx, show k + 1 - 1 = k from rfl, getD_atS hy, h]; simp) n hi
theorem risesTo_more {l : List ByteArray} {k : Nat} {x y : ByteArray} (h0 : risesTo l (k + 1) = true) (hx : l[k + 1]? = some x) (hy : l[k]? = some y) (h : leqS x y = false) : risesTo l (k + 1 + 1) = true := by rw [risesTo, h0, getD_atS hx, show k + 1 - 1 = k from rfl, getD_atS hy, h]; simp
theorem codesTo_bad {l : List ByteArray} {i n : Nat} {x : ByteArray} (hx : l[i]? = some x) (hi : i < n) (h : codeB x = false) : codesTo l n = false := codesTo_false (k := i + 1) (by rw [codesTo, getD_atS hx, h, Bool.and_false]) n hi
theorem codesTo_more {l : List ByteArray} {i : Nat} {x : ByteArray} (h0 : codesTo l i = true) (hx : l[i]? = some x) (h : codeB x = true) : codesTo l (i + 1) = true := by rw [codesTo, getD_atS hx, h0, h]; rfl
set_option maxHeartbeats 4000000 in
theorem fasc_walk (A : Option Addr) (l : List ByteArray) (c : Nat) (w : World) (hl : l.length ≤ 9223372036854775807) (h : At kStr AnyB w A l) :
    Calls Tryz.prog 31 #[.slice A l.length c] w fun e w' => e = .returned (.bool (ascTo l l.length)) ∧ w' = w := by
  have cv := hide (fun (s : ByteArray) => cvalid_walk s w)
  obtain ⟨n, hnn⟩ : ∃ n, l.length = n := ⟨_, rfl⟩
  rw [hnn] at hl ⊢
  obtain ⟨V, hV⟩ : ∃ V, ascTo l n = V := ⟨_, rfl⟩
  rw [hV]
  replace hV := hide hV
  replace hnn := hide hnn
  go_enter Tryz.func31, Tryz.ntmps31
  go_wp2_with fail
  go_loopw [7] (fun v wr => ∃ i : Nat, i ≤ n ∧ v = .int .i64 i ∧ Hid (ascTo l i = true) ∧ wr = w) (fun v _ => n - (intOf v).toNat)
  case atStart => exact ⟨0, Nat.zero_le _, rfl, hide rfl, rfl⟩
  case round =>
    obtain ⟨i, hi, rfl, hs, rfl⟩ := hrel
    by_cases hlt : i < n
    · obtain ⟨x, hx⟩ : ∃ x, l[i]? = some x := ⟨_, List.getElem?_eq_getElem (by rw [hnn.out]; exact hlt)⟩
      obtain ⟨zb, zo, rfl, -, hzl, z0⟩ := h.str hx
      have hi0 : (0 : Int) ≤ (i : Int) := by omega
      have hi1 : (i : Int) < (n : Int) := by omega
      cases hc : codeB x with
      | false =>
        have e : V = false := by rw [← hV.out]; exact ascTo_bad hx hlt hc
        subst e
        clear hx
        go_wp2_with (go_at_call 30; (with_reducible refine (cv.out _).mono ?_); rintro e w7 ⟨rfl, rfl⟩; rw [hc])
        go_ret
        exact ⟨rfl, rfl⟩
      | true =>
        cases i with
        | zero =>
          rw [Nat.add_zero] at z0
          have hs' := hide (ascTo_first hx hc)
          clear hx
          go_wp2_with (go_at_call 30; (with_reducible refine (cv.out _).mono ?_); rintro e w7 ⟨rfl, rfl⟩; rw [hc])
          go_roundw
          case rel => exact ⟨0 + 1, by omega, by go_num, hs', trivial⟩
          case measure => first | (simp [intOf]; done) | (simp [intOf]; omega)
        | succ k =>
          obtain ⟨y, hy⟩ : ∃ y, l[k]? = some y := ⟨_, List.getElem?_eq_getElem (by rw [hnn.out]; omega)⟩
          obtain ⟨zb', zo', e', -, -, y0⟩ := h.str hy
          injection e' with e'
          injection e' with e1 e2
          subst e1 e2
          have hk1 : (0 : Int) < ((k + 1 : Nat) : Int) := by omega
          have hkw : IntKind.i64.wrap (((k + 1 : Nat) : Int) - 1) = (k : Int) := by rw [IntKind.wrap_i64]; omega
          have hkk : ((k + 1 : Nat) : Int) - 1 = (k : Int) := by omega
          have hk2 : (0 : Int) ≤ (k : Int) := by omega
          have hk3 : (k : Int) < (n : Int) := by omega
          cases hb : Op.bytesLess x.toList y.toList with
          | true =>
            have e : V = false := by rw [← hV.out]; exact ascTo_low hx hy hlt (by unfold leqS; rw [hb]; rfl)
            subst e
            clear hx hy
            go_wp2_with (go_at_call 30; (with_reducible refine (cv.out _).mono ?_); rintro e w7 ⟨rfl, rfl⟩; rw [hc])
            go_ret
            exact ⟨rfl, rfl⟩
          | false =>
            by_cases hxy : x.toList = y.toList
            · have hbe : (x.toList == y.toList) = true := by rw [hxy]; simp
              have e : V = false := by rw [← hV.out]; exact ascTo_low hx hy hlt (by unfold leqS; rw [hb, hbe]; rfl)
              subst e
              clear hx hy
              go_wp2_with (go_at_call 30; (with_reducible refine (cv.out _).mono ?_); rintro e w7 ⟨rfl, rfl⟩; rw [hc])
              go_ret
              exact ⟨rfl, rfl⟩
            · have hbe : (x.toList == y.toList) = false := by simp [hxy]
              have hs' := hide (ascTo_more hs.out hx hy hc (by unfold leqS; rw [hb, hbe]; rfl))
              clear hx hy
              go_wp2_with (go_at_call 30; (with_reducible refine (cv.out _).mono ?_); rintro e w7 ⟨rfl, rfl⟩; rw [hc])
              go_roundw
              case rel => exact ⟨k + 1 + 1, by omega, by go_num, hs', trivial⟩
              case measure => first | (simp [intOf]; done) | (simp [intOf]; omega)
    · obtain rfl : i = n := by omega
      have e : V = true := by rw [← hV.out]; exact hs.out
      subst e
      go_wp2
      go_ret
      exact ⟨rfl, rfl⟩
set_option maxHeartbeats 4000000 in
theorem r2rises_walk (A : Option Addr) (l : List ByteArray) (c : Nat) (w : World) (hl : l.length ≤ 9223372036854775807) (h : At kStr AnyB w A l) :
    Calls Tryz.prog 70 #[.slice A l.length c] w fun e w' => e = .returned (.bool (risesTo l l.length)) ∧ Below w.heap.size w w' := by
  obtain ⟨n, hnn⟩ : ∃ n, l.length = n := ⟨_, rfl⟩
  rw [hnn] at hl ⊢
  obtain ⟨V, hV⟩ : ∃ V, risesTo l n = V := ⟨_, rfl⟩
  rw [hV]
  replace hV := hide hV
  replace hnn := hide hnn
  go_enter Tryz.func70, Tryz.ntmps70
  go_wp2_with fail
  go_loopw [3] (fun v wr => ∃ k : Nat, (k + 1 ≤ n ∨ k = 0) ∧ v = .int .i64 (k + 1 : Nat) ∧ Hid (risesTo l (k + 1) = true ∨ n = 0) ∧ Below w.heap.size w wr) (fun v _ => n - (intOf v).toNat)
  case atStart => exact ⟨0, Or.inr rfl, rfl, hide (Or.inl (by rw [risesTo]; rfl)), Below.refl _ _⟩
  case round =>
    obtain ⟨k, hi, rfl, hs, hb⟩ := hrel
    by_cases hlt : k + 1 < n
    · obtain ⟨x, hx⟩ : ∃ x, l[k + 1]? = some x := ⟨_, List.getElem?_eq_getElem (by rw [hnn.out]; exact hlt)⟩
      obtain ⟨y, hy⟩ : ∃ y, l[k]? = some y := ⟨_, List.getElem?_eq_getElem (by rw [hnn.out]; omega)⟩
      obtain ⟨zb, zo, rfl, -, hzl, z0⟩ := (h.later hb).str hx
      obtain ⟨zb', zo', e', -, -, y0⟩ := (h.later hb).str hy
      injection e' with e'
      injection e' with e1 e2
      subst e1 e2
      have hi0 : (0 : Int) ≤ ((k + 1 : Nat) : Int) := by omega
      have hi1 : ((k + 1 : Nat) : Int) < (n : Int) := by omega
      have hkw : IntKind.i64.wrap (((k + 1 : Nat) : Int) - 1) = (k : Int) := by rw [IntKind.wrap_i64]; omega
      have hkk : ((k + 1 : Nat) : Int) - 1 = (k : Int) := by omega
      have hk2 : (0 : Int) ≤ (k : Int) := by omega
      have hk3 : (k : Int) < (n : Int) := by omega
      have hs1 : risesTo l (k + 1) = true := hs.out.resolve_right (by omega)
      cases hbl : Op.bytesLess x.toList y.toList with
      | true =>
        have e : V = false := by rw [← hV.out]; exact risesTo_low hx hy hlt (by unfold leqS; rw [hbl]; rfl)
        subst e
        clear hx hy hs1 hs
        go_upto_region 4 with fail
        go_quiet (fail)
        go_wp2_with fail
        go_ret
        exact ⟨rfl, ext_drewN hb _⟩
      | false =>
        by_cases hxy : x.toList = y.toList
        · have hbe : (x.toList == y.toList) = true := by rw [hxy]; simp
          have e : V = false := by rw [← hV.out]; exact risesTo_low hx hy hlt (by unfold leqS; rw [hbl, hbe]; rfl)
          subst e
          clear hx hy hs1 hs
          go_upto_region 4 with fail
          go_quiet (fail)
          go_wp2_with fail
          go_ret
          exact ⟨rfl, ext_drewN hb _⟩
        · have hbe : (x.toList == y.toList) = false := by simp [hxy]
          have hs' := hide (Or.inl (b := n = 0) (risesTo_more hs1 hx hy (by unfold leqS; rw [hbl, hbe]; rfl)))
          clear hx hy hs1 hs
          go_upto_region 4 with fail
          go_quiet (fail)
          go_wp2_with fail
          go_roundw
          case rel => exact ⟨k + 1, Or.inl (by omega), by go_num, hs', ext_drewN hb _⟩
          case measure => first | (simp [intOf]; done) | (simp [intOf]; omega)
    · have e : V = true := by
        rw [← hV.out]
        rcases hi with hi | rfl
        · have e : n = k + 1 := by omega
          rw [e]; exact hs.out.resolve_right (by omega)
        · have e : n = 0 ∨ n = 1 := by omega
          rcases e with e | e <;> rw [e] <;> simp [risesTo]
      subst e
      have hi1 : ¬ ((k + 1 : Nat) : Int) < (n : Int) := by omega
      go_wp2
      go_ret
      exact ⟨rfl, hb⟩
set_option maxHeartbeats 4000000 in
theorem r7codes_walk (A : Option Addr) (l : List ByteArray) (c : Nat) (w : World) (hl : l.length ≤ 9223372036854775807) (h : At kStr AnyB w A l) :
    Calls Tryz.prog 34 #[.slice A l.length c] w fun e w' => e = .returned (.bool (ascTo l l.length)) ∧ Below w.heap.size w w' := by
  have cv := hide (fun (s : ByteArray) => r3valid_walk s w)
  have hrs := r2rises_walk A l c w hl h
  rw [asc_both]
  obtain ⟨n, hnn⟩ : ∃ n, l.length = n := ⟨_, rfl⟩
  rw [hnn] at hl hrs ⊢
  obtain ⟨V, hV⟩ : ∃ V, codesTo l n = V := ⟨_, rfl⟩
  obtain ⟨R, hR⟩ : ∃ R, risesTo l n = R := ⟨_, rfl⟩
  rw [hR] at hrs
  rw [hV, hR]
  replace hrs := hide hrs
  replace hV := hide hV
  replace hnn := hide hnn
  clear hR
  go_enter Tryz.func34, Tryz.ntmps34
  go_wp2_with fail
  go_loopw [3] (fun v wr => ∃ i : Nat, i ≤ n ∧ v = .int .i64 i ∧ Hid (codesTo l i = true) ∧ wr = w) (fun v _ => n - (intOf v).toNat)
  case atStart => exact ⟨0, Nat.zero_le _, rfl, hide rfl, rfl⟩
  case round =>
    obtain ⟨i, hi, rfl, hs, rfl⟩ := hrel
    by_cases hlt : i < n
    · obtain ⟨x, hx⟩ : ∃ x, l[i]? = some x := ⟨_, List.getElem?_eq_getElem (by rw [hnn.out]; exact hlt)⟩
      obtain ⟨zb, zo, rfl, -, hzl, z0⟩ := h.str hx
      have hi0 : (0 : Int) ≤ (i : Int) := by omega
      have hi1 : (i : Int) < (n : Int) := by omega
      cases hc : codeB x with
      | false =>
        have e : V = false := by rw [← hV.out]; exact codesTo_bad hx hlt hc
        subst e
        clear hx
        go_wp2_with (go_at_call 33; (with_reducible refine (cv.out _).mono ?_); rintro e w7 ⟨rfl, rfl⟩; rw [hc])
        go_ret
        exact ⟨rfl, Below.refl _ _⟩
      | true =>
        have hs' := hide (codesTo_more hs.out hx hc)
        clear hx
        go_wp2_with (go_at_call 33; (with_reducible refine (cv.out _).mono ?_); rintro e w7 ⟨rfl, rfl⟩; rw [hc])
        go_roundw
        case rel => exact ⟨i + 1, by omega, by go_num, hs', trivial⟩
        case measure => first | (simp [intOf]; done) | (simp [intOf]; omega)
    · obtain rfl : i = n := by omega
      have e : V = true := by rw [← hV.out]; exact hs.out
      subst e
      go_wp2_with (go_at_call 70; (with_reducible refine hrs.out.mono ?_); rintro e w7 ⟨rfl, hb7⟩)
      go_ret
      exact ⟨rfl, hb7⟩
end Go.Proofs.YtnbcaklnpflihaaGreatDoor

namespace Go.Proofs.YtnbcaklnpflihaaGreatDoor
open Go.RowKit
set_option maxRecDepth 100000

def orP (a b : Option Prob) : Option Prob := match a with
  | some p => some p
  | none => b
/-- The problem of a room's fields. -/
def fieldsR (d sl b m n line : Int) (fs : List Fld) : Option Prob :=
  orP (orP (orP (orP (if codeB (textAt fs 0) then none else some (line, colAt fs 1, 10)) (if codeB (textAt fs 1) then none else some (line, colAt fs 2, 10))) (numP (numS 4 (textAt fs 2)) (line, colAt fs 3, 4))) (codesP 8 line (colAt fs 4) (textAt fs 3))) (probOf line (colAt fs 5) (timesE d sl b m n (partsOf (textAt fs 4))))
/-- The problem of the record of a room, behind others. -/
def roomP (d sl b m n line : Int) (fs : List Fld) (ls : List Room) : Option Prob :=
  noted (noted (fieldsR d sl b m n line fs) (decide (0 ≤ idxS (textAt fs 0) (codesR ls))) (line, 0, 11)) (decide (16 ≤ ls.length)) (line, 0, 2)
def roomOf (d sl b m n : Int) (fs : List Fld) : Room := (textAt fs 0, textAt fs 1, (((numE 4 (textAt fs 2)).getD 0 : Nat) : Int), ascS (listV (textAt fs 3)).2, (partsOf (textAt fs 4)).map (pieceV d sl b m n))
theorem noted_no {a : Option Prob} {wr : Bool} {p : Prob} (h : noted a wr p = none) : a = none := by
  cases a with
  | none => rfl
  | some q => cases h
theorem room_steps {d sl b m n line : Int} {fs : List Fld} {ls : List Room} {k1 k2 k3 k4 k5 nn : Nat} {t0 t1 : ByteArray} {l : List ByteArray} {ts : List T4} {pr1 pr2 pr3 pr4 pr5 : Option Prob}
    (a1 : k1 = 0 + 1 ∧ t0 = textAt fs 0 ∧ pr1 = if codeB (textAt fs 0) then none else some (line, colAt fs (0 + 1), 10))
    (b1 : pr1 = none → k2 = k1 + 1 ∧ t1 = textAt fs k1 ∧ pr2 = if codeB (textAt fs k1) then none else some (line, colAt fs (k1 + 1), 10)) (b2 : ∀ p, pr1 = some p → pr2 = some p)
    (c1 : pr2 = none → k3 = k2 + 1 ∧ nn = (numE 4 (textAt fs k2)).getD 0 ∧ pr3 = numP (numS 4 (textAt fs k2)) (line, colAt fs (k2 + 1), 4)) (c2 : ∀ p, pr2 = some p → pr3 = some p)
    (d1 : pr3 = none → k4 = k3 + 1 ∧ l = (listV (textAt fs k3)).2 ∧ pr4 = codesP 8 line (colAt fs (k3 + 1)) (textAt fs k3)) (d2 : ∀ p, pr3 = some p → pr4 = some p ∧ l = [])
    (e1 : pr4 = none → k5 = k4 + 1 ∧ ts = (partsOf (textAt fs k4)).map (pieceV d sl b m n) ∧ pr5 = probOf line (colAt fs (k4 + 1)) (timesE d sl b m n (partsOf (textAt fs k4)))) (e2 : ∀ p, pr4 = some p → pr5 = some p ∧ ts = []) :
    noted (noted pr5 (decide (0 ≤ idxS t0 (codesR ls))) (line, 0, 11)) (decide (16 ≤ ls.length)) (line, 0, 2) = roomP d sl b m n line fs ls ∧ (roomP d sl b m n line fs ls = none → (t0, t1, (nn : Int), ascS l, ts) = roomOf d sl b m n fs) := by
  obtain ⟨rfl, rfl, hp1⟩ := a1
  have hmain : pr5 = fieldsR d sl b m n line fs ∧ (fieldsR d sl b m n line fs = none → (textAt fs 0, t1, (nn : Int), ascS l, ts) = roomOf d sl b m n fs) := by
    unfold fieldsR
    rw [show (if codeB (textAt fs 0) then none else some (line, colAt fs 1, (10 : Int))) = pr1 from hp1.symm]
    cases pr1 with
    | some p => rw [(e2 p (d2 p (c2 p (b2 p rfl))).1).1]; exact ⟨rfl, fun h => by cases h⟩
    | none =>
      obtain ⟨rfl, rfl, hp2⟩ := b1 rfl
      rw [show (if codeB (textAt fs 1) then none else some (line, colAt fs 2, (10 : Int))) = pr2 from hp2.symm]
      cases pr2 with
      | some p => rw [(e2 p (d2 p (c2 p rfl)).1).1]; exact ⟨rfl, fun h => by cases h⟩
      | none =>
        obtain ⟨rfl, rfl, hp3⟩ := c1 rfl
        rw [show numP (numS 4 (textAt fs 2)) (line, colAt fs 3, 4) = pr3 from hp3.symm]
        cases pr3 with
        | some p => rw [(e2 p (d2 p rfl).1).1]; exact ⟨rfl, fun h => by cases h⟩
        | none =>
          obtain ⟨rfl, rfl, hp4⟩ := d1 rfl
          rw [show codesP 8 line (colAt fs 4) (textAt fs 3) = pr4 from hp4.symm]
          cases pr4 with
          | some p => rw [(e2 p rfl).1]; exact ⟨rfl, fun h => by cases h⟩
          | none =>
            obtain ⟨rfl, rfl, hp5⟩ := e1 rfl
            exact ⟨hp5, fun _ => rfl⟩
  unfold roomP
  rw [hmain.1]
  exact ⟨rfl, fun h => hmain.2 (noted_no (noted_no h))⟩
theorem load5 (w : World) (g : Nat) (a b c d e : Value) (h0 : w.cell? ⟨g, 0, none⟩ = some a) (h1 : w.cell? ⟨g, 1, none⟩ = some b) (h2 : w.cell? ⟨g, 2, none⟩ = some c) (h3 : w.cell? ⟨g, 3, none⟩ = some d) (h4 : w.cell? ⟨g, 4, none⟩ = some e) :
    (loadVar 47 ⟨g, 0, none⟩).run Tryz.prog w = .ok (.agg #[a, b, c, d, e]) w := by
  simp [go_sem, h0, h1, h2, h3, h4]
theorem end_room {fn : Func} {p : Tmp} (hr : fn.results = #[.cell p 47]) {Q : Ending → World → Prop} {act : Act} {w : World} (g : Nat) (a b c d e : Value) (hd : act.defers = [])
    (hp : act.tmps.getD p undef = .pointer (some ⟨g, 0, none⟩))
    (h0 : w.cell? ⟨g, 0, none⟩ = some a) (h1 : w.cell? ⟨g, 1, none⟩ = some b) (h2 : w.cell? ⟨g, 2, none⟩ = some c) (h3 : w.cell? ⟨g, 3, none⟩ = some d) (h4 : w.cell? ⟨g, 4, none⟩ = some e)
    (hQ : Q (.returned (.agg #[a, b, c, d, e])) w) : bodyPost Tryz.prog fn Q .ret act w := by
  refine bodyPost_ret (v := .agg #[a, b, c, d, e]) ?_ hd hQ
  simp only [results, hr]
  simp [Sem.run_bind, Result.andThen, -Array.getD_eq_getD_getElem?]
  rw [hp]
  simp only [asAddr, Sem.run_pure]
  rw [load5 w g a b c d e h0 h1 h2 h3 h4]
end Go.Proofs.YtnbcaklnpflihaaGreatDoor
