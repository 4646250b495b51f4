/- Walks of coursefile.Parallel and timetableref10.Parallel; what a class holds. No condition. Eighteen cells that are known in a world. No condition. Walks of curriculum.single and timetableref11.Single. Conditions: the cells of the classes. Plain: the pairs of a list of numbers; two ways to find them; walk of timetableref02.Has. Condition: the cells. A region that draws its order and holds calls that make memory, walked once, in the order of the text: the class of worlds is 'whatever keeps what there was'. No condition. Walk of curriculum.Pairs. Conditions: the cells; at most 1000 classes. Walks of timetableref11.Pairs and SamePairs. Conditions: the cells; at most 1000 classes. Walks of timetableref11.SamePairs at equal lists, and of the search for a curriculum's code. Conditions: the cells. What a curriculum holds; walks of curriculum.has and timetableref11.Index. Conditions: the cells. Walk of curriculum.Valid. Conditions: the cells; what the program's variables hold. Walk of timetableref11.Valid. Conditions: the cells. Walks of fields.Codes and curriculum.Write. Conditions: the cells; what the program's variables hold. Walk of timetableref11.Write. Conditions: the cells. -/
import Derived.Test.YtonpfohhedcjbaaGreatDoorKWide
import Derived.Test.YtonpfohhedcjbaaGreatDoorKSameL
import Derived.Deep.RegionHeld3
import Derived.Deep.DeepCutAuto
import Derived.Test.YtonpfohhedcjbaaGreatDoorKIdxS
import Derived.Test.YtonpfohhedcjbaaGreatDoorKEnds
import Derived.BigQuiet
import Derived.Test.YtonpfohhedcjbaaGreatDoorKJoinR
import Derived.Test.YtonpfohhedcjbaaGreatDoorKWriteT
namespace Go.Proofs.YtonpfohhedcjbaaGreatDoor
open Go.RowKit
set_option maxRecDepth 100000

/-- A class: code, course, part, length, patterns, seats, features, staff, starts. -/
abbrev Cls := ByteArray × ByteArray × ByteArray × Int × List Int × Int × List ByteArray × List ByteArray × List (Int × Int)
def kStart : Kind (Int × Int) := kPair kInt kInt
def kCls : Kind Cls := kPair kStr (kPair kStr (kPair kStr (kPair kInt (kPair (kSlice kInt) (kPair kInt (kPair (kSlice kStr) (kPair (kSlice kStr) (kSlice kStart))))))))
def Cls.course (x : Cls) : ByteArray := x.2.1
def Cls.part (x : Cls) : ByteArray := x.2.2.1
/-- Are two classes parallel. -/
def parB (x y : Cls) : Bool := decide (x.2.1 = y.2.1 ∧ x.2.2.1 = y.2.2.1)
/-- The nine values of a class. -/
structure Nine where
  z : ByteArray
  co : ByteArray
  pa : ByteArray
  n : Int
  A4 : Option Addr
  n4 : Nat
  c4 : Nat
  m : Int
  A6 : Option Addr
  n6 : Nat
  c6 : Nat
  A7 : Option Addr
  n7 : Nat
  c7 : Nat
  A8 : Option Addr
  n8 : Nat
  c8 : Nat
/-- A class's cells from a place on. -/
def NineAt (w : World) (b o : Nat) (q : Nine) : Prop :=
  w.cell? ⟨b, o, none⟩ = some (.string q.z) ∧ w.cell? ⟨b, o + 1, none⟩ = some (.string q.co) ∧ w.cell? ⟨b, o + 2, none⟩ = some (.string q.pa) ∧ w.cell? ⟨b, o + 3, none⟩ = some (.int .i64 q.n) ∧ w.cell? ⟨b, o + 4, none⟩ = some (.slice q.A4 q.n4 q.c4) ∧ w.cell? ⟨b, o + 5, none⟩ = some (.int .i64 q.m) ∧ w.cell? ⟨b, o + 6, none⟩ = some (.slice q.A6 q.n6 q.c6) ∧ w.cell? ⟨b, o + 7, none⟩ = some (.slice q.A7 q.n7 q.c7) ∧ w.cell? ⟨b, o + 8, none⟩ = some (.slice q.A8 q.n8 q.c8)
theorem NineAt.later {w w' : World} {b o : Nat} {q : Nine} (h : NineAt w b o q) (hb : Below w.heap.size w w') : NineAt w' b o q := by
  obtain ⟨h0, h1, h2, h3, h4, h5, h6, h7, h8⟩ := h
  exact ⟨cell_later hb h0, cell_later hb h1, cell_later hb h2, cell_later hb h3, cell_later hb h4, cell_later hb h5, cell_later hb h6, cell_later hb h7, cell_later hb h8⟩
theorem At.cls {S : Nat → Prop} {w : World} {A : Option Addr} {l : List Cls} {j : Nat} {x : Cls} (h : At kCls S w A l) (hj : l[j]? = some x) :
    ∃ b off q, A = some ⟨b, off, none⟩ ∧ S b ∧ b < w.heap.size ∧ NineAt w b (off + j * 9) q ∧ q.co = x.2.1 ∧ q.pa = x.2.2.1 := by
  obtain ⟨b, off, vs, e, hs, hlt, hr, hc⟩ := h.get hj
  obtain ⟨u0, r0, e0, h0, hr⟩ := hr
  obtain ⟨u1, r1, e1, h1, hr⟩ := hr
  obtain ⟨u2, r2, e2, h2, hr⟩ := hr
  obtain ⟨u3, r3, e3, h3, hr⟩ := hr
  obtain ⟨u4, r4, e4, h4, hr⟩ := hr
  obtain ⟨u5, r5, e5, h5, hr⟩ := hr
  obtain ⟨u6, r6, e6, h6, hr⟩ := hr
  obtain ⟨u7, u8, e7, h7, h8⟩ := hr
  obtain ⟨A4, c4, rfl, -, -⟩ := h4
  obtain ⟨A6, c6, rfl, -, -⟩ := h6
  obtain ⟨A7, c7, rfl, -, -⟩ := h7
  obtain ⟨A8, c8, rfl, -, -⟩ := h8
  have h0 : u0 = [.string x.1] := h0
  have h1 : u1 = [.string x.2.1] := h1
  have h2 : u2 = [.string x.2.2.1] := h2
  have h3 : u3 = [.int .i64 x.2.2.2.1] := h3
  have h5 : u5 = [.int .i64 x.2.2.2.2.2.1] := h5
  subst h0 h1 h2 h3 h5 e7 e6 e5 e4 e3 e2 e1 e0
  have hk : ∀ i u, ([Value.string x.1, .string x.2.1, .string x.2.2.1, .int .i64 x.2.2.2.1, .slice A4 x.2.2.2.2.1.length c4, .int .i64 x.2.2.2.2.2.1, .slice A6 x.2.2.2.2.2.2.1.length c6, .slice A7 x.2.2.2.2.2.2.2.1.length c7, .slice A8 x.2.2.2.2.2.2.2.2.length c8] : List Value)[i]? = some u → w.cell? ⟨b, off + j * 9 + i, none⟩ = some u := hc
  exact ⟨b, off, ⟨x.1, x.2.1, x.2.2.1, x.2.2.2.1, A4, x.2.2.2.2.1.length, c4, x.2.2.2.2.2.1, A6, x.2.2.2.2.2.2.1.length, c6, A7, x.2.2.2.2.2.2.2.1.length, c7, A8, x.2.2.2.2.2.2.2.2.length, c8⟩, e, hs, hlt,
    ⟨hk 0 _ rfl, hk 1 _ rfl, hk 2 _ rfl, hk 3 _ rfl, hk 4 _ rfl, hk 5 _ rfl, hk 6 _ rfl, hk 7 _ rfl, hk 8 _ rfl⟩, rfl, rfl⟩
theorem toList_noP {X Y : ByteArray} (h : ¬ X = Y) : (X.toList == Y.toList) = false := toList_no fun e => h (dat_inj e)
def Nine.val (q : Nine) : Value := .agg #[.string q.z, .string q.co, .string q.pa, .int .i64 q.n, .slice q.A4 q.n4 q.c4, .int .i64 q.m, .slice q.A6 q.n6 q.c6, .slice q.A7 q.n7 q.c7, .slice q.A8 q.n8 q.c8]
-- <par>
set_option maxHeartbeats 4000000 in
theorem cpar_walk (q r : Nine) (w : World) :
    Calls Tryz.prog 45 #[q.val, r.val] w fun e w' => e = .returned (.bool (decide (q.co = r.co ∧ q.pa = r.pa))) ∧ Below w.heap.size w w' := by
  obtain ⟨z, co, pa, n, A4, n4, c4, m, A6, n6, c6, A7, n7, c7, A8, n8, c8⟩ := q
  obtain ⟨z', co', pa', n', A4', n4', c4', m', A6', n6', c6', A7', n7', c7', A8', n8', c8'⟩ := r
  unfold Nine.val
  dsimp only
  by_cases h1 : co = co'
  · subst h1
    by_cases h2 : pa = pa'
    · subst h2
      rw [decide_eq_true ⟨rfl, rfl⟩]
      go_enter Tryz.func45, Tryz.ntmps45
      go_wp2
      go_ret
      exact ⟨rfl, (by repeat (first | exact Below.refl _ _ | refine ext_alloc ?_ _ | refine ext_drewN ?_ _ | refine ext_drew ?_ | refine ext_trans ?_ (by assumption)))⟩
    · rw [decide_eq_false fun h => h2 h.2]
      have hne := toList_noP h2
      clear h2
      go_enter Tryz.func45, Tryz.ntmps45
      go_wp2
      go_ret
      exact ⟨rfl, (by repeat (first | exact Below.refl _ _ | refine ext_alloc ?_ _ | refine ext_drewN ?_ _ | refine ext_drew ?_ | refine ext_trans ?_ (by assumption)))⟩
  · rw [decide_eq_false fun h => h1 h.1]
    have hne := toList_noP h1
    clear h1
    go_enter Tryz.func45, Tryz.ntmps45
    go_wp2
    go_ret
    exact ⟨rfl, (by repeat (first | exact Below.refl _ _ | refine ext_alloc ?_ _ | refine ext_drewN ?_ _ | refine ext_drew ?_ | refine ext_trans ?_ (by assumption)))⟩
-- </par>
set_option maxHeartbeats 4000000 in
theorem r10par_walk (q r : Nine) (w : World) :
    Calls Tryz.prog 13 #[q.val, r.val] w fun e w' => e = .returned (.bool (decide (q.co = r.co ∧ q.pa = r.pa))) ∧ Below w.heap.size w w' := by
  obtain ⟨z, co, pa, n, A4, n4, c4, m, A6, n6, c6, A7, n7, c7, A8, n8, c8⟩ := q
  obtain ⟨z', co', pa', n', A4', n4', c4', m', A6', n6', c6', A7', n7', c7', A8', n8', c8'⟩ := r
  unfold Nine.val
  dsimp only
  by_cases h1 : co = co'
  · subst h1
    by_cases h2 : pa = pa'
    · subst h2
      rw [decide_eq_true ⟨rfl, rfl⟩]
      go_enter Tryz.func13, Tryz.ntmps13
      go_wp2
      go_ret
      exact ⟨rfl, (by repeat (first | exact Below.refl _ _ | refine ext_alloc ?_ _ | refine ext_drewN ?_ _ | refine ext_drew ?_ | refine ext_trans ?_ (by assumption)))⟩
    · rw [decide_eq_false fun h => h2 h.2]
      have hne := toList_noP h2
      clear h2
      go_enter Tryz.func13, Tryz.ntmps13
      go_wp2
      go_ret
      exact ⟨rfl, (by repeat (first | exact Below.refl _ _ | refine ext_alloc ?_ _ | refine ext_drewN ?_ _ | refine ext_drew ?_ | refine ext_trans ?_ (by assumption)))⟩
  · rw [decide_eq_false fun h => h1 h.1]
    have hne := toList_noP h1
    clear h1
    go_enter Tryz.func13, Tryz.ntmps13
    go_wp2
    go_ret
    exact ⟨rfl, (by repeat (first | exact Below.refl _ _ | refine ext_alloc ?_ _ | refine ext_drewN ?_ _ | refine ext_drew ?_ | refine ext_trans ?_ (by assumption)))⟩

end Go.Proofs.YtonpfohhedcjbaaGreatDoor

namespace Go.Proofs.YtonpfohhedcjbaaGreatDoor
open Go.RowKit
set_option maxRecDepth 100000

abbrev Cn18 (b1 o1 : Nat) (v1 : Value) (b2 o2 : Nat) (v2 : Value) (b3 o3 : Nat) (v3 : Value) (b4 o4 : Nat) (v4 : Value) (b5 o5 : Nat) (v5 : Value) (b6 o6 : Nat) (v6 : Value) (b7 o7 : Nat) (v7 : Value) (b8 o8 : Nat) (v8 : Value) (b9 o9 : Nat) (v9 : Value) (b10 o10 : Nat) (v10 : Value) (b11 o11 : Nat) (v11 : Value) (b12 o12 : Nat) (v12 : Value) (b13 o13 : Nat) (v13 : Value) (b14 o14 : Nat) (v14 : Value) (b15 o15 : Nat) (v15 : Value) (b16 o16 : Nat) (v16 : Value) (b17 o17 : Nat) (v17 : Value) (b18 o18 : Nat) (v18 : Value) (W : World) : Prop := W.cell? ⟨b1, o1, none⟩ = some v1 ∧ W.cell? ⟨b2, o2, none⟩ = some v2 ∧ W.cell? ⟨b3, o3, none⟩ = some v3 ∧ W.cell? ⟨b4, o4, none⟩ = some v4 ∧ W.cell? ⟨b5, o5, none⟩ = some v5 ∧ W.cell? ⟨b6, o6, none⟩ = some v6 ∧ W.cell? ⟨b7, o7, none⟩ = some v7 ∧ W.cell? ⟨b8, o8, none⟩ = some v8 ∧ W.cell? ⟨b9, o9, none⟩ = some v9 ∧ W.cell? ⟨b10, o10, none⟩ = some v10 ∧ W.cell? ⟨b11, o11, none⟩ = some v11 ∧ W.cell? ⟨b12, o12, none⟩ = some v12 ∧ W.cell? ⟨b13, o13, none⟩ = some v13 ∧ W.cell? ⟨b14, o14, none⟩ = some v14 ∧ W.cell? ⟨b15, o15, none⟩ = some v15 ∧ W.cell? ⟨b16, o16, none⟩ = some v16 ∧ W.cell? ⟨b17, o17, none⟩ = some v17 ∧ W.cell? ⟨b18, o18, none⟩ = some v18
section
variable {b1 o1 b2 o2 b3 o3 b4 o4 b5 o5 b6 o6 b7 o7 b8 o8 b9 o9 b10 o10 b11 o11 b12 o12 b13 o13 b14 o14 b15 o15 b16 o16 b17 o17 b18 o18 : Nat} {v1 v2 v3 v4 v5 v6 v7 v8 v9 v10 v11 v12 v13 v14 v15 v16 v17 v18 : Value} {W W' : World}
theorem Cn18.later (h : Cn18 b1 o1 v1 b2 o2 v2 b3 o3 v3 b4 o4 v4 b5 o5 v5 b6 o6 v6 b7 o7 v7 b8 o8 v8 b9 o9 v9 b10 o10 v10 b11 o11 v11 b12 o12 v12 b13 o13 v13 b14 o14 v14 b15 o15 v15 b16 o16 v16 b17 o17 v17 b18 o18 v18 W) (hb : Below W.heap.size W W') : Cn18 b1 o1 v1 b2 o2 v2 b3 o3 v3 b4 o4 v4 b5 o5 v5 b6 o6 v6 b7 o7 v7 b8 o8 v8 b9 o9 v9 b10 o10 v10 b11 o11 v11 b12 o12 v12 b13 o13 v13 b14 o14 v14 b15 o15 v15 b16 o16 v16 b17 o17 v17 b18 o18 v18 W' := ⟨cell_later hb h.1, cell_later hb h.2.1, cell_later hb h.2.2.1, cell_later hb h.2.2.2.1, cell_later hb h.2.2.2.2.1, cell_later hb h.2.2.2.2.2.1, cell_later hb h.2.2.2.2.2.2.1, cell_later hb h.2.2.2.2.2.2.2.1, cell_later hb h.2.2.2.2.2.2.2.2.1, cell_later hb h.2.2.2.2.2.2.2.2.2.1, cell_later hb h.2.2.2.2.2.2.2.2.2.2.1, cell_later hb h.2.2.2.2.2.2.2.2.2.2.2.1, cell_later hb h.2.2.2.2.2.2.2.2.2.2.2.2.1, cell_later hb h.2.2.2.2.2.2.2.2.2.2.2.2.2.1, cell_later hb h.2.2.2.2.2.2.2.2.2.2.2.2.2.2.1, cell_later hb h.2.2.2.2.2.2.2.2.2.2.2.2.2.2.2.1, cell_later hb h.2.2.2.2.2.2.2.2.2.2.2.2.2.2.2.2.1, cell_later hb h.2.2.2.2.2.2.2.2.2.2.2.2.2.2.2.2.2⟩
theorem Cn18.alloc (h : Cn18 b1 o1 v1 b2 o2 v2 b3 o3 v3 b4 o4 v4 b5 o5 v5 b6 o6 v6 b7 o7 v7 b8 o8 v8 b9 o9 v9 b10 o10 v10 b11 o11 v11 b12 o12 v12 b13 o13 v13 b14 o14 v14 b15 o15 v15 b16 o16 v16 b17 o17 v17 b18 o18 v18 W) (o : Obj) : Cn18 b1 o1 v1 b2 o2 v2 b3 o3 v3 b4 o4 v4 b5 o5 v5 b6 o6 v6 b7 o7 v7 b8 o8 v8 b9 o9 v9 b10 o10 v10 b11 o11 v11 b12 o12 v12 b13 o13 v13 b14 o14 v14 b15 o15 v15 b16 o16 v16 b17 o17 v17 b18 o18 v18 (W.alloc o) := ⟨cell_alloc_of h.1 o, cell_alloc_of h.2.1 o, cell_alloc_of h.2.2.1 o, cell_alloc_of h.2.2.2.1 o, cell_alloc_of h.2.2.2.2.1 o, cell_alloc_of h.2.2.2.2.2.1 o, cell_alloc_of h.2.2.2.2.2.2.1 o, cell_alloc_of h.2.2.2.2.2.2.2.1 o, cell_alloc_of h.2.2.2.2.2.2.2.2.1 o, cell_alloc_of h.2.2.2.2.2.2.2.2.2.1 o, cell_alloc_of h.2.2.2.2.2.2.2.2.2.2.1 o, cell_alloc_of h.2.2.2.2.2.2.2.2.2.2.2.1 o, cell_alloc_of h.2.2.2.2.2.2.2.2.2.2.2.2.1 o, cell_alloc_of h.2.2.2.2.2.2.2.2.2.2.2.2.2.1 o, cell_alloc_of h.2.2.2.2.2.2.2.2.2.2.2.2.2.2.1 o, cell_alloc_of h.2.2.2.2.2.2.2.2.2.2.2.2.2.2.2.1 o, cell_alloc_of h.2.2.2.2.2.2.2.2.2.2.2.2.2.2.2.2.1 o, cell_alloc_of h.2.2.2.2.2.2.2.2.2.2.2.2.2.2.2.2.2 o⟩
theorem Cn18.drew (h : Cn18 b1 o1 v1 b2 o2 v2 b3 o3 v3 b4 o4 v4 b5 o5 v5 b6 o6 v6 b7 o7 v7 b8 o8 v8 b9 o9 v9 b10 o10 v10 b11 o11 v11 b12 o12 v12 b13 o13 v13 b14 o14 v14 b15 o15 v15 b16 o16 v16 b17 o17 v17 b18 o18 v18 W) : Cn18 b1 o1 v1 b2 o2 v2 b3 o3 v3 b4 o4 v4 b5 o5 v5 b6 o6 v6 b7 o7 v7 b8 o8 v8 b9 o9 v9 b10 o10 v10 b11 o11 v11 b12 o12 v12 b13 o13 v13 b14 o14 v14 b15 o15 v15 b16 o16 v16 b17 o17 v17 b18 o18 v18 W.drew := h
theorem Cn18.set {c i : Nat} (h : Cn18 b1 o1 v1 b2 o2 v2 b3 o3 v3 b4 o4 v4 b5 o5 v5 b6 o6 v6 b7 o7 v7 b8 o8 v8 b9 o9 v9 b10 o10 v10 b11 o11 v11 b12 o12 v12 b13 o13 v13 b14 o14 v14 b15 o15 v15 b16 o16 v16 b17 o17 v17 b18 o18 v18 W) (h1 : b1 ≠ c) (h2 : b2 ≠ c) (h3 : b3 ≠ c) (h4 : b4 ≠ c) (h5 : b5 ≠ c) (h6 : b6 ≠ c) (h7 : b7 ≠ c) (h8 : b8 ≠ c) (h9 : b9 ≠ c) (h10 : b10 ≠ c) (h11 : b11 ≠ c) (h12 : b12 ≠ c) (h13 : b13 ≠ c) (h14 : b14 ≠ c) (h15 : b15 ≠ c) (h16 : b16 ≠ c) (h17 : b17 ≠ c) (h18 : b18 ≠ c) (u : Value) : Cn18 b1 o1 v1 b2 o2 v2 b3 o3 v3 b4 o4 v4 b5 o5 v5 b6 o6 v6 b7 o7 v7 b8 o8 v8 b9 o9 v9 b10 o10 v10 b11 o11 v11 b12 o12 v12 b13 o13 v13 b14 o14 v14 b15 o15 v15 b16 o16 v16 b17 o17 v17 b18 o18 v18 (W.setCell ⟨c, i, none⟩ u) := ⟨cell_set_other h.1 h1 u, cell_set_other h.2.1 h2 u, cell_set_other h.2.2.1 h3 u, cell_set_other h.2.2.2.1 h4 u, cell_set_other h.2.2.2.2.1 h5 u, cell_set_other h.2.2.2.2.2.1 h6 u, cell_set_other h.2.2.2.2.2.2.1 h7 u, cell_set_other h.2.2.2.2.2.2.2.1 h8 u, cell_set_other h.2.2.2.2.2.2.2.2.1 h9 u, cell_set_other h.2.2.2.2.2.2.2.2.2.1 h10 u, cell_set_other h.2.2.2.2.2.2.2.2.2.2.1 h11 u, cell_set_other h.2.2.2.2.2.2.2.2.2.2.2.1 h12 u, cell_set_other h.2.2.2.2.2.2.2.2.2.2.2.2.1 h13 u, cell_set_other h.2.2.2.2.2.2.2.2.2.2.2.2.2.1 h14 u, cell_set_other h.2.2.2.2.2.2.2.2.2.2.2.2.2.2.1 h15 u, cell_set_other h.2.2.2.2.2.2.2.2.2.2.2.2.2.2.2.1 h16 u, cell_set_other h.2.2.2.2.2.2.2.2.2.2.2.2.2.2.2.2.1 h17 u, cell_set_other h.2.2.2.2.2.2.2.2.2.2.2.2.2.2.2.2.2 h18 u⟩
theorem Cn18.grown {x : Value} (h : Cn18 b1 o1 v1 b2 o2 v2 b3 o3 v3 b4 o4 v4 b5 o5 v5 b6 o6 v6 b7 o7 v7 b8 o8 v8 b9 o9 v9 b10 o10 v10 b11 o11 v11 b12 o12 v12 b13 o13 v13 b14 o14 v14 b15 o15 v15 b16 o16 v16 b17 o17 v17 b18 o18 v18 W) (hg : W.grownBy W' x.ownBlock) (h1 : some b1 ≠ x.ownBlock) (h2 : some b2 ≠ x.ownBlock) (h3 : some b3 ≠ x.ownBlock) (h4 : some b4 ≠ x.ownBlock) (h5 : some b5 ≠ x.ownBlock) (h6 : some b6 ≠ x.ownBlock) (h7 : some b7 ≠ x.ownBlock) (h8 : some b8 ≠ x.ownBlock) (h9 : some b9 ≠ x.ownBlock) (h10 : some b10 ≠ x.ownBlock) (h11 : some b11 ≠ x.ownBlock) (h12 : some b12 ≠ x.ownBlock) (h13 : some b13 ≠ x.ownBlock) (h14 : some b14 ≠ x.ownBlock) (h15 : some b15 ≠ x.ownBlock) (h16 : some b16 ≠ x.ownBlock) (h17 : some b17 ≠ x.ownBlock) (h18 : some b18 ≠ x.ownBlock) : Cn18 b1 o1 v1 b2 o2 v2 b3 o3 v3 b4 o4 v4 b5 o5 v5 b6 o6 v6 b7 o7 v7 b8 o8 v8 b9 o9 v9 b10 o10 v10 b11 o11 v11 b12 o12 v12 b13 o13 v13 b14 o14 v14 b15 o15 v15 b16 o16 v16 b17 o17 v17 b18 o18 v18 W' := ⟨cell_grown h.1 hg h1, cell_grown h.2.1 hg h2, cell_grown h.2.2.1 hg h3, cell_grown h.2.2.2.1 hg h4, cell_grown h.2.2.2.2.1 hg h5, cell_grown h.2.2.2.2.2.1 hg h6, cell_grown h.2.2.2.2.2.2.1 hg h7, cell_grown h.2.2.2.2.2.2.2.1 hg h8, cell_grown h.2.2.2.2.2.2.2.2.1 hg h9, cell_grown h.2.2.2.2.2.2.2.2.2.1 hg h10, cell_grown h.2.2.2.2.2.2.2.2.2.2.1 hg h11, cell_grown h.2.2.2.2.2.2.2.2.2.2.2.1 hg h12, cell_grown h.2.2.2.2.2.2.2.2.2.2.2.2.1 hg h13, cell_grown h.2.2.2.2.2.2.2.2.2.2.2.2.2.1 hg h14, cell_grown h.2.2.2.2.2.2.2.2.2.2.2.2.2.2.1 hg h15, cell_grown h.2.2.2.2.2.2.2.2.2.2.2.2.2.2.2.1 hg h16, cell_grown h.2.2.2.2.2.2.2.2.2.2.2.2.2.2.2.2.1 hg h17, cell_grown h.2.2.2.2.2.2.2.2.2.2.2.2.2.2.2.2.2 hg h18⟩
theorem Cn18.only {g : Nat} (h : Cn18 b1 o1 v1 b2 o2 v2 b3 o3 v3 b4 o4 v4 b5 o5 v5 b6 o6 v6 b7 o7 v7 b8 o8 v8 b9 o9 v9 b10 o10 v10 b11 o11 v11 b12 o12 v12 b13 o13 v13 b14 o14 v14 b15 o15 v15 b16 o16 v16 b17 o17 v17 b18 o18 v18 W) (hg : Only g W W') (h1 : b1 ≠ g) (h2 : b2 ≠ g) (h3 : b3 ≠ g) (h4 : b4 ≠ g) (h5 : b5 ≠ g) (h6 : b6 ≠ g) (h7 : b7 ≠ g) (h8 : b8 ≠ g) (h9 : b9 ≠ g) (h10 : b10 ≠ g) (h11 : b11 ≠ g) (h12 : b12 ≠ g) (h13 : b13 ≠ g) (h14 : b14 ≠ g) (h15 : b15 ≠ g) (h16 : b16 ≠ g) (h17 : b17 ≠ g) (h18 : b18 ≠ g) : Cn18 b1 o1 v1 b2 o2 v2 b3 o3 v3 b4 o4 v4 b5 o5 v5 b6 o6 v6 b7 o7 v7 b8 o8 v8 b9 o9 v9 b10 o10 v10 b11 o11 v11 b12 o12 v12 b13 o13 v13 b14 o14 v14 b15 o15 v15 b16 o16 v16 b17 o17 v17 b18 o18 v18 W' := ⟨cell_only h.1 hg h1, cell_only h.2.1 hg h2, cell_only h.2.2.1 hg h3, cell_only h.2.2.2.1 hg h4, cell_only h.2.2.2.2.1 hg h5, cell_only h.2.2.2.2.2.1 hg h6, cell_only h.2.2.2.2.2.2.1 hg h7, cell_only h.2.2.2.2.2.2.2.1 hg h8, cell_only h.2.2.2.2.2.2.2.2.1 hg h9, cell_only h.2.2.2.2.2.2.2.2.2.1 hg h10, cell_only h.2.2.2.2.2.2.2.2.2.2.1 hg h11, cell_only h.2.2.2.2.2.2.2.2.2.2.2.1 hg h12, cell_only h.2.2.2.2.2.2.2.2.2.2.2.2.1 hg h13, cell_only h.2.2.2.2.2.2.2.2.2.2.2.2.2.1 hg h14, cell_only h.2.2.2.2.2.2.2.2.2.2.2.2.2.2.1 hg h15, cell_only h.2.2.2.2.2.2.2.2.2.2.2.2.2.2.2.1 hg h16, cell_only h.2.2.2.2.2.2.2.2.2.2.2.2.2.2.2.2.1 hg h17, cell_only h.2.2.2.2.2.2.2.2.2.2.2.2.2.2.2.2.2 hg h18⟩
end
end Go.Proofs.YtonpfohhedcjbaaGreatDoor

namespace Go.Proofs.YtonpfohhedcjbaaGreatDoor
open Go.RowKit
set_option maxRecDepth 100000

/-- Is no one of the first n classes, but class i, parallel to x. -/
def singTo (l : List Cls) (x : Cls) (i : Nat) : Nat → Bool
  | 0 => true
  | n + 1 => singTo l x i n && (decide (n = i) || !(match l[n]? with | some y => parB x y | none => false))
def singB (l : List Cls) (i : Nat) : Bool := match l[i]? with | some x => singTo l x i l.length | none => false
theorem nine_new (w : World) (r : Nine) (t : TypeId) : NineAt (w.alloc (.cells #[.string r.z, .string r.co, .string r.pa, .int .i64 r.n, .slice r.A4 r.n4 r.c4, .int .i64 r.m, .slice r.A6 r.n6 r.c6, .slice r.A7 r.n7 r.c7, .slice r.A8 r.n8 r.c8] t)) w.heap.size 0 r := by
  refine ⟨?_, ?_, ?_, ?_, ?_, ?_, ?_, ?_, ?_⟩ <;> simp
theorem singTo_false {l : List Cls} {x : Cls} {i k : Nat} (h : singTo l x i k = false) : ∀ n, k ≤ n → singTo l x i n = false
  | 0, hk => by
    have e : k = 0 := by omega
    rw [e] at h
    exact h
  | n + 1, hk => by
    by_cases e : k = n + 1
    · rw [← e]; exact h
    · rw [singTo, singTo_false h n (by omega), Bool.false_and]
set_option maxHeartbeats 8000000 in
theorem single_walk (A : Option Addr) (l : List Cls) (c i : Nat) (w : World) (hl : l.length ≤ 9223372036854775807) (hi : i < l.length) (hA : At kCls AnyB w A l) :
    Calls Tryz.prog 30 #[.slice A l.length c, .int .i64 i] w fun e w' => e = .returned (.bool (singB l i)) ∧ Below w.heap.size w w' := by
  obtain ⟨x, hx⟩ : ∃ x, l[i]? = some x := ⟨_, List.getElem?_eq_getElem hi⟩
  have hV : singB l i = singTo l x i l.length := by unfold singB; rw [hx]
  obtain ⟨V, hVV⟩ : ∃ V, singB l i = V := ⟨_, rfl⟩
  rw [hVV] at hV ⊢
  obtain ⟨b, off, q, rfl, -, hb, hq, hq1, hq2⟩ := hA.cls hx
  obtain ⟨N, hN⟩ : ∃ N, l.length = N := ⟨_, rfl⟩
  rw [hN] at hl hi hV ⊢
  replace hN := hide hN
  replace hV := hide hV
  replace hx := hide hx
  replace hq1 := hide hq1
  replace hq2 := hide hq2
  clear hVV
  go_enter Tryz.func30, Tryz.ntmps30
  go_wp2
  go_loopw [9] (fun v wr => ∃ j : Nat, j ≤ N ∧ v = .int .i64 j ∧ singTo l x i j = true ∧ Below w.heap.size w wr) (fun v _ => N - (intOf v).toNat)
  case atStart => exact ⟨0, Nat.zero_le _, rfl, rfl, Below.refl _ _⟩
  case round =>
    obtain ⟨j, hj, rfl, ho, hbw⟩ := hrel
    replace ho := hide ho
    by_cases hlt : j < N
    · obtain ⟨y, hy⟩ : ∃ y, l[j]? = some y := ⟨_, List.getElem?_eq_getElem (by rw [hN.out]; exact hlt)⟩
      obtain ⟨b', off', r, e', -, -, hr, hr1, hr2⟩ := hA.cls hy
      injection e' with e'
      injection e' with e1 e2
      subst e1 e2
      have hj0 : (0 : Int) ≤ (j : Int) := by omega
      have hj1 : (j : Int) < (N : Int) := by omega
      have hi0 : (0 : Int) ≤ (i : Int) := by omega
      have hi1 : (i : Int) < (N : Int) := by omega
      have hbr : b < wr.heap.size := Nat.lt_of_lt_of_le hb hbw.size
      obtain ⟨r0, r1, r2, r3, r4, r5, r6, r7, r8⟩ := hr.later hbw
      have hstep : singTo l x i (j + 1) = (decide (j = i) || !parB x y) := by rw [singTo, ho.out, hy]; rfl
      obtain ⟨q0, q1, q2, q3, q4, q5, q6, q7, q8⟩ := hq.later hbw
      have hWn := nine_new wr r 43
      have hbn : Below wr.heap.size wr (wr.alloc (.cells #[.string r.z, .string r.co, .string r.pa, .int .i64 r.n, .slice r.A4 r.n4 r.c4, .int .i64 r.m, .slice r.A6 r.n6 r.c6, .slice r.A7 r.n7 r.c7, .slice r.A8 r.n8 r.c8] 43)) := ext_alloc (Below.refl _ _) _
      have hqn := (hq.later hbw).later hbn
      have hbr5 : b < (wr.alloc (.cells #[.string r.z, .string r.co, .string r.pa, .int .i64 r.n, .slice r.A4 r.n4 r.c4, .int .i64 r.m, .slice r.A6 r.n6 r.c6, .slice r.A7 r.n7 r.c7, .slice r.A8 r.n8 r.c8] 43)).heap.size := by rw [World.size_alloc]; omega
      have hb5 := ext_trans hbw hbn
      by_cases hij : j = i
      · have hij2 : ((j : Int) != (i : Int)) = false := by simp; omega
        rw [decide_eq_true hij, Bool.true_or] at hstep
        replace hstep := hide hstep
        clear hWn hqn hq hr hr1 hr2 hA hy q0 q1 q2 q3 q4 q5 q6 q7 q8 hij
        go_upto_region 4 with fail
        go_region
        all_goals
          go_wp2_with fail
          go_roundw
          case rel => exact ⟨j + 1, by omega, by go_num, hstep.out, by first | exact hb5 | exact ext_drew hb5⟩
          case measure => simp [intOf]; omega
      · have hij2 : ((j : Int) != (i : Int)) = true := by simp; omega
        rw [decide_eq_false hij, Bool.false_or] at hstep
        have hcall : Hid (∀ U : World, Calls Tryz.prog 45 #[.agg #[.string q.z, .string q.co, .string q.pa, .int .i64 q.n, .slice q.A4 q.n4 q.c4, .int .i64 q.m, .slice q.A6 q.n6 q.c6, .slice q.A7 q.n7 q.c7, .slice q.A8 q.n8 q.c8], .agg #[.string r.z, .string r.co, .string r.pa, .int .i64 r.n, .slice r.A4 r.n4 r.c4, .int .i64 r.m, .slice r.A6 r.n6 r.c6, .slice r.A7 r.n7 r.c7, .slice r.A8 r.n8 r.c8]] U fun e w' => e = .returned (.bool (parB x y)) ∧ Below U.heap.size U w') := hide (fun U => by
          have := cpar_walk q r U
          unfold parB
          rw [← hq1.out, ← hq2.out, ← hr1, ← hr2]
          exact this)
        cases hp : parB x y with
        | true =>
          rw [hp] at hcall hstep
          have hVV : Hid (V = false) := hide (by rw [hV.out]; exact singTo_false (k := j + 1) hstep N (by omega))
          clear hp hstep hy hr hr1 hr2 hA hq hij q0 q1 q2 q3 q4 q5 q6 q7 q8
          go_upto_region 4 with fail
          generalize wr.heap.size = gx at *
          generalize wr.alloc _ = W5 at *
          obtain ⟨q0, q1, q2, q3, q4, q5, q6, q7, q8⟩ := hqn
          obtain ⟨n0, n1, n2, n3, n4, n5, n6, n7, n8⟩ := hWn
          have hSL : Cn18 b (off + i * 9) ((.string q.z)) b (off + i * 9 + 1) ((.string q.co)) b (off + i * 9 + 2) ((.string q.pa)) b (off + i * 9 + 3) ((.int .i64 q.n)) b (off + i * 9 + 4) ((.slice q.A4 q.n4 q.c4)) b (off + i * 9 + 5) ((.int .i64 q.m)) b (off + i * 9 + 6) ((.slice q.A6 q.n6 q.c6)) b (off + i * 9 + 7) ((.slice q.A7 q.n7 q.c7)) b (off + i * 9 + 8) ((.slice q.A8 q.n8 q.c8)) gx 0 ((.string r.z)) gx 1 ((.string r.co)) gx 2 ((.string r.pa)) gx 3 ((.int .i64 r.n)) gx 4 ((.slice r.A4 r.n4 r.c4)) gx 5 ((.int .i64 r.m)) gx 6 ((.slice r.A6 r.n6 r.c6)) gx 7 ((.slice r.A7 r.n7 r.c7)) gx 8 ((.slice r.A8 r.n8 r.c8)) W5 := ⟨q0, q1, q2, q3, q4, q5, q6, q7, q8, n0, n1, n2, n3, n4, n5, n6, n7, n8⟩
          have hSd := hSL.drew
          have hrefl := Below.refl W5.heap.size W5
          have hc := hide (fun (U : World) (hU : Below W5.heap.size W5 U) => (hcall.out U).mono fun e w' ⟨he, hb'⟩ => (⟨he, ext_trans hU hb', hSL.later (ext_trans hU hb')⟩ : e = Ending.returned (.bool true) ∧ Below W5.heap.size W5 w' ∧ Cn18 b (off + i * 9) ((.string q.z)) b (off + i * 9 + 1) ((.string q.co)) b (off + i * 9 + 2) ((.string q.pa)) b (off + i * 9 + 3) ((.int .i64 q.n)) b (off + i * 9 + 4) ((.slice q.A4 q.n4 q.c4)) b (off + i * 9 + 5) ((.int .i64 q.m)) b (off + i * 9 + 6) ((.slice q.A6 q.n6 q.c6)) b (off + i * 9 + 7) ((.slice q.A7 q.n7 q.c7)) b (off + i * 9 + 8) ((.slice q.A8 q.n8 q.c8)) gx 0 ((.string r.z)) gx 1 ((.string r.co)) gx 2 ((.string r.pa)) gx 3 ((.int .i64 r.n)) gx 4 ((.slice r.A4 r.n4 r.c4)) gx 5 ((.int .i64 r.m)) gx 6 ((.slice r.A6 r.n6 r.c6)) gx 7 ((.slice r.A7 r.n7 r.c7)) gx 8 ((.slice r.A8 r.n8 r.c8)) w'))
          clear hcall
          go_region_held3 (fun W' => W'.cell? ⟨b, off + i * 9, none⟩ = some ((.string q.z)) ∧ W'.cell? ⟨b, off + i * 9 + 1, none⟩ = some ((.string q.co)) ∧ W'.cell? ⟨b, off + i * 9 + 2, none⟩ = some ((.string q.pa)) ∧ W'.cell? ⟨b, off + i * 9 + 3, none⟩ = some ((.int .i64 q.n)) ∧ W'.cell? ⟨b, off + i * 9 + 4, none⟩ = some ((.slice q.A4 q.n4 q.c4)) ∧ W'.cell? ⟨b, off + i * 9 + 5, none⟩ = some ((.int .i64 q.m)) ∧ W'.cell? ⟨b, off + i * 9 + 6, none⟩ = some ((.slice q.A6 q.n6 q.c6)) ∧ W'.cell? ⟨b, off + i * 9 + 7, none⟩ = some ((.slice q.A7 q.n7 q.c7)) ∧ W'.cell? ⟨b, off + i * 9 + 8, none⟩ = some ((.slice q.A8 q.n8 q.c8)) ∧ W'.cell? ⟨gx, 0, none⟩ = some ((.string r.z)) ∧ W'.cell? ⟨gx, 1, none⟩ = some ((.string r.co)) ∧ W'.cell? ⟨gx, 2, none⟩ = some ((.string r.pa)) ∧ W'.cell? ⟨gx, 3, none⟩ = some ((.int .i64 r.n)) ∧ W'.cell? ⟨gx, 4, none⟩ = some ((.slice r.A4 r.n4 r.c4)) ∧ W'.cell? ⟨gx, 5, none⟩ = some ((.int .i64 r.m)) ∧ W'.cell? ⟨gx, 6, none⟩ = some ((.slice r.A6 r.n6 r.c6)) ∧ W'.cell? ⟨gx, 7, none⟩ = some ((.slice r.A7 r.n7 r.c7)) ∧ W'.cell? ⟨gx, 8, none⟩ = some ((.slice r.A8 r.n8 r.c8))) (first | ((repeat (first | (with_reducible assumption) | (with_reducible refine Cn18.alloc ?_ _) | (with_reducible refine Cn18.drew ?_) | (with_reducible refine Cn18.set ?_ ?_ ?_ ?_ ?_ ?_ ?_ ?_ ?_ ?_ ?_ ?_ ?_ ?_ ?_ ?_ ?_ ?_ ?_ _) | omega)); done)) (first | (go_at_call 45; (with_reducible refine (hc.out _ ?_).mono ?_); (repeat (first | (with_reducible assumption) | (with_reducible refine ext_alloc ?_ _) | (with_reducible refine ext_drew ?_))); rintro e w6 ⟨rfl, hb6, hx6⟩))
          all_goals
            go_wp2_with fail
            go_ret
            exact ⟨by rw [hVV.out]; rfl, ext_trans hb5 hb6⟩
        | false =>
          rw [hp] at hcall hstep
          replace hstep := hide hstep
          clear hp hy hr hr1 hr2 hA hq hij q0 q1 q2 q3 q4 q5 q6 q7 q8
          go_upto_region 4 with fail
          generalize wr.heap.size = gx at *
          generalize wr.alloc _ = W5 at *
          obtain ⟨q0, q1, q2, q3, q4, q5, q6, q7, q8⟩ := hqn
          obtain ⟨n0, n1, n2, n3, n4, n5, n6, n7, n8⟩ := hWn
          have hSL : Cn18 b (off + i * 9) ((.string q.z)) b (off + i * 9 + 1) ((.string q.co)) b (off + i * 9 + 2) ((.string q.pa)) b (off + i * 9 + 3) ((.int .i64 q.n)) b (off + i * 9 + 4) ((.slice q.A4 q.n4 q.c4)) b (off + i * 9 + 5) ((.int .i64 q.m)) b (off + i * 9 + 6) ((.slice q.A6 q.n6 q.c6)) b (off + i * 9 + 7) ((.slice q.A7 q.n7 q.c7)) b (off + i * 9 + 8) ((.slice q.A8 q.n8 q.c8)) gx 0 ((.string r.z)) gx 1 ((.string r.co)) gx 2 ((.string r.pa)) gx 3 ((.int .i64 r.n)) gx 4 ((.slice r.A4 r.n4 r.c4)) gx 5 ((.int .i64 r.m)) gx 6 ((.slice r.A6 r.n6 r.c6)) gx 7 ((.slice r.A7 r.n7 r.c7)) gx 8 ((.slice r.A8 r.n8 r.c8)) W5 := ⟨q0, q1, q2, q3, q4, q5, q6, q7, q8, n0, n1, n2, n3, n4, n5, n6, n7, n8⟩
          have hSd := hSL.drew
          have hrefl := Below.refl W5.heap.size W5
          have hc := hide (fun (U : World) (hU : Below W5.heap.size W5 U) => (hcall.out U).mono fun e w' ⟨he, hb'⟩ => (⟨he, ext_trans hU hb', hSL.later (ext_trans hU hb')⟩ : e = Ending.returned (.bool false) ∧ Below W5.heap.size W5 w' ∧ Cn18 b (off + i * 9) ((.string q.z)) b (off + i * 9 + 1) ((.string q.co)) b (off + i * 9 + 2) ((.string q.pa)) b (off + i * 9 + 3) ((.int .i64 q.n)) b (off + i * 9 + 4) ((.slice q.A4 q.n4 q.c4)) b (off + i * 9 + 5) ((.int .i64 q.m)) b (off + i * 9 + 6) ((.slice q.A6 q.n6 q.c6)) b (off + i * 9 + 7) ((.slice q.A7 q.n7 q.c7)) b (off + i * 9 + 8) ((.slice q.A8 q.n8 q.c8)) gx 0 ((.string r.z)) gx 1 ((.string r.co)) gx 2 ((.string r.pa)) gx 3 ((.int .i64 r.n)) gx 4 ((.slice r.A4 r.n4 r.c4)) gx 5 ((.int .i64 r.m)) gx 6 ((.slice r.A6 r.n6 r.c6)) gx 7 ((.slice r.A7 r.n7 r.c7)) gx 8 ((.slice r.A8 r.n8 r.c8)) w'))
          clear hcall
          go_region_held3 (fun W' => W'.cell? ⟨b, off + i * 9, none⟩ = some ((.string q.z)) ∧ W'.cell? ⟨b, off + i * 9 + 1, none⟩ = some ((.string q.co)) ∧ W'.cell? ⟨b, off + i * 9 + 2, none⟩ = some ((.string q.pa)) ∧ W'.cell? ⟨b, off + i * 9 + 3, none⟩ = some ((.int .i64 q.n)) ∧ W'.cell? ⟨b, off + i * 9 + 4, none⟩ = some ((.slice q.A4 q.n4 q.c4)) ∧ W'.cell? ⟨b, off + i * 9 + 5, none⟩ = some ((.int .i64 q.m)) ∧ W'.cell? ⟨b, off + i * 9 + 6, none⟩ = some ((.slice q.A6 q.n6 q.c6)) ∧ W'.cell? ⟨b, off + i * 9 + 7, none⟩ = some ((.slice q.A7 q.n7 q.c7)) ∧ W'.cell? ⟨b, off + i * 9 + 8, none⟩ = some ((.slice q.A8 q.n8 q.c8)) ∧ W'.cell? ⟨gx, 0, none⟩ = some ((.string r.z)) ∧ W'.cell? ⟨gx, 1, none⟩ = some ((.string r.co)) ∧ W'.cell? ⟨gx, 2, none⟩ = some ((.string r.pa)) ∧ W'.cell? ⟨gx, 3, none⟩ = some ((.int .i64 r.n)) ∧ W'.cell? ⟨gx, 4, none⟩ = some ((.slice r.A4 r.n4 r.c4)) ∧ W'.cell? ⟨gx, 5, none⟩ = some ((.int .i64 r.m)) ∧ W'.cell? ⟨gx, 6, none⟩ = some ((.slice r.A6 r.n6 r.c6)) ∧ W'.cell? ⟨gx, 7, none⟩ = some ((.slice r.A7 r.n7 r.c7)) ∧ W'.cell? ⟨gx, 8, none⟩ = some ((.slice r.A8 r.n8 r.c8))) (first | ((repeat (first | (with_reducible assumption) | (with_reducible refine Cn18.alloc ?_ _) | (with_reducible refine Cn18.drew ?_) | (with_reducible refine Cn18.set ?_ ?_ ?_ ?_ ?_ ?_ ?_ ?_ ?_ ?_ ?_ ?_ ?_ ?_ ?_ ?_ ?_ ?_ ?_ _) | omega)); done)) (first | (go_at_call 45; (with_reducible refine (hc.out _ ?_).mono ?_); (repeat (first | (with_reducible assumption) | (with_reducible refine ext_alloc ?_ _) | (with_reducible refine ext_drew ?_))); rintro e w6 ⟨rfl, hb6, hx6⟩))
          all_goals
            go_wp2_with fail
            go_roundw
            case rel => exact ⟨j + 1, by omega, by go_num, hstep.out, ext_trans hb5 hb6⟩
            case measure => simp [intOf]; omega
    · obtain rfl : j = N := by omega
      have hVV : Hid (V = true) := hide (by rw [hV.out]; exact ho.out)
      have hji : ¬ (j : Int) < (j : Int) := by omega
      clear hA hq
      go_wp2_with fail
      go_ret
      exact ⟨by rw [hVV.out]; rfl, hbw⟩
set_option maxHeartbeats 8000000 in
theorem r11single_walk (A : Option Addr) (l : List Cls) (c i : Nat) (w : World) (hl : l.length ≤ 9223372036854775807) (hi : i < l.length) (hA : At kCls AnyB w A l) :
    Calls Tryz.prog 14 #[.slice A l.length c, .int .i64 i] w fun e w' => e = .returned (.bool (singB l i)) ∧ Below w.heap.size w w' := by
  obtain ⟨x, hx⟩ : ∃ x, l[i]? = some x := ⟨_, List.getElem?_eq_getElem hi⟩
  have hV : singB l i = singTo l x i l.length := by unfold singB; rw [hx]
  obtain ⟨V, hVV⟩ : ∃ V, singB l i = V := ⟨_, rfl⟩
  rw [hVV] at hV ⊢
  obtain ⟨b, off, q, rfl, -, hb, hq, hq1, hq2⟩ := hA.cls hx
  obtain ⟨N, hN⟩ : ∃ N, l.length = N := ⟨_, rfl⟩
  rw [hN] at hl hi hV ⊢
  replace hN := hide hN
  replace hV := hide hV
  replace hx := hide hx
  replace hq1 := hide hq1
  replace hq2 := hide hq2
  clear hVV
  go_enter Tryz.func14, Tryz.ntmps14
  go_wp2
  go_loopw [5] (fun v wr => ∃ j : Nat, j ≤ N ∧ v = .int .i64 j ∧ singTo l x i j = true ∧ Below w.heap.size w wr) (fun v _ => N - (intOf v).toNat)
  case atStart => exact ⟨0, Nat.zero_le _, rfl, rfl, Below.refl _ _⟩
  case round =>
    obtain ⟨j, hj, rfl, ho, hbw⟩ := hrel
    replace ho := hide ho
    by_cases hlt : j < N
    · obtain ⟨y, hy⟩ : ∃ y, l[j]? = some y := ⟨_, List.getElem?_eq_getElem (by rw [hN.out]; exact hlt)⟩
      obtain ⟨b', off', r, e', -, -, hr, hr1, hr2⟩ := hA.cls hy
      injection e' with e'
      injection e' with e1 e2
      subst e1 e2
      have hj0 : (0 : Int) ≤ (j : Int) := by omega
      have hj1 : (j : Int) < (N : Int) := by omega
      have hi0 : (0 : Int) ≤ (i : Int) := by omega
      have hi1 : (i : Int) < (N : Int) := by omega
      have hbr : b < wr.heap.size := Nat.lt_of_lt_of_le hb hbw.size
      obtain ⟨r0, r1, r2, r3, r4, r5, r6, r7, r8⟩ := hr.later hbw
      have hstep : singTo l x i (j + 1) = (decide (j = i) || !parB x y) := by rw [singTo, ho.out, hy]; rfl
      obtain ⟨q0, q1, q2, q3, q4, q5, q6, q7, q8⟩ := hq.later hbw
      by_cases hij : j = i
      · have hij2 : ((j : Int) != (i : Int)) = false := by simp; omega
        rw [decide_eq_true hij, Bool.true_or] at hstep
        replace hstep := hide hstep
        clear hq hr hr1 hr2 hA hy q0 q1 q2 q3 q4 q5 q6 q7 q8 hij
        go_upto_region 4 with fail
        go_region
        all_goals
          go_wp2_with fail
          go_roundw
          case rel => exact ⟨j + 1, by omega, by go_num, hstep.out, by first | exact hbw | exact ext_drew hbw⟩
          case measure => simp [intOf]; omega
      · have hij2 : ((j : Int) != (i : Int)) = true := by simp; omega
        rw [decide_eq_false hij, Bool.false_or] at hstep
        have hcall : Hid (∀ U : World, Calls Tryz.prog 13 #[.agg #[.string q.z, .string q.co, .string q.pa, .int .i64 q.n, .slice q.A4 q.n4 q.c4, .int .i64 q.m, .slice q.A6 q.n6 q.c6, .slice q.A7 q.n7 q.c7, .slice q.A8 q.n8 q.c8], .agg #[.string r.z, .string r.co, .string r.pa, .int .i64 r.n, .slice r.A4 r.n4 r.c4, .int .i64 r.m, .slice r.A6 r.n6 r.c6, .slice r.A7 r.n7 r.c7, .slice r.A8 r.n8 r.c8]] U fun e w' => e = .returned (.bool (parB x y)) ∧ Below U.heap.size U w') := hide (fun U => by
          have := r10par_walk q r U
          unfold parB
          rw [← hq1.out, ← hq2.out, ← hr1, ← hr2]
          exact this)
        cases hp : parB x y with
        | true =>
          rw [hp] at hcall hstep
          have hVV : Hid (V = false) := hide (by rw [hV.out]; exact singTo_false (k := j + 1) hstep N (by omega))
          clear hp hstep hy hr hr1 hr2 hA hq hij
          have hSL : Cn18 b (off + i * 9) ((.string q.z)) b (off + i * 9 + 1) ((.string q.co)) b (off + i * 9 + 2) ((.string q.pa)) b (off + i * 9 + 3) ((.int .i64 q.n)) b (off + i * 9 + 4) ((.slice q.A4 q.n4 q.c4)) b (off + i * 9 + 5) ((.int .i64 q.m)) b (off + i * 9 + 6) ((.slice q.A6 q.n6 q.c6)) b (off + i * 9 + 7) ((.slice q.A7 q.n7 q.c7)) b (off + i * 9 + 8) ((.slice q.A8 q.n8 q.c8)) b (off + j * 9) ((.string r.z)) b (off + j * 9 + 1) ((.string r.co)) b (off + j * 9 + 2) ((.string r.pa)) b (off + j * 9 + 3) ((.int .i64 r.n)) b (off + j * 9 + 4) ((.slice r.A4 r.n4 r.c4)) b (off + j * 9 + 5) ((.int .i64 r.m)) b (off + j * 9 + 6) ((.slice r.A6 r.n6 r.c6)) b (off + j * 9 + 7) ((.slice r.A7 r.n7 r.c7)) b (off + j * 9 + 8) ((.slice r.A8 r.n8 r.c8)) wr := ⟨q0, q1, q2, q3, q4, q5, q6, q7, q8, r0, r1, r2, r3, r4, r5, r6, r7, r8⟩
          have hSd := hSL.drew
          have hrefl := Below.refl wr.heap.size wr
          have hc := hide (fun (U : World) (hU : Below wr.heap.size wr U) => (hcall.out U).mono fun e w' ⟨he, hb'⟩ => (⟨he, ext_trans hU hb', hSL.later (ext_trans hU hb')⟩ : e = Ending.returned (.bool true) ∧ Below wr.heap.size wr w' ∧ Cn18 b (off + i * 9) ((.string q.z)) b (off + i * 9 + 1) ((.string q.co)) b (off + i * 9 + 2) ((.string q.pa)) b (off + i * 9 + 3) ((.int .i64 q.n)) b (off + i * 9 + 4) ((.slice q.A4 q.n4 q.c4)) b (off + i * 9 + 5) ((.int .i64 q.m)) b (off + i * 9 + 6) ((.slice q.A6 q.n6 q.c6)) b (off + i * 9 + 7) ((.slice q.A7 q.n7 q.c7)) b (off + i * 9 + 8) ((.slice q.A8 q.n8 q.c8)) b (off + j * 9) ((.string r.z)) b (off + j * 9 + 1) ((.string r.co)) b (off + j * 9 + 2) ((.string r.pa)) b (off + j * 9 + 3) ((.int .i64 r.n)) b (off + j * 9 + 4) ((.slice r.A4 r.n4 r.c4)) b (off + j * 9 + 5) ((.int .i64 r.m)) b (off + j * 9 + 6) ((.slice r.A6 r.n6 r.c6)) b (off + j * 9 + 7) ((.slice r.A7 r.n7 r.c7)) b (off + j * 9 + 8) ((.slice r.A8 r.n8 r.c8)) w'))
          clear hcall
          go_upto_region 4 with fail
          go_region_held3 (fun W' => W'.cell? ⟨b, off + i * 9, none⟩ = some ((.string q.z)) ∧ W'.cell? ⟨b, off + i * 9 + 1, none⟩ = some ((.string q.co)) ∧ W'.cell? ⟨b, off + i * 9 + 2, none⟩ = some ((.string q.pa)) ∧ W'.cell? ⟨b, off + i * 9 + 3, none⟩ = some ((.int .i64 q.n)) ∧ W'.cell? ⟨b, off + i * 9 + 4, none⟩ = some ((.slice q.A4 q.n4 q.c4)) ∧ W'.cell? ⟨b, off + i * 9 + 5, none⟩ = some ((.int .i64 q.m)) ∧ W'.cell? ⟨b, off + i * 9 + 6, none⟩ = some ((.slice q.A6 q.n6 q.c6)) ∧ W'.cell? ⟨b, off + i * 9 + 7, none⟩ = some ((.slice q.A7 q.n7 q.c7)) ∧ W'.cell? ⟨b, off + i * 9 + 8, none⟩ = some ((.slice q.A8 q.n8 q.c8)) ∧ W'.cell? ⟨b, off + j * 9, none⟩ = some ((.string r.z)) ∧ W'.cell? ⟨b, off + j * 9 + 1, none⟩ = some ((.string r.co)) ∧ W'.cell? ⟨b, off + j * 9 + 2, none⟩ = some ((.string r.pa)) ∧ W'.cell? ⟨b, off + j * 9 + 3, none⟩ = some ((.int .i64 r.n)) ∧ W'.cell? ⟨b, off + j * 9 + 4, none⟩ = some ((.slice r.A4 r.n4 r.c4)) ∧ W'.cell? ⟨b, off + j * 9 + 5, none⟩ = some ((.int .i64 r.m)) ∧ W'.cell? ⟨b, off + j * 9 + 6, none⟩ = some ((.slice r.A6 r.n6 r.c6)) ∧ W'.cell? ⟨b, off + j * 9 + 7, none⟩ = some ((.slice r.A7 r.n7 r.c7)) ∧ W'.cell? ⟨b, off + j * 9 + 8, none⟩ = some ((.slice r.A8 r.n8 r.c8))) (first | ((repeat (first | (with_reducible assumption) | (with_reducible refine Cn18.alloc ?_ _) | (with_reducible refine Cn18.drew ?_) | (with_reducible refine Cn18.set ?_ ?_ ?_ ?_ ?_ ?_ ?_ ?_ ?_ ?_ ?_ ?_ ?_ ?_ ?_ ?_ ?_ ?_ ?_ _) | omega)); done)) (first | (go_at_call 13; (with_reducible refine (hc.out _ ?_).mono ?_); (repeat (first | (with_reducible assumption) | (with_reducible refine ext_alloc ?_ _) | (with_reducible refine ext_drew ?_))); rintro e w6 ⟨rfl, hb6, hx6⟩))
          all_goals
            go_wp2_with fail
            go_ret
            exact ⟨by rw [hVV.out]; rfl, ext_trans hbw hb6⟩
        | false =>
          rw [hp] at hcall hstep
          replace hstep := hide hstep
          clear hp hy hr hr1 hr2 hA hq hij
          have hSL : Cn18 b (off + i * 9) ((.string q.z)) b (off + i * 9 + 1) ((.string q.co)) b (off + i * 9 + 2) ((.string q.pa)) b (off + i * 9 + 3) ((.int .i64 q.n)) b (off + i * 9 + 4) ((.slice q.A4 q.n4 q.c4)) b (off + i * 9 + 5) ((.int .i64 q.m)) b (off + i * 9 + 6) ((.slice q.A6 q.n6 q.c6)) b (off + i * 9 + 7) ((.slice q.A7 q.n7 q.c7)) b (off + i * 9 + 8) ((.slice q.A8 q.n8 q.c8)) b (off + j * 9) ((.string r.z)) b (off + j * 9 + 1) ((.string r.co)) b (off + j * 9 + 2) ((.string r.pa)) b (off + j * 9 + 3) ((.int .i64 r.n)) b (off + j * 9 + 4) ((.slice r.A4 r.n4 r.c4)) b (off + j * 9 + 5) ((.int .i64 r.m)) b (off + j * 9 + 6) ((.slice r.A6 r.n6 r.c6)) b (off + j * 9 + 7) ((.slice r.A7 r.n7 r.c7)) b (off + j * 9 + 8) ((.slice r.A8 r.n8 r.c8)) wr := ⟨q0, q1, q2, q3, q4, q5, q6, q7, q8, r0, r1, r2, r3, r4, r5, r6, r7, r8⟩
          have hSd := hSL.drew
          have hrefl := Below.refl wr.heap.size wr
          have hc := hide (fun (U : World) (hU : Below wr.heap.size wr U) => (hcall.out U).mono fun e w' ⟨he, hb'⟩ => (⟨he, ext_trans hU hb', hSL.later (ext_trans hU hb')⟩ : e = Ending.returned (.bool false) ∧ Below wr.heap.size wr w' ∧ Cn18 b (off + i * 9) ((.string q.z)) b (off + i * 9 + 1) ((.string q.co)) b (off + i * 9 + 2) ((.string q.pa)) b (off + i * 9 + 3) ((.int .i64 q.n)) b (off + i * 9 + 4) ((.slice q.A4 q.n4 q.c4)) b (off + i * 9 + 5) ((.int .i64 q.m)) b (off + i * 9 + 6) ((.slice q.A6 q.n6 q.c6)) b (off + i * 9 + 7) ((.slice q.A7 q.n7 q.c7)) b (off + i * 9 + 8) ((.slice q.A8 q.n8 q.c8)) b (off + j * 9) ((.string r.z)) b (off + j * 9 + 1) ((.string r.co)) b (off + j * 9 + 2) ((.string r.pa)) b (off + j * 9 + 3) ((.int .i64 r.n)) b (off + j * 9 + 4) ((.slice r.A4 r.n4 r.c4)) b (off + j * 9 + 5) ((.int .i64 r.m)) b (off + j * 9 + 6) ((.slice r.A6 r.n6 r.c6)) b (off + j * 9 + 7) ((.slice r.A7 r.n7 r.c7)) b (off + j * 9 + 8) ((.slice r.A8 r.n8 r.c8)) w'))
          clear hcall
          go_upto_region 4 with fail
          go_region_held3 (fun W' => W'.cell? ⟨b, off + i * 9, none⟩ = some ((.string q.z)) ∧ W'.cell? ⟨b, off + i * 9 + 1, none⟩ = some ((.string q.co)) ∧ W'.cell? ⟨b, off + i * 9 + 2, none⟩ = some ((.string q.pa)) ∧ W'.cell? ⟨b, off + i * 9 + 3, none⟩ = some ((.int .i64 q.n)) ∧ W'.cell? ⟨b, off + i * 9 + 4, none⟩ = some ((.slice q.A4 q.n4 q.c4)) ∧ W'.cell? ⟨b, off + i * 9 + 5, none⟩ = some ((.int .i64 q.m)) ∧ W'.cell? ⟨b, off + i * 9 + 6, none⟩ = some ((.slice q.A6 q.n6 q.c6)) ∧ W'.cell? ⟨b, off + i * 9 + 7, none⟩ = some ((.slice q.A7 q.n7 q.c7)) ∧ W'.cell? ⟨b, off + i * 9 + 8, none⟩ = some ((.slice q.A8 q.n8 q.c8)) ∧ W'.cell? ⟨b, off + j * 9, none⟩ = some ((.string r.z)) ∧ W'.cell? ⟨b, off + j * 9 + 1, none⟩ = some ((.string r.co)) ∧ W'.cell? ⟨b, off + j * 9 + 2, none⟩ = some ((.string r.pa)) ∧ W'.cell? ⟨b, off + j * 9 + 3, none⟩ = some ((.int .i64 r.n)) ∧ W'.cell? ⟨b, off + j * 9 + 4, none⟩ = some ((.slice r.A4 r.n4 r.c4)) ∧ W'.cell? ⟨b, off + j * 9 + 5, none⟩ = some ((.int .i64 r.m)) ∧ W'.cell? ⟨b, off + j * 9 + 6, none⟩ = some ((.slice r.A6 r.n6 r.c6)) ∧ W'.cell? ⟨b, off + j * 9 + 7, none⟩ = some ((.slice r.A7 r.n7 r.c7)) ∧ W'.cell? ⟨b, off + j * 9 + 8, none⟩ = some ((.slice r.A8 r.n8 r.c8))) (first | ((repeat (first | (with_reducible assumption) | (with_reducible refine Cn18.alloc ?_ _) | (with_reducible refine Cn18.drew ?_) | (with_reducible refine Cn18.set ?_ ?_ ?_ ?_ ?_ ?_ ?_ ?_ ?_ ?_ ?_ ?_ ?_ ?_ ?_ ?_ ?_ ?_ ?_ _) | omega)); done)) (first | (go_at_call 13; (with_reducible refine (hc.out _ ?_).mono ?_); (repeat (first | (with_reducible assumption) | (with_reducible refine ext_alloc ?_ _) | (with_reducible refine ext_drew ?_))); rintro e w6 ⟨rfl, hb6, hx6⟩))
          all_goals
            go_wp2_with fail
            go_roundw
            case rel => exact ⟨j + 1, by omega, by go_num, hstep.out, ext_trans hbw hb6⟩
            case measure => simp [intOf]; omega
    · obtain rfl : j = N := by omega
      have hVV : Hid (V = true) := hide (by rw [hV.out]; exact ho.out)
      have hji : ¬ (j : Int) < (j : Int) := by omega
      clear hA hq
      go_wp2_with fail
      go_ret
      exact ⟨by rw [hVV.out]; rfl, hbw⟩
end Go.Proofs.YtonpfohhedcjbaaGreatDoor

namespace Go.Proofs.YtonpfohhedcjbaaGreatDoor
open Go.RowKit
set_option maxRecDepth 100000

def pairI (i k : Nat) : Int × Int := ((i : Int), (k : Int))
/-- Each with each later one. -/
def pairsL : List Nat → List (Int × Int)
  | [] => []
  | i :: r => r.map (pairI i) ++ pairsL r
/-- The same, where only those that are fit count. -/
def refL (ok : Nat → Bool) : List Nat → List (Int × Int)
  | [] => []
  | i :: r => (r.filter fun k => ok i && ok k).map (pairI i) ++ refL ok r
theorem refL_eq (ok : Nat → Bool) : ∀ l : List Nat, refL ok l = pairsL (l.filter ok)
  | [] => rfl
  | i :: r => by
    rw [refL, refL_eq ok r]
    cases h : ok i with
    | true => rw [List.filter_cons_of_pos h, pairsL]; simp only [Bool.true_and]
    | false => rw [List.filter_cons_of_neg (by rw [h]; simp)]; simp
/-- Is class i of the courses cs, and has it no parallel one. -/
def okC (cs : List ByteArray) (l : List Cls) (i : Nat) : Bool := match l[i]? with | some x => decide (0 ≤ idxS x.2.1 cs) && singB l i | none => false
def pairsV (cs : List ByteArray) (l : List Cls) : List (Int × Int) := pairsL ((List.range l.length).filter (okC cs l))
theorem range_drop {N i : Nat} (h : i < N) : (List.range N).drop i = i :: (List.range N).drop (i + 1) := by
  rw [List.drop_eq_getElem_cons (by simpa using h)]
  simp
theorem pairsL_len : ∀ l : List Nat, (pairsL l).length ≤ l.length * l.length
  | [] => Nat.le_refl _
  | i :: r => by
    rw [pairsL, List.length_append, List.length_map]
    have := pairsL_len r
    simp only [List.length_cons]
    have h2 : (r.length + 1) * (r.length + 1) = r.length * r.length + r.length + r.length + 1 := by
      rw [Nat.add_mul, Nat.mul_add]; omega
    omega
set_option maxHeartbeats 2000000 in
theorem r2has_walk (A : Option Addr) (xs : List ByteArray) (c : Nat) (z : ByteArray) (w : World) (hn : xs.length ≤ 9223372036854775807) (h : At kStr AnyB w A xs) :
    Calls Tryz.prog 47 #[.slice A xs.length c, .string z] w fun e w' => e = .returned (.bool (decide (0 ≤ idxS z xs))) ∧ w = w' := by
  obtain ⟨n, hnn⟩ : ∃ n, xs.length = n := ⟨_, rfl⟩
  rw [hnn] at hn ⊢
  replace hnn := hide hnn
  go_enter Tryz.func47, Tryz.ntmps47
  go_wp2
  go_loop [5] (fun i => ∃ j : Nat, j ≤ n ∧ i = .int .i64 j ∧ Hid (∀ y ∈ xs.take j, (y.toList == z.toList) = false)) (fun i => n - (intOf i).toNat)
  case atStart => exact ⟨0, Nat.zero_le _, rfl, hide (fun y hy => by simp at hy)⟩
  case round =>
    obtain ⟨j, hj, rfl, ho⟩ := hrel
    by_cases hlt : j < n
    · obtain ⟨x, hx⟩ : ∃ x, xs[j]? = some x := ⟨_, List.getElem?_eq_getElem (by rw [hnn.out]; exact hlt)⟩
      obtain ⟨b, off, rfl, -, hb, k0⟩ := h.str hx
      have hj0 : (0 : Int) ≤ (j : Int) := by omega
      have hj1 : (j : Int) < (n : Int) := by omega
      cases hq : (x.toList == z.toList) with
      | true =>
        have hit := hide (idxS_hit hx ho.out hq)
        clear hx h ho
        go_wp2
        go_ret
        exact ⟨ret_bool (by rw [hit.out]; simp), rfl⟩
      | false =>
        have miss := hide (take_miss hx ho.out hq)
        clear hx h ho
        go_wp2
        go_round
        case rel => exact ⟨j + 1, by omega, by go_num, miss⟩
        case measure => simp [intOf]; omega
    · obtain rfl : j = n := by omega
      have hall : Hid (idxS z xs = -1) := hide (idxS_none fun y hy => ho.out y (by rw [← hnn.out, List.take_length]; exact hy))
      go_wp2
      go_ret
      exact ⟨by rw [hall.out]; rfl, rfl⟩
end Go.Proofs.YtonpfohhedcjbaaGreatDoor

namespace Go.Proofs.YtonpfohhedcjbaaGreatDoor
open Go.RowKit
set_option maxRecDepth 100000

/-- A world that keeps all that w has. -/
structure Later (w : World) where
  val : World
  keeps : Below w.heap.size w val
theorem later_any (w : World) : Nonempty (Later w) := ⟨⟨w, Below.refl _ _⟩⟩
theorem wp_region_later {P : Program} {id : Nat} {Q : Exit → Act → World → Prop} {a : Act} {w : World} {l : List Oper} (hm : P.follows .mixedOrders = true) (hB : Region.lexB .any l.toArray = true)
    (h : wpQuiet P l.toArray (fun w' => ∃ n : Later w, w' = n.val) (fun a' => ∀ w', (∃ n : Later w, w' = n.val) → Q .normal a' w') l a) : (Code.region id l.toArray true).wp P Q a w :=
  wp_region_quiet (C := fun w' => ∃ n : Later w, w' = n.val) hm hB ⟨⟨w.drew, ext_drew (Below.refl _ _)⟩, rfl⟩ (by simpa using h)
theorem calls_later {P : Program} {f : FuncId} {args : Array Value} {w : World} {n : Later w} {v : Value} (h : Calls P f args n.val fun e w' => e = .returned v ∧ Below n.val.heap.size n.val w') :
    Calls P f args n.val fun e w'' => e = .returned v ∧ ∃ m : Later w, w'' = m.val := h.mono fun _ w' ⟨he, hb⟩ => ⟨he, ⟨w', ext_trans n.2 hb⟩, rfl⟩
theorem calls_same {P : Program} {f : FuncId} {args : Array Value} {w : World} {n : Later w} {v : Value} (h : Calls P f args n.val fun e w' => e = .returned v ∧ n.val = w') :
    Calls P f args n.val fun e w'' => e = .returned v ∧ ∃ m : Later w, w'' = m.val := h.mono fun _ _ ⟨he, hb⟩ => ⟨he, n, hb.symm⟩
end Go.Proofs.YtonpfohhedcjbaaGreatDoor

namespace Go.Proofs.YtonpfohhedcjbaaGreatDoor
open Go.RowKit
set_option maxRecDepth 100000

theorem apd_nums : Apd Tryz.prog 22 3 1 8 := apd Tryz.underlying22 (z := .int .i64 0) (by kernel_rfl) rfl
theorem apd_pairs : Apd Tryz.prog 37 39 2 16 := apd Tryz.underlying37 (z := .agg #[.int .i64 0, .int .i64 0]) (by kernel_rfl) rfl
theorem rep_pairI {S : Nat → Prop} {w : World} (i k : Nat) : kStart.rep S w (pairI i k) [.int .i64 i, .int .i64 k] := ⟨[_], [_], rfl, rfl, rfl⟩
def PairsIs (B : Nat) (P : List (Int × Int)) (w : World) (e : Ending) (w' : World) : Prop := ∃ v, e = .returned v ∧ Own kStart 39 [] 0 B w' v P ∧ Below w.heap.size w w'
def numsI (l : List Nat) : List Int := l.map fun (i : Nat) => (i : Int)
theorem filter_next {ok : Nat → Bool} {j : Nat} : (List.range (j + 1)).filter ok = (List.range j).filter ok ++ (if ok j = true then [j] else []) := by
  rw [List.range_succ, List.filter_append]
  congr 1
  by_cases h : ok j = true
  · rw [if_pos h, List.filter_cons_of_pos h]; rfl
  · rw [if_neg h, List.filter_cons_of_neg h]; rfl
set_option maxHeartbeats 8000000 in
theorem pairs_walk (z : ByteArray) (D : Option Addr) (cs : List ByteArray) (dc : Nat) (A : Option Addr) (l : List Cls) (c : Nat) (w : World) (hl : l.length ≤ 1000) (hcs : cs.length ≤ 9223372036854775807) (hD : At kStr AnyB w D cs) (hA : At kCls AnyB w A l) :
    Calls Tryz.prog 12 #[.agg #[.string z, .slice D cs.length dc], .slice A l.length c] w fun e w' => PairsIs w.heap.size (pairsV cs l) w e w' := by
  obtain ⟨P, hP⟩ : ∃ P, pairsV cs l = P := ⟨_, rfl⟩
  rw [hP]
  obtain ⟨N, hN⟩ : ∃ N, l.length = N := ⟨_, rfl⟩
  obtain ⟨C, hC⟩ : ∃ C, cs.length = C := ⟨_, rfl⟩
  have hb0 : Below w.heap.size w (w.alloc (.cells #[.string z, .slice D C dc] 36)) := ext_alloc (Below.refl _ _) _
  have b0 : (w.alloc (.cells #[.string z, .slice D C dc] 36)).cell? ⟨w.heap.size, 1, none⟩ = some (.slice D C dc) := by simp
  obtain ⟨g, hg⟩ : ∃ g, w.heap.size = g := ⟨_, rfl⟩
  obtain ⟨W, hW⟩ : ∃ W, w.alloc (.cells #[.string z, .slice D C dc] 36) = W := ⟨_, rfl⟩
  rw [hW] at hb0 b0
  rw [hg] at b0
  have hgW : g < W.heap.size := World.block_lt_of_cell? _ _ b0
  unfold pairsV at hP
  rw [hN] at hl hP ⊢
  rw [hC] at hcs ⊢
  have hDW := hD.later hb0
  have hAW := hA.later hb0
  replace hN := hide hN
  replace hC := hide hC
  replace hW := hide hW
  replace hP := hide hP
  replace hg := hide hg
  clear hD hA
  go_enter Tryz.func12, Tryz.ntmps12
  go_wp2_with fail
  rw [hW.out, hg.out]
  go_loopw [5, 15] (fun v5 v15 wr => ∃ j : Nat, j ≤ N ∧ v15 = .int .i64 j ∧ Own kInt 3 [] 0 W.heap.size wr v5 (numsI ((List.range j).filter (okC cs l))) ∧ Below W.heap.size W wr) (fun _ v15 _ => N - (intOf v15).toNat)
  case atStart => exact ⟨0, Nat.zero_le _, rfl, Own.nil, Below.refl _ _⟩
  case round =>
    obtain ⟨j, hj, rfl, hown, hb⟩ := hrel
    obtain ⟨A5, c5, rfl⟩ := hown.form
    by_cases hlt : j < N
    · obtain ⟨x, hx⟩ : ∃ x, l[j]? = some x := ⟨_, List.getElem?_eq_getElem (by rw [hN.out]; exact hlt)⟩
      obtain ⟨b, off, q, rfl, -, hbb, hq, hq1, -⟩ := hAW.cls hx
      obtain ⟨r0, r1, r2, r3, r4, r5, r6, r7, r8⟩ := hq.later hb
      have hj0 : (0 : Int) ≤ (j : Int) := by omega
      have hj1 : (j : Int) < (N : Int) := by omega
      have b1 := cell_later hb b0
      have hgr : g < wr.heap.size := Nat.lt_of_lt_of_le hgW hb.size
      have hok : okC cs l j = (decide (0 ≤ idxS x.2.1 cs) && singB l j) := by unfold okC; rw [hx]
      have hcon := hide (fun (U : World) (hU : Below wr.heap.size wr U) => scontains_walk D cs dc q.co U (by rw [hC.out]; omega) (hDW.later (ext_trans hb hU)))
      have hsin := hide (fun (U : World) (hU : Below wr.heap.size wr U) => single_walk (some ⟨b, off, none⟩) l c j U (by rw [hN.out]; omega) (by rw [hN.out]; exact hlt) (hAW.later (ext_trans hb hU)))
      rw [hC.out] at hcon
      rw [hN.out] at hsin
      rw [hq1] at hcon
      have hl5 : (numsI ((List.range j).filter (okC cs l))).length ≤ 2000 := by
        unfold numsI
        rw [List.length_map]
        have := List.length_filter_le (okC cs l) (List.range j)
        rw [List.length_range] at this
        omega
      obtain ⟨ms, hms⟩ : ∃ ms, numsI ((List.range j).filter (okC cs l)) = ms := ⟨_, rfl⟩
      have hnx : numsI ((List.range (j + 1)).filter (okC cs l)) = ms ++ (if okC cs l j = true then [(j : Int)] else []) := by
        rw [filter_next, ← hms]
        unfold numsI
        rw [List.map_append]
        by_cases h : okC cs l j = true
        · rw [if_pos h, if_pos h]; rfl
        · rw [if_neg h, if_neg h]; rfl
      rw [hms] at hown hl5 ⊢
      rw [hq1] at r1
      rw [hok] at hnx
      replace hnx := hide hnx
      clear hms hok hq hq1 hx
      have hbn : ∀ v : Value, Below wr.heap.size wr (wr.alloc (.cells #[.string q.z, .string x.2.1, .string q.pa, .int .i64 q.n, .slice q.A4 q.n4 q.c4, .int .i64 q.m, .slice q.A6 q.n6 q.c6, .slice q.A7 q.n7 q.c7, .slice q.A8 q.n8 q.c8] 43)) := fun _ => ext_alloc (Below.refl _ _) _
      replace hbn := hbn (.bool true)
      cases d1 : decide (0 ≤ idxS x.2.1 cs) with
      | false =>
        rw [d1] at hcon hnx
        have hn2 : Hid (numsI ((List.range (j + 1)).filter (okC cs l)) = ms) := hide (by rw [hnx.out]; simp)
        have hown2 := hown.later hbn
        clear d1 hown hsin hnx
        go_wp2_with (go_at_call 29; (with_reducible refine (hcon.out _ ?_).mono ?_); exact hbn; rintro e w6 ⟨rfl, rfl⟩)
        go_roundw
        case rel => exact ⟨j + 1, by omega, by go_num, by rw [hn2.out]; exact hown2, ext_trans hb hbn⟩
        case measure => simp [intOf]; omega
      | true =>
        rw [d1] at hcon hnx
        cases d2 : singB l j with
        | false =>
          rw [d2] at hsin hnx
          have hn2 : Hid (numsI ((List.range (j + 1)).filter (okC cs l)) = ms) := hide (by rw [hnx.out]; simp)
          have hown2 := hown.later hbn
          clear d1 d2 hown hnx
          go_wp2_with (first | (go_at_call 29; (with_reducible refine (hcon.out _ ?_).mono ?_); exact hbn; rintro e w6 ⟨rfl, rfl⟩) | (go_at_call 30; (with_reducible refine (hsin.out _ ?_).mono ?_); exact hbn; rintro e w7 ⟨rfl, hb7⟩))
          go_roundw
          case rel => exact ⟨j + 1, by omega, by go_num, by rw [hn2.out]; exact hown2.later hb7, ext_trans hb (ext_trans hbn hb7)⟩
          case measure => simp [intOf]; omega
        | true =>
          rw [d2] at hsin hnx
          have hn2 : Hid (numsI ((List.range (j + 1)).filter (okC cs l)) = ms ++ [(j : Int)]) := hide (by rw [hnx.out]; rfl)
          have hown2 := hown.later hbn
          clear d1 d2 hown hnx
          go_wp2_with (first | (go_at_call 29; (with_reducible refine (hcon.out _ ?_).mono ?_); exact hbn; rintro e w6 ⟨rfl, rfl⟩) | (go_at_call 30; (with_reducible refine (hsin.out _ ?_).mono ?_); exact hbn; rintro e w7 ⟨rfl, hb7⟩) | (at_builtin; refine wpList_own rfl _ _ rfl apd_nums (by decide) rfl ((hown2.later hb7).alloc _) ?d1 (by decide) ⟨w7.heap.size, 0, none⟩ 1 rfl (j : Int) [.int .i64 j] rfl (World.news_of_block (cs := #[.int .i64 j]) (t := 3) (fr := (0, 0)) (heap_alloc_new _ _)) (by decide) (Nat.zero_le _) ?d2 ?_))
          case d1 => omega
          case d2 => exact (ext_alloc (ext_trans hb (ext_trans hbn hb7)) _).size
          intro v8 w8 hown8 hgrow
          have hb8 := ((hown2.later hb7).alloc _).below_grown (ext_alloc (ext_trans hb (ext_trans hbn hb7)) _) (Nat.le_refl _) hgrow
          clear hgrow hown2
          go_wp2_with fail
          go_roundw
          case rel => exact ⟨j + 1, by omega, by go_num, by rw [hn2.out]; exact hown8, hb8⟩
          case measure => simp [intOf]; omega
    · obtain rfl : j = N := by omega
      obtain ⟨ns, hns⟩ : ∃ ns, (List.range j).filter (okC cs l) = ns := ⟨_, rfl⟩
      have hPn : pairsL ns = P := by rw [← hns]; exact hP.out
      have hM1 : ns.length ≤ 1000 := by
        rw [← hns]
        have := List.length_filter_le (okC cs l) (List.range j)
        rw [List.length_range] at this
        omega
      have hPl : P.length ≤ 1000000 := by
        rw [← hPn]
        exact Nat.le_trans (pairsL_len ns) (Nat.mul_le_mul hM1 hM1)
      rw [hns] at hown ⊢
      have hnl : (numsI ns).length = ns.length := List.length_map _
      rw [hnl] at hown ⊢
      obtain ⟨M, hM⟩ : ∃ M, ns.length = M := ⟨_, rfl⟩
      rw [hM] at hown hM1 ⊢
      obtain ⟨A6, c6, e6, hcap, hat⟩ := hown.any
      injection e6 with e1 e2 e3
      subst e1 e3
      clear e2
      rw [hnl, hM] at hcap
      have hget : ∀ (n i : Nat), ns[n]? = some i → (numsI ns)[n]? = some (i : Int) := fun n i h => by unfold numsI; rw [List.getElem?_map, h]; rfl
      have hbW := ext_trans hb0 hb
      have hzb := hbW.size
      rename World => wo
      replace hM := hide hM
      replace hPn := hide hPn
      replace hget := hide hget
      clear hns hnl hown hAW hDW hP hN hC hb b0 hb0 hj hlt
      go_wp2_with fail
      go_loopw [8, 37] (fun v8 v37 wr => ∃ (n : Nat) (done : List (Int × Int)), n ≤ M ∧ v37 = .int .i64 n ∧ Own kStart 39 [] 0 wo.heap.size wr v8 done ∧ done ++ pairsL (ns.drop n) = P ∧ Below wo.heap.size wo wr) (fun _ v37 _ => M - (intOf v37).toNat)
      case atStart => exact ⟨0, [], Nat.zero_le _, rfl, Own.nil, hPn.out, Below.refl _ _⟩
      case round =>
        obtain ⟨n, done, hn, rfl, hod, hdn, hb⟩ := hrel
        by_cases hlt : n < M
        · obtain ⟨i, hi⟩ : ∃ i, ns[n]? = some i := ⟨_, List.getElem?_eq_getElem (by rw [hM.out]; exact hlt)⟩
          obtain ⟨b, off, rfl, hbo, -, ki⟩ := hat.int (hget.out n i hi)
          have kir := cell_later hb ki
          have hbr : b < wr.heap.size := Nat.lt_of_lt_of_le hbo hb.size
          have hn0 : (0 : Int) ≤ (n : Int) := by omega
          have hn1 : (n : Int) < (M : Int) := by omega
          have hn2 : (n : Int) + 1 ≤ (M : Int) := by omega
          have hn3 : (n : Int) + 1 ≤ (c5 : Int) := by omega
          have hn4 : (0 : Int) ≤ (n : Int) + 1 := by omega
          have hnw : IntKind.i64.wrap ((n : Int) + 1) = (n : Int) + 1 := by rw [IntKind.wrap_i64]; omega
          have hdrop : ns.drop n = i :: ns.drop (n + 1) := by
            have hl := (List.getElem?_eq_some_iff.1 hi).1
            rw [List.drop_eq_getElem_cons hl]
            congr 1
            rw [List.getElem?_eq_getElem hl] at hi
            exact Option.some.inj hi
          rw [hdrop, pairsL] at hdn
          obtain ⟨rs, hrs⟩ : ∃ rs, ns.drop (n + 1) = rs := ⟨_, rfl⟩
          have hrl : rs.length = M - (n + 1) := by rw [← hrs, List.length_drop, hM.out]
          have hrg : ∀ (m k : Nat), rs[m]? = some k → wo.cell? ⟨b, off + (n + 1) + m, none⟩ = some (.int .i64 (k : Int)) := fun m k h => by
            rw [← hrs, List.getElem?_drop] at h
            obtain ⟨b', off', e', -, -, kk⟩ := hat.int (hget.out _ k h)
            injection e' with e'
            injection e' with e1 e2
            subst e1 e2
            rw [Nat.add_assoc]
            exact kk
          rw [hrs] at hdn
          replace hrg := hide hrg
          replace hrl := hide hrl
          replace hdn := hide hdn
          replace hrs := hide hrs
          clear hdrop hi ki
          rename World => wq
          by_cases hnM : n + 1 < M
          · have hce : ¬ c5 = n + 1 := by omega
            go_wp2_with fail
            go_loopw [8, 47] (fun v8 v47 wr => ∃ m : Nat, m ≤ M - (n + 1) ∧ v47 = .int .i64 m ∧ Own kStart 39 [] 0 wo.heap.size wr v8 (done ++ (rs.take m).map (pairI i)) ∧ Below wo.heap.size wo wr) (fun _ v47 _ => M - (n + 1) - (intOf v47).toNat)
            case atStart => exact ⟨0, Nat.zero_le _, rfl, by simpa using hod, hb⟩
            case round =>
              obtain ⟨m, hm, rfl, hodm, hbm⟩ := hrel
              by_cases hml : m < M - (n + 1)
              · obtain ⟨k, hk⟩ : ∃ k, rs[m]? = some k := ⟨_, List.getElem?_eq_getElem (by rw [hrl.out]; exact hml)⟩
                have kk := cell_later hbm (hrg.out m k hk)
                have hbr2 : b < wr.heap.size := Nat.lt_of_lt_of_le hbo hbm.size
                have hm0 : (0 : Int) ≤ (m : Int) := by omega
                have hm1 : (m : Int) < ((M - (n + 1) : Nat) : Int) := by omega
                have hxt : Hid (done ++ (rs.take m).map (pairI i) ++ [pairI i k] = done ++ (rs.take (m + 1)).map (pairI i)) := hide (by
                  rw [List.take_add_one, hk, List.map_append, List.append_assoc]; rfl)
                have hlen : (done ++ (rs.take m).map (pairI i)).length ≤ 2000000 := by
                  have h1 := congrArg List.length hdn.out
                  simp only [List.length_append, List.length_map] at h1
                  rw [List.length_append, List.length_map, List.length_take]
                  omega
                obtain ⟨od, hod2⟩ : ∃ od, done ++ (rs.take m).map (pairI i) = od := ⟨_, rfl⟩
                rw [hod2] at hodm hxt hlen
                clear hod2 hk
                go_wp2_with (at_builtin; refine wpList_own rfl _ _ rfl apd_pairs (by decide) rfl (hodm.alloc _) ?d1 (by decide) ⟨wr.heap.size, 0, none⟩ 1 rfl (pairI i k) [.int .i64 i, .int .i64 k] (rep_pairI i k) (World.news_of_block (cs := #[.int .i64 i, .int .i64 k]) (t := 39) (fr := (0, 0)) (heap_alloc_new _ _)) (by decide) (Nat.zero_le _) ?d2 ?_)
                case d1 => omega
                case d2 => exact (ext_alloc hbm _).size
                intro v9 w9 hod9 hgrow
                have hb9 := (hodm.alloc _).below_grown (ext_alloc hbm _) (Nat.le_refl _) hgrow
                rw [hxt.out] at hod9
                clear hgrow hodm hxt
                go_wp2_with fail
                go_roundw
                case rel => exact ⟨m + 1, by omega, by go_num, hod9, hb9⟩
                case measure => simp [intOf]; omega
              · obtain rfl : m = M - (n + 1) := by omega
                have hall : Hid (done ++ (rs.take (M - (n + 1))).map (pairI i) ++ pairsL (ns.drop (n + 1)) = P) := hide (by
                  rw [List.take_of_length_le (by rw [hrl.out]; exact Nat.le_refl _), hrs.out, List.append_assoc]
                  exact hdn.out)
                obtain ⟨od, hod2⟩ : ∃ od, done ++ (rs.take (M - (n + 1))).map (pairI i) = od := ⟨_, rfl⟩
                rw [hod2] at hodm hall
                clear hod2
                go_wp2_with fail
                go_roundw
                case rel => exact ⟨n + 1, od, by omega, by go_num, hodm, hall.out, hbm⟩
                case measure => simp [intOf]; omega
          · have hre : rs = [] := List.eq_nil_of_length_eq_zero (by rw [hrl.out]; omega)
            subst hre
            have hdd : Hid (done ++ pairsL (ns.drop (n + 1)) = P) := hide (by have := hdn.out; rw [hrs.out]; simpa using this)
            have hl0 : ¬ (0 : Int) < ((M - (n + 1) : Nat) : Int) := by omega
            have hl1 : M - (n + 1) = 0 := by omega
            by_cases hce : c5 = n + 1
            · subst hce
              go_wp2_with fail
              go_loopw [8, 47] (fun v8 v47 wr => v47 = .int .i64 0 ∧ Own kStart 39 [] 0 wo.heap.size wr v8 done ∧ Below wo.heap.size wo wr) (fun _ _ _ => 0)
              case atStart => exact ⟨rfl, hod, hb⟩
              case round =>
                obtain ⟨rfl, hodm, hbm⟩ := hrel
                go_wp2_with fail
                go_roundw
                case rel => exact ⟨n + 1, done, by omega, by go_num, hodm, hdd.out, hbm⟩
                case measure => simp [intOf]; omega
            · go_wp2_with fail
              go_loopw [8, 47] (fun v8 v47 wr => v47 = .int .i64 0 ∧ Own kStart 39 [] 0 wo.heap.size wr v8 done ∧ Below wo.heap.size wo wr) (fun _ _ _ => 0)
              case atStart => exact ⟨rfl, hod, hb⟩
              case round =>
                obtain ⟨rfl, hodm, hbm⟩ := hrel
                go_wp2_with fail
                go_roundw
                case rel => exact ⟨n + 1, done, by omega, by go_num, hodm, hdd.out, hbm⟩
                case measure => simp [intOf]; omega
        · obtain rfl : n = M := by omega
          rw [List.drop_of_length_le (by rw [hM.out]; exact Nat.le_refl _)] at hdn
          have hdP : done = P := by rw [← hdn]; simp [pairsL]
          subst hdP
          clear hdn hat
          go_wp2_with fail
          go_ret
          exact ⟨_, rfl, hod.lower (by omega), ext_trans hbW hb⟩
end Go.Proofs.YtonpfohhedcjbaaGreatDoor

namespace Go.Proofs.YtonpfohhedcjbaaGreatDoor
open Go.RowKit
set_option maxRecDepth 100000

set_option maxHeartbeats 16000000 in
theorem r11pairs_walk (z : ByteArray) (D : Option Addr) (cs : List ByteArray) (dc : Nat) (A : Option Addr) (l : List Cls) (c : Nat) (w : World) (hl : l.length ≤ 1000) (hcs : cs.length ≤ 9223372036854775807) (hD : At kStr AnyB w D cs) (hA : At kCls AnyB w A l) :
    Calls Tryz.prog 35 #[.agg #[.string z, .slice D cs.length dc], .slice A l.length c] w fun e w' => PairsIs w.heap.size (pairsV cs l) w e w' := by
  obtain ⟨P, hP⟩ : ∃ P, pairsV cs l = P := ⟨_, rfl⟩
  rw [hP]
  have hP2 : refL (okC cs l) (List.range l.length) = P := by rw [refL_eq]; exact hP
  have hPl : P.length ≤ 1000000 := by
    rw [← hP]
    unfold pairsV
    have h1 := List.length_filter_le (okC cs l) (List.range l.length)
    rw [List.length_range] at h1
    have h2 : ((List.range l.length).filter (okC cs l)).length ≤ 1000 := by omega
    exact Nat.le_trans (pairsL_len _) (Nat.mul_le_mul h2 h2)
  obtain ⟨N, hN⟩ : ∃ N, l.length = N := ⟨_, rfl⟩
  obtain ⟨C, hC⟩ : ∃ C, cs.length = C := ⟨_, rfl⟩
  have hb0 : Below w.heap.size w (w.alloc (.cells #[.string z, .slice D C dc] 36)) := ext_alloc (Below.refl _ _) _
  have b0 : (w.alloc (.cells #[.string z, .slice D C dc] 36)).cell? ⟨w.heap.size, 1, none⟩ = some (.slice D C dc) := by simp
  obtain ⟨g, hg⟩ : ∃ g, w.heap.size = g := ⟨_, rfl⟩
  obtain ⟨W, hW⟩ : ∃ W, w.alloc (.cells #[.string z, .slice D C dc] 36) = W := ⟨_, rfl⟩
  rw [hW] at hb0 b0
  rw [hg] at b0
  have hgW : g < W.heap.size := World.block_lt_of_cell? _ _ b0
  rw [hN] at hl hP2 ⊢
  rw [hC] at hcs ⊢
  have hDW := hD.later hb0
  have hAW := hA.later hb0
  have hz0 := hb0.size
  replace hN := hide hN
  replace hC := hide hC
  replace hW := hide hW
  replace hP2 := hide hP2
  replace hg := hide hg
  clear hD hA hP
  go_enter Tryz.func35, Tryz.ntmps35
  go_wp2_with fail
  rw [hW.out, hg.out]
  go_loopw [5, 6] (fun v5 v6 wr => ∃ (i : Nat) (done : List (Int × Int)), i ≤ N ∧ v6 = .int .i64 i ∧ Own kStart 39 [] 0 W.heap.size wr v5 done ∧ done ++ refL (okC cs l) ((List.range N).drop i) = P ∧ Below W.heap.size W wr) (fun _ v6 _ => N - (intOf v6).toNat)
  case atStart => exact ⟨0, [], Nat.zero_le _, rfl, Own.nil, hP2.out, Below.refl _ _⟩
  case round =>
    obtain ⟨i, done, hi, rfl, hod, hdn, hb⟩ := hrel
    by_cases hlt : i < N
    · rw [range_drop hlt, refL] at hdn
      obtain ⟨rs, hrs⟩ : ∃ rs, (List.range N).drop (i + 1) = rs := ⟨_, rfl⟩
      have hrl : rs.length = N - (i + 1) := by rw [← hrs, List.length_drop, List.length_range]
      have hrg : ∀ m : Nat, i + 1 + m < N → rs[m]? = some (i + 1 + m) := fun m hm => by
        rw [← hrs, List.getElem?_drop, List.getElem?_range hm]
      rw [hrs] at hdn
      obtain ⟨x, hx⟩ : ∃ x, l[i]? = some x := ⟨_, List.getElem?_eq_getElem (by rw [hN.out]; exact hlt)⟩
      obtain ⟨b, off, q, rfl, -, hbb, hq, hq1, -⟩ := hAW.cls hx
      have kci := hq.2.1
      rw [hq1] at kci
      have hoki : okC cs l i = (decide (0 ≤ idxS x.2.1 cs) && singB l i) := by unfold okC; rw [hx]
      obtain ⟨ci, hci⟩ : ∃ ci, x.2.1 = ci := ⟨_, rfl⟩
      rw [hci] at kci hoki
      have hi0 : (0 : Int) ≤ (i : Int) := by omega
      have hi1 : (i : Int) < (N : Int) := by omega
      have hiw : IntKind.i64.wrap ((i : Int) + 1) = (i : Int) + 1 := by rw [IntKind.wrap_i64]; omega
      obtain ⟨f, hf⟩ : ∃ f : Nat → Bool, (fun k => okC cs l i && okC cs l k) = f := ⟨_, rfl⟩
      rw [hf] at hdn
      have hfk : ∀ k, f k = (okC cs l i && okC cs l k) := fun k => by rw [← hf]
      replace hrg := hide hrg
      replace hrl := hide hrl
      replace hdn := hide hdn
      replace hrs := hide hrs
      replace hfk := hide hfk
      replace hoki := hide hoki
      clear hx hq hq1 hci hf
      go_wp2_with fail
      go_loopw [5, 7] (fun v5 v7 wr => ∃ k : Nat, i + 1 ≤ k ∧ k ≤ N ∧ v7 = .int .i64 k ∧ Own kStart 39 [] 0 W.heap.size wr v5 (done ++ ((rs.take (k - (i + 1))).filter f).map (pairI i)) ∧ Below W.heap.size W wr) (fun _ v7 _ => N - (intOf v7).toNat)
      case atStart => exact ⟨i + 1, Nat.le_refl _, by omega, by go_num, by simpa using hod, hb⟩
      case round =>
        clear hod hb
        obtain ⟨k, hk1, hk2, rfl, hodm, hbm⟩ := hrel
        by_cases hkl : k < N
        · obtain ⟨y, hy⟩ : ∃ y, l[k]? = some y := ⟨_, List.getElem?_eq_getElem (by rw [hN.out]; exact hkl)⟩
          obtain ⟨b', off', q', e', -, -, hq, hq1, -⟩ := hAW.cls hy
          injection e' with e'
          injection e' with e1 e2
          subst e1 e2
          have kck := hq.2.1
          rw [hq1] at kck
          have hokk : okC cs l k = (decide (0 ≤ idxS y.2.1 cs) && singB l k) := by unfold okC; rw [hy]
          obtain ⟨ck, hck⟩ : ∃ ck, y.2.1 = ck := ⟨_, rfl⟩
          rw [hck] at kck hokk
          have hk0 : (0 : Int) ≤ (k : Int) := by omega
          have hkN : (k : Int) < (N : Int) := by omega
          have hbr : b < wr.heap.size := Nat.lt_of_lt_of_le hbb hbm.size
          have hgr : g < wr.heap.size := Nat.lt_of_lt_of_le hgW hbm.size
          have hSL : Cn3 g 1 ((.slice D C dc)) b (off + i * 9 + 1) ((.string ci)) b (off + k * 9 + 1) ((.string ck)) wr := ⟨cell_later hbm b0, cell_later hbm kci, cell_later hbm kck⟩
          have hnext : rs.take (k + 1 - (i + 1)) = rs.take (k - (i + 1)) ++ [k] := by
            rw [show k + 1 - (i + 1) = (k - (i + 1)) + 1 from by omega, List.take_add_one, hrg.out (k - (i + 1)) (by omega), show i + 1 + (k - (i + 1)) = k from by omega]
            rfl
          have hstep : ((rs.take (k + 1 - (i + 1))).filter f).map (pairI i) = ((rs.take (k - (i + 1))).filter f).map (pairI i) ++ (if f k = true then [pairI i k] else []) := by
            rw [hnext, List.filter_append, List.map_append]
            congr 1
            by_cases h : f k = true
            · rw [if_pos h, List.filter_cons_of_pos h]; rfl
            · rw [if_neg h, List.filter_cons_of_neg h]; rfl
          have hfk2 : f k = ((decide (0 ≤ idxS ci cs) && singB l i) && (decide (0 ≤ idxS ck cs) && singB l k)) := by rw [hfk.out, hoki.out, hokk]
          obtain ⟨d1, hd1⟩ : ∃ d, decide (0 ≤ idxS ci cs) = d := ⟨_, rfl⟩
          obtain ⟨d2, hd2⟩ : ∃ d, decide (0 ≤ idxS ck cs) = d := ⟨_, rfl⟩
          obtain ⟨s1, hs1⟩ : ∃ d, singB l i = d := ⟨_, rfl⟩
          obtain ⟨s2, hs2⟩ : ∃ d, singB l k = d := ⟨_, rfl⟩
          rw [hd1, hd2, hs1, hs2] at hfk2
          have hh1 := hide (fun (n : Later wr) => calls_same (v := .bool d1) (n := n) (by
            have := r2has_walk D cs dc ci n.val (by rw [hC.out]; omega) (hDW.later (ext_trans hbm n.2))
            rw [hd1] at this
            exact this))
          have hh2 := hide (fun (n : Later wr) => calls_same (v := .bool d2) (n := n) (by
            have := r2has_walk D cs dc ck n.val (by rw [hC.out]; omega) (hDW.later (ext_trans hbm n.2))
            rw [hd2] at this
            exact this))
          have hg1 := hide (fun (n : Later wr) => calls_later (v := .bool s1) (n := n) (by
            have := r11single_walk (some ⟨b, off, none⟩) l c i n.val (by rw [hN.out]; omega) (by rw [hN.out]; exact hlt) (hAW.later (ext_trans hbm n.2))
            rw [hs1] at this
            exact this))
          have hg2 := hide (fun (n : Later wr) => calls_later (v := .bool s2) (n := n) (by
            have := r11single_walk (some ⟨b, off, none⟩) l c k n.val (by rw [hN.out]; omega) (by rw [hN.out]; exact hkl) (hAW.later (ext_trans hbm n.2))
            rw [hs2] at this
            exact this))
          rw [hC.out] at hh1 hh2
          rw [hN.out] at hg1 hg2
          have hk0 : ∀ n : Later wr, n.val.cell? ⟨g, 1, none⟩ = some (.slice D C dc) := fun n => cell_later n.2 hSL.1
          have hk1 : ∀ n : Later wr, n.val.cell? ⟨b, off + i * 9 + 1, none⟩ = some (.string ci) := fun n => cell_later n.2 hSL.2.1
          have hk2 : ∀ n : Later wr, n.val.cell? ⟨b, off + k * 9 + 1, none⟩ = some (.string ck) := fun n => cell_later n.2 hSL.2.2
          have hany := later_any wr
          replace hfk2 := hide hfk2
          replace hstep := hide hstep
          clear hs1 hs2 hd1 hd2 hokk hnext hy hq hq1 hck kck hSL
          obtain ⟨od, hod2⟩ : ∃ od, done ++ ((rs.take (k - (i + 1))).filter f).map (pairI i) = od := ⟨_, rfl⟩
          rw [hod2] at hodm
          replace hod2 := hide hod2
          cases d1 with
          | false =>
            have hnx : Hid (done ++ ((rs.take (k + 1 - (i + 1))).filter f).map (pairI i) = od) := hide (by
              rw [hstep.out, if_neg (by rw [hfk2.out]; simp), List.append_nil, hod2.out])
            clear hod2 hstep hfk2
            go_upto_region 8 with fail
            refine wp_region_later (by kernel_rfl) (by kernel_rfl) ?_
            repeat (go_big_quiet_step (first | (go_at_call 47; with_reducible exact hh1.out _) | (go_at_call 47; with_reducible exact hh2.out _) | (go_at_call 14; with_reducible exact hg1.out _) | (go_at_call 14; with_reducible exact hg2.out _)))
            refine wpQuiet_nil ?_
            clear hk0 hk1 hk2 hh1 hh2 hg1 hg2 hany
            rintro _ ⟨n8, rfl⟩
            have hb8 := n8.keeps
            generalize n8.val = w8 at *
            go_wp2_with fail
            go_roundw
            case rel => exact ⟨k + 1, by omega, by omega, by go_num, by rw [hnx.out]; exact hodm.later hb8, ext_trans hbm hb8⟩
            case measure => simp [intOf]; omega
          | true =>
            cases d2 with
            | false =>
              have hnx : Hid (done ++ ((rs.take (k + 1 - (i + 1))).filter f).map (pairI i) = od) := hide (by
                rw [hstep.out, if_neg (by rw [hfk2.out]; simp), List.append_nil, hod2.out])
              clear hod2 hstep hfk2
              go_upto_region 8 with fail
              refine wp_region_later (by kernel_rfl) (by kernel_rfl) ?_
              repeat (go_big_quiet_step (first | (go_at_call 47; with_reducible exact hh1.out _) | (go_at_call 47; with_reducible exact hh2.out _) | (go_at_call 14; with_reducible exact hg1.out _) | (go_at_call 14; with_reducible exact hg2.out _)))
              refine wpQuiet_nil ?_
              clear hk0 hk1 hk2 hh1 hh2 hg1 hg2 hany
              rintro _ ⟨n8, rfl⟩
              have hb8 := n8.keeps
              generalize n8.val = w8 at *
              go_wp2_with fail
              go_roundw
              case rel => exact ⟨k + 1, by omega, by omega, by go_num, by rw [hnx.out]; exact hodm.later hb8, ext_trans hbm hb8⟩
              case measure => simp [intOf]; omega
            | true =>
              cases s1 with
              | false =>
                have hnx : Hid (done ++ ((rs.take (k + 1 - (i + 1))).filter f).map (pairI i) = od) := hide (by
                  rw [hstep.out, if_neg (by rw [hfk2.out]; simp), List.append_nil, hod2.out])
                clear hod2 hstep hfk2
                go_upto_region 8 with fail
                refine wp_region_later (by kernel_rfl) (by kernel_rfl) ?_
                repeat (go_big_quiet_step (first | (go_at_call 47; with_reducible exact hh1.out _) | (go_at_call 47; with_reducible exact hh2.out _) | (go_at_call 14; with_reducible exact hg1.out _) | (go_at_call 14; with_reducible exact hg2.out _)))
                refine wpQuiet_nil ?_
                clear hk0 hk1 hk2 hh1 hh2 hg1 hg2 hany
                rintro _ ⟨n8, rfl⟩
                have hb8 := n8.keeps
                generalize n8.val = w8 at *
                go_wp2_with fail
                go_roundw
                case rel => exact ⟨k + 1, by omega, by omega, by go_num, by rw [hnx.out]; exact hodm.later hb8, ext_trans hbm hb8⟩
                case measure => simp [intOf]; omega
              | true =>
                cases s2 with
                | false =>
                  have hnx : Hid (done ++ ((rs.take (k + 1 - (i + 1))).filter f).map (pairI i) = od) := hide (by
                    rw [hstep.out, if_neg (by rw [hfk2.out]; simp), List.append_nil, hod2.out])
                  clear hod2 hstep hfk2
                  go_upto_region 8 with fail
                  refine wp_region_later (by kernel_rfl) (by kernel_rfl) ?_
                  repeat (go_big_quiet_step (first | (go_at_call 47; with_reducible exact hh1.out _) | (go_at_call 47; with_reducible exact hh2.out _) | (go_at_call 14; with_reducible exact hg1.out _) | (go_at_call 14; with_reducible exact hg2.out _)))
                  refine wpQuiet_nil ?_
                  clear hk0 hk1 hk2 hh1 hh2 hg1 hg2 hany
                  rintro _ ⟨n8, rfl⟩
                  have hb8 := n8.keeps
                  generalize n8.val = w8 at *
                  go_wp2_with fail
                  go_roundw
                  case rel => exact ⟨k + 1, by omega, by omega, by go_num, by rw [hnx.out]; exact hodm.later hb8, ext_trans hbm hb8⟩
                  case measure => simp [intOf]; omega
                | true =>
                  have hnx : Hid (done ++ ((rs.take (k + 1 - (i + 1))).filter f).map (pairI i) = od ++ [pairI i k]) := hide (by
                    rw [hstep.out, if_pos (by rw [hfk2.out]; rfl), ← List.append_assoc, hod2.out])
                  have hlen : od.length ≤ 2000000 := by
                    have h1 := congrArg List.length hdn.out
                    have h2 := congrArg List.length hod2.out
                    have h3 := List.length_filter_le f (rs.take (k - (i + 1)))
                    have h4 := List.length_filter_le f rs
                    simp only [List.length_append, List.length_map, List.length_take] at h1 h2 h3 h4
                    omega
                  clear hod2 hstep hfk2
                  go_upto_region 8 with fail
                  refine wp_region_later (by kernel_rfl) (by kernel_rfl) ?_
                  repeat (go_big_quiet_step (first | (go_at_call 47; with_reducible exact hh1.out _) | (go_at_call 47; with_reducible exact hh2.out _) | (go_at_call 14; with_reducible exact hg1.out _) | (go_at_call 14; with_reducible exact hg2.out _)))
                  refine wpQuiet_nil ?_
                  clear hk0 hk1 hk2 hh1 hh2 hg1 hg2 hany
                  rintro _ ⟨n8, rfl⟩
                  have hb8 := n8.keeps
                  generalize n8.val = w8 at *
                  go_wp2_with (at_builtin; refine wpList_own rfl _ _ rfl apd_pairs (by decide) rfl ((hodm.later hb8).alloc _) ?d1 (by decide) ⟨w8.heap.size, 0, none⟩ 1 rfl (pairI i k) [.int .i64 i, .int .i64 k] (rep_pairI i k) (World.news_of_block (cs := #[.int .i64 i, .int .i64 k]) (t := 39) (fr := (0, 0)) (heap_alloc_new _ _)) (by decide) (Nat.zero_le _) ?d2 ?_)
                  case d1 => omega
                  case d2 => have := (ext_trans hbm hb8).size; omega
                  intro v9 w9 hod9 hgrow
                  have hb9 := ((hodm.later hb8).alloc _).below_grown (ext_alloc (ext_trans hbm hb8) _) (Nat.le_refl _) hgrow
                  rw [← hnx.out] at hod9
                  clear hgrow hodm hnx
                  go_wp2_with fail
                  go_roundw
                  case rel => exact ⟨k + 1, by omega, by omega, by go_num, hod9, hb9⟩
                  case measure => simp [intOf]; omega
        · obtain rfl : k = N := by omega
          have hfin : Hid (done ++ ((rs.take (k - (i + 1))).filter f).map (pairI i) ++ refL (okC cs l) ((List.range k).drop (i + 1)) = P) := hide (by
            rw [List.take_of_length_le (by rw [hrl.out]; exact Nat.le_refl _), hrs.out, List.append_assoc]
            exact hdn.out)
          obtain ⟨od, hod2⟩ : ∃ od, done ++ ((rs.take (k - (i + 1))).filter f).map (pairI i) = od := ⟨_, rfl⟩
          rw [hod2] at hodm hfin
          have hkk : ¬ (k : Int) < (k : Int) := by omega
          clear hod2
          go_wp2_with fail
          go_roundw
          case rel => exact ⟨i + 1, od, by omega, by go_num, hodm, hfin.out, hbm⟩
          case measure => simp [intOf]; omega
    · obtain rfl : i = N := by omega
      rw [List.drop_of_length_le (by simp)] at hdn
      have hdP : done = P := by rw [← hdn]; simp [refL]
      subst hdP
      have hii : ¬ (i : Int) < (i : Int) := by omega
      clear hdn hAW hDW
      go_wp2_with fail
      go_ret
      exact ⟨_, rfl, hod.lower hz0, ext_trans hb0 hb⟩
end Go.Proofs.YtonpfohhedcjbaaGreatDoor

namespace Go.Proofs.YtonpfohhedcjbaaGreatDoor
open Go.RowKit
set_option maxRecDepth 100000

theorem At.pair {S : Nat → Prop} {w : World} {A : Option Addr} {l : List (Int × Int)} {j : Nat} {x : Int × Int} (h : At kStart S w A l) (hj : l[j]? = some x) :
    ∃ b off, A = some ⟨b, off, none⟩ ∧ S b ∧ b < w.heap.size ∧ w.cell? ⟨b, off + j * 2, none⟩ = some (.int .i64 x.1) ∧ w.cell? ⟨b, off + j * 2 + 1, none⟩ = some (.int .i64 x.2) := by
  obtain ⟨b, off, vs, e, hs, hlt, ⟨us, ts, rfl, h1, h2⟩, hc⟩ := h.get hj
  have h1 : us = [.int .i64 x.1] := h1
  have h2 : ts = [.int .i64 x.2] := h2
  subst h1 h2
  exact ⟨b, off, e, hs, hlt, hc 0 _ rfl, hc 1 _ rfl⟩
theorem pair_equal (a b c d : Int) (w : World) : (Op.equalIn 10000 39 (.agg #[.int .i64 a, .int .i64 b]) (.agg #[.int .i64 c, .int .i64 d])).run Tryz.prog w = .ok (a == c && b == d) w := by
  have u3 := Tryz.underlying3
  have a3 := Tryz.isAgg3
  have z3 := Tryz.sizeOf3
  rw [show (10000 : Nat) = 9999 + 1 from rfl, Op.equalIn]
  simp only [Sem.run_bind, run_underlying Tryz.underlying39, Result.andThen_ok]
  simp only [Std.Legacy.Range.forIn_eq_forIn_range', Std.Legacy.Range.size, Nat.sub_zero, Nat.add_sub_cancel, Nat.div_one, List.range'_succ, List.range'_zero, List.forIn_cons, List.forIn_nil]
  go_simp
  by_cases h1 : a = c <;> by_cases h2 : b = d <;> simp [h1, h2]
set_option maxHeartbeats 4000000 in
theorem samepairs_walk (A A' : Option Addr) (l : List (Int × Int)) (c c' : Nat) (w : World) (hn : l.length ≤ 9223372036854775807) (h1 : At kStart AnyB w A l) (h2 : At kStart AnyB w A' l) :
    Calls Tryz.prog 25 #[.slice A l.length c, .slice A' l.length c'] w fun e w' => e = .returned (.bool true) ∧ Below w.heap.size w w' := by
  obtain ⟨N, hN⟩ : ∃ N, l.length = N := ⟨_, rfl⟩
  rw [hN] at hn ⊢
  replace hN := hide hN
  have hNN : ((N : Int) != (N : Int)) = false := by simp
  go_enter Tryz.func25, Tryz.ntmps25
  go_wp2_with fail
  go_loopw [5] (fun v wr => ∃ j : Nat, j ≤ N ∧ v = .int .i64 j ∧ Below w.heap.size w wr) (fun v _ => N - (intOf v).toNat)
  case atStart => exact ⟨0, Nat.zero_le _, rfl, Below.refl _ _⟩
  case round =>
    obtain ⟨j, hj, rfl, hb⟩ := hrel
    by_cases hlt : j < N
    · obtain ⟨x, hx⟩ : ∃ x, l[j]? = some x := ⟨_, List.getElem?_eq_getElem (by rw [hN.out]; exact hlt)⟩
      obtain ⟨b, off, rfl, -, hbb, k0, k1⟩ := (h1.later hb).pair hx
      obtain ⟨b', off', rfl, -, hbb', k2, k3⟩ := (h2.later hb).pair hx
      have hj0 : (0 : Int) ≤ (j : Int) := by omega
      have hj1 : (j : Int) < (N : Int) := by omega
      have heq : ∀ W : World, (Op.equalIn 10000 39 (.agg #[.int .i64 x.1, .int .i64 x.2]) (.agg #[.int .i64 x.1, .int .i64 x.2])).run Tryz.prog W = .ok true W := fun W => (pair_equal x.1 x.2 x.1 x.2 W).trans (by simp)
      clear h1 h2 hx
      go_upto_region 6 with fail
      go_region
      all_goals
        go_wp2_with fail
        go_roundw
        case rel => exact ⟨j + 1, by omega, by go_num, by first | exact hb | exact ext_drew hb⟩
        case measure => simp [intOf]; omega
    · have hj1 : ¬ (j : Int) < (N : Int) := by omega
      clear h1 h2
      go_wp2_with fail
      go_ret
      exact ⟨rfl, hb⟩
end Go.Proofs.YtonpfohhedcjbaaGreatDoor

namespace Go.Proofs.YtonpfohhedcjbaaGreatDoor
open Go.RowKit
set_option maxRecDepth 100000

/-- A curriculum: its code and its courses. -/
abbrev Curr := ByteArray × List ByteArray
def kCurr : Kind Curr := kPair kStr (kSlice kStr)
def namesC (l : List Curr) : List ByteArray := l.map fun x => x.1
theorem At.curr {S : Nat → Prop} {w : World} {A : Option Addr} {l : List Curr} {j : Nat} {x : Curr} (h : At kCurr S w A l) (hj : l[j]? = some x) :
    ∃ b off F c, A = some ⟨b, off, none⟩ ∧ S b ∧ b < w.heap.size ∧ w.cell? ⟨b, off + j * 2, none⟩ = some (.string x.1) ∧ w.cell? ⟨b, off + j * 2 + 1, none⟩ = some (.slice F x.2.length c) ∧ x.2.length ≤ c ∧ At kStr S w F x.2 := by
  obtain ⟨b, off, vs, e, hs, hlt, ⟨us, ts, rfl, h1, h2⟩, hc⟩ := h.get hj
  have h1 : us = [.string x.1] := h1
  obtain ⟨F, c, rfl, h3, h4⟩ := h2
  subst h1
  exact ⟨b, off, F, c, e, hs, hlt, hc 0 _ rfl, hc 1 _ rfl, h3, h4⟩
theorem namesC_get {l : List Curr} {j : Nat} {x : Curr} (h : l[j]? = some x) : (namesC l)[j]? = some x.1 := by unfold namesC; rw [List.getElem?_map, h]; rfl
set_option maxHeartbeats 800000 in
theorem chas1_walk (x code : ByteArray) (F : Option Addr) (n cc c : Nat) (w : World) (hc : w.cell? ⟨c, 0, none⟩ = some (.string code)) :
    Calls Tryz.prog 70 #[.agg #[.string x, .slice F n cc], .pointer (some ⟨c, 0, none⟩)] w fun e w' => e = .returned (.bool (x.toList == code.toList)) ∧ Below w.heap.size w w' := by
  have hlt := World.block_lt_of_cell? _ _ hc
  go_enter Tryz.func70, Tryz.ntmps70
  go_wp2
  go_ret
  exact ⟨rfl, (by repeat (first | exact Below.refl _ _ | refine ext_alloc ?_ _ | refine ext_drewN ?_ _ | refine ext_drew ?_ | refine ext_trans ?_ (by assumption)))⟩
set_option maxHeartbeats 2000000 in
theorem cidx_walk (A : Option Addr) (l : List Curr) (c g : Nat) (code : ByteArray) (w : World) (hn : l.length ≤ 9223372036854775807) (h : At kCurr AnyB w A l) (hc : w.cell? ⟨g, 0, none⟩ = some (.string code)) :
    Calls Tryz.prog 78 #[.slice A l.length c, .func (.func 70) #[] #[.pointer (some ⟨g, 0, none⟩)]] w fun e w' => e = .returned (.int .i64 (idxS code (namesC l))) ∧ Below w.heap.size w w' := by
  have eg : ∀ args w, (callFunc 70 args).run Tryz.prog w = .ok (.enter 70 args) w := enters_of Tryz.func70 (by kernel_rfl) rfl
  obtain ⟨N, hnn⟩ : ∃ N, l.length = N := ⟨_, rfl⟩
  have hnl : (namesC l).length = N := by rw [← hnn]; exact List.length_map _
  rw [hnn] at hn ⊢
  replace hnn := hide hnn
  replace hnl := hide hnl
  go_enter Tryz.func78, Tryz.ntmps78
  go_wp2
  go_loopw [8] (fun i wr => ∃ j : Nat, j ≤ N ∧ i = .int .i64 j ∧ Hid (∀ y ∈ (namesC l).take j, (y.toList == code.toList) = false) ∧ Below w.heap.size w wr) (fun i _ => N - (intOf i).toNat)
  case atStart => exact ⟨0, Nat.zero_le _, rfl, hide (fun y hy => by simp at hy), Below.refl _ _⟩
  case round =>
    obtain ⟨j, hj, rfl, ho, hb⟩ := hrel
    by_cases hlt : j < N
    · obtain ⟨x, hx⟩ : ∃ x, l[j]? = some x := ⟨_, List.getElem?_eq_getElem (by rw [hnn.out]; exact hlt)⟩
      obtain ⟨b, off, F, c1, rfl, -, hbb, k0, k1, -, -⟩ := (h.later hb).curr hx
      have hxn := namesC_get hx
      have hcall := chas1_walk x.1 code F x.2.length c1 g wr (cell_later hb hc)
      have hj0 : (0 : Int) ≤ (j : Int) := by omega
      have hj1 : (j : Int) < (N : Int) := by omega
      cases hq : (x.1.toList == code.toList) with
      | true =>
        have hit := hide (idxS_hit hxn ho.out hq)
        rw [hq] at hcall
        clear hx h ho hxn hq
        go_wp2_with (go_at_fn 70; refine hcall.mono ?_; rintro e w' ⟨rfl, hb2⟩)
        go_ret
        exact ⟨by rw [hit.out]; rfl, ext_trans hb hb2⟩
      | false =>
        have miss := hide (take_miss hxn ho.out hq)
        rw [hq] at hcall
        clear hx h ho hxn hq
        go_wp2_with (go_at_fn 70; refine hcall.mono ?_; rintro e w' ⟨rfl, hb2⟩)
        go_roundw
        case rel => exact ⟨j + 1, by omega, by go_num, miss, ext_trans hb hb2⟩
        case measure => simp [intOf]; omega
    · obtain rfl : j = N := by omega
      have hall : Hid (idxS code (namesC l) = -1) := hide (idxS_none fun y hy => ho.out y (by rw [List.take_of_length_le (by rw [hnl.out]; exact Nat.le_refl _)]; exact hy))
      clear h
      go_wp2
      go_ret
      exact ⟨by rw [hall.out]; rfl, hb⟩
set_option maxHeartbeats 2000000 in
theorem ccon_walk (A : Option Addr) (l : List Curr) (c g : Nat) (code : ByteArray) (w : World) (hn : l.length ≤ 9223372036854775807) (h : At kCurr AnyB w A l) (hc : w.cell? ⟨g, 0, none⟩ = some (.string code)) :
    Calls Tryz.prog 69 #[.slice A l.length c, .func (.func 70) #[] #[.pointer (some ⟨g, 0, none⟩)]] w fun e w' => e = .returned (.bool (decide (0 ≤ idxS code (namesC l)))) ∧ Below w.heap.size w w' := by
  have hcall := cidx_walk A l c g code w hn h hc
  clear h
  go_enter Tryz.func69, Tryz.ntmps69
  go_wp2_with fail
  refine hcall.mono ?_
  rintro e w' ⟨rfl, hb⟩
  go_wp2
  go_ret
  exact ⟨rfl, hb⟩
set_option maxHeartbeats 2000000 in
theorem chas_walk (A : Option Addr) (l : List Curr) (c : Nat) (code : ByteArray) (w : World) (hn : l.length ≤ 9223372036854775807) (h : At kCurr AnyB w A l) :
    Calls Tryz.prog 53 #[.slice A l.length c, .string code] w fun e w' => e = .returned (.bool (decide (0 ≤ idxS code (namesC l)))) ∧ Below w.heap.size w w' := by
  have hb0 : Below w.heap.size w (w.alloc (.cells #[.string code] 9)) := ext_alloc (Below.refl _ _) _
  have hcall := ccon_walk A l c w.heap.size code _ hn (h.later hb0) (by simp)
  clear h
  go_enter Tryz.func53, Tryz.ntmps53
  go_wp2_with fail
  refine hcall.mono ?_
  rintro e w' ⟨rfl, hb⟩
  go_wp2
  go_ret
  exact ⟨rfl, ext_trans hb0 hb⟩
set_option maxHeartbeats 2000000 in
theorem r11index_walk (A : Option Addr) (l : List Curr) (c : Nat) (code : ByteArray) (w : World) (hn : l.length ≤ 9223372036854775807) (h : At kCurr AnyB w A l) :
    Calls Tryz.prog 48 #[.slice A l.length c, .string code] w fun e w' => e = .returned (.int .i64 (idxS code (namesC l))) ∧ w = w' := by
  obtain ⟨N, hnn⟩ : ∃ N, l.length = N := ⟨_, rfl⟩
  have hnl : (namesC l).length = N := by rw [← hnn]; exact List.length_map _
  rw [hnn] at hn ⊢
  replace hnn := hide hnn
  replace hnl := hide hnl
  go_enter Tryz.func48, Tryz.ntmps48
  go_wp2
  go_loop [5] (fun i => ∃ j : Nat, j ≤ N ∧ i = .int .i64 j ∧ Hid (∀ y ∈ (namesC l).take j, (y.toList == code.toList) = false)) (fun i => N - (intOf i).toNat)
  case atStart => exact ⟨0, Nat.zero_le _, rfl, hide (fun y hy => by simp at hy)⟩
  case round =>
    obtain ⟨j, hj, rfl, ho⟩ := hrel
    by_cases hlt : j < N
    · obtain ⟨x, hx⟩ : ∃ x, l[j]? = some x := ⟨_, List.getElem?_eq_getElem (by rw [hnn.out]; exact hlt)⟩
      obtain ⟨b, off, F, c1, rfl, -, hbb, k0, k1, -, -⟩ := h.curr hx
      have hxn := namesC_get hx
      have hj0 : (0 : Int) ≤ (j : Int) := by omega
      have hj1 : (j : Int) < (N : Int) := by omega
      cases hq : (x.1.toList == code.toList) with
      | true =>
        have hit := hide (idxS_hit hxn ho.out hq)
        clear hx h ho hxn
        go_wp2
        go_ret
        exact ⟨by rw [hit.out]; rfl, rfl⟩
      | false =>
        have miss := hide (take_miss hxn ho.out hq)
        clear hx h ho hxn
        go_wp2
        go_round
        case rel => exact ⟨j + 1, by omega, by go_num, miss⟩
        case measure => simp [intOf]; omega
    · obtain rfl : j = N := by omega
      have hall : Hid (idxS code (namesC l) = -1) := hide (idxS_none fun y hy => ho.out y (by rw [List.take_of_length_le (by rw [hnl.out]; exact Nat.le_refl _)]; exact hy))
      clear h
      go_wp2
      go_ret
      exact ⟨by rw [hall.out]; rfl, rfl⟩
end Go.Proofs.YtonpfohhedcjbaaGreatDoor

namespace Go.Proofs.YtonpfohhedcjbaaGreatDoor
open Go.RowKit
set_option maxRecDepth 100000

/-- What is wrong with curriculum i of a list. -/
def curE (l : List Curr) (i : Nat) : Nat := match l[i]? with
  | none => 0
  | some x => if codeB x.1 = false then 10 else if x.2.length = 0 then 16 else if 8 < x.2.length then 2 else if jErr x.2 x.2.length ≠ 0 then jErr x.2 x.2.length else if 0 ≤ idxS x.1 ((namesC l).take i) then 11 else 0
def curErr (l : List Curr) : Nat → Nat
  | 0 => 0
  | n + 1 => if curErr l n ≠ 0 then curErr l n else curE l n
def validC (l : List Curr) : Nat := if 16 < l.length then 2 else curErr l l.length
theorem curErr_next {l : List Curr} {j : Nat} (h0 : curErr l j = 0) : curErr l (j + 1) = curE l j := by rw [curErr, if_neg (by rw [h0]; simp)]
theorem curErr_hit {l : List Curr} {j : Nat} (h0 : curErr l j = 0) (h : curE l j ≠ 0) : ∀ n, j < n → curErr l n = curE l j
  | 0, hj => by omega
  | n + 1, hj => by
    by_cases e : j = n
    · subst e; exact curErr_next h0
    · have ih := curErr_hit h0 h n (by omega)
      rw [curErr, if_pos (by rw [ih]; exact h), ih]
set_option maxHeartbeats 8000000 in
theorem cval_walk (A : Option Addr) (l : List Curr) (c : Nat) (w : World) (hn : l.length ≤ 9223372036854775807) (hlc : l.length ≤ c) (hm : ∀ x ∈ l, x.2.length ≤ 9223372036854775807) (h : At kCurr AnyB w A l) :
    Calls Tryz.prog 36 #[.slice A l.length c] w fun e w' => e = .returned (.int .i64 (validC l : Int)) ∧ Below w.heap.size w w' := by
  obtain ⟨V, hV⟩ : ∃ V, validC l = V := ⟨_, rfl⟩
  rw [hV]
  by_cases h16 : 16 < l.length
  · have hV' : V = 2 := by rw [← hV]; exact if_pos h16
    have h16i : (16 : Int) < (l.length : Int) := by omega
    rw [hV']
    obtain ⟨N, hN⟩ : ∃ N, l.length = N := ⟨_, rfl⟩
    rw [hN] at h16i hn hlc ⊢
    clear hV hV' h hN h16 hm
    go_enter Tryz.func36, Tryz.ntmps36
    go_wp2_with fail
    go_ret
    exact ⟨rfl, Below.refl _ _⟩
  · have hV' : curErr l l.length = V := by rw [← hV]; exact (if_neg h16).symm
    obtain ⟨N, hN⟩ : ∃ N, l.length = N := ⟨_, rfl⟩
    have h16i : ¬ (16 : Int) < (N : Int) := by omega
    rw [hN] at hV' hn hlc ⊢
    have hN16 : N ≤ 16 := by omega
    replace hV' := hide hV'
    replace hN := hide hN
    replace hm := hide hm
    clear hV h16
    go_enter Tryz.func36, Tryz.ntmps36
    go_wp2_with fail
    go_loopw [12] (fun v wr => ∃ i : Nat, i ≤ N ∧ v = .int .i64 i ∧ curErr l i = 0 ∧ Below w.heap.size w wr) (fun v _ => N - (intOf v).toNat)
    case atStart => exact ⟨0, Nat.zero_le _, rfl, rfl, Below.refl _ _⟩
    case round =>
      obtain ⟨i, hi, rfl, ho, hb⟩ := hrel
      replace ho := hide ho
      by_cases hlt : i < N
      · obtain ⟨x, hx⟩ : ∃ x, l[i]? = some x := ⟨_, List.getElem?_eq_getElem (by rw [hN.out]; exact hlt)⟩
        have hat := h.later hb
        obtain ⟨b, off, F, c1, rfl, -, hbb, k0, k1, hMc, hF⟩ := hat.curr hx
        have hE : curE l i = if codeB x.1 = false then 10 else if x.2.length = 0 then 16 else if 8 < x.2.length then 2 else if jErr x.2 x.2.length ≠ 0 then jErr x.2 x.2.length else if 0 ≤ idxS x.1 ((namesC l).take i) then 11 else 0 := by unfold curE; rw [hx]
        have hMx := hm.out x (List.mem_of_getElem? hx)
        obtain ⟨z, cs⟩ := x
        dsimp only at k0 k1 hMc hF hE hMx
        obtain ⟨M, hM⟩ : ∃ M, cs.length = M := ⟨_, rfl⟩
        rw [hM] at k1 hMc hE hMx
        have hi0 : (0 : Int) ≤ (i : Int) := by omega
        have hi1 : (i : Int) < (N : Int) := by omega
        have hbn : Below wr.heap.size wr (wr.alloc (.cells #[.string z, .slice F M c1] 36)) := ext_alloc (Below.refl _ _) _
        have g0 : (wr.alloc (.cells #[.string z, .slice F M c1] 36)).cell? ⟨wr.heap.size, 0, none⟩ = some (.string z) := by simp
        have g1 : (wr.alloc (.cells #[.string z, .slice F M c1] 36)).cell? ⟨wr.heap.size, 1, none⟩ = some (.slice F M c1) := by simp
        have hF5 := hF.later hbn
        have hat5 := hat.later hbn
        have hb5 := ext_trans hb hbn
        have hbb5 := Nat.lt_of_lt_of_le hbb hbn.size
        have hgz := World.block_lt_of_cell? _ _ g0
        have hfin : ∀ e, e ≠ 0 → curE l i = e → Hid (V = e) := fun e he h2 => hide (by rw [← hV'.out, curErr_hit ho.out (by rw [h2]; exact he) N hlt, h2])
        have hcv := hide (fun (U : World) => cvalid_walk z U)
        replace hM := hide hM
        clear hx hat hF
        cases hv : codeB z with
        | false =>
          obtain rfl := (hfin 10 (by decide) (by rw [hE, hv]; rfl)).out
          rw [hv] at hcv
          clear hfin hE hv hF5 hat5 h
          go_wp2_with (go_at_call 52; refine (hcv.out _).mono ?_; rintro e w4 ⟨rfl, rfl⟩)
          go_ret
          exact ⟨rfl, hb5⟩
        | true =>
          rw [hv] at hE hcv
          rw [if_neg (by simp)] at hE
          by_cases hM0 : M = 0
          · obtain rfl := (hfin 16 (by decide) (by rw [hE, if_pos hM0])).out
            have hM0i : ((M : Int) == 0) = true := by simp; omega
            clear hfin hE hv hF5 hat5 h hM0
            go_wp2_with (go_at_call 52; refine (hcv.out _).mono ?_; rintro e w4 ⟨rfl, rfl⟩)
            go_ret
            exact ⟨rfl, hb5⟩
          · have hM0i : ((M : Int) == 0) = false := by simp; omega
            rw [if_neg hM0] at hE
            by_cases hM8 : 8 < M
            · obtain rfl := (hfin 2 (by decide) (by rw [hE, if_pos hM8])).out
              have hM8i : (8 : Int) < (M : Int) := by omega
              clear hfin hE hv hF5 hat5 h hM0
              go_wp2_with (go_at_call 52; refine (hcv.out _).mono ?_; rintro e w4 ⟨rfl, rfl⟩)
              go_ret
              exact ⟨rfl, hb5⟩
            · have hM8i : ¬ (8 : Int) < (M : Int) := by omega
              rw [if_neg hM8] at hE
              go_upto_region 12 with (go_at_call 52; refine (hcv.out _).mono ?_; rintro e w4 ⟨rfl, rfl⟩)
              generalize wr.heap.size = g at *
              generalize wr.alloc _ = W5 at *
              have hlist : ∀ e, e ≠ 0 → jErr cs M = e → Hid (V = e) := fun e he h2 => hfin e he (by rw [hE, h2, if_pos he])
              have hlast : jErr cs M = 0 → curE l i = if 0 ≤ idxS z ((namesC l).take i) then 11 else 0 := fun h2 => by rw [hE, if_neg (by rw [h2]; simp)]
              replace hlist := hide hlist
              replace hlast := hide hlast
              have hfin2 := hide (fun (h2 : curE l i = 11) => hfin 11 (by decide) h2)
              clear hfin hE hv hcv h
              go_wp2_with fail
              go_loop [35] (fun v => ∃ j : Nat, j ≤ M ∧ v = .int .i64 j ∧ jErr cs j = 0) (fun v => M - (intOf v).toNat)
              case atStart => exact ⟨0, Nat.zero_le _, rfl, rfl⟩
              case round =>
                obtain ⟨j, hj, rfl, hoj⟩ := hrel
                replace hoj := hide hoj
                by_cases hjl : j < M
                · obtain ⟨y, hy⟩ : ∃ y, cs[j]? = some y := ⟨_, List.getElem?_eq_getElem (by rw [hM.out]; exact hjl)⟩
                  obtain ⟨fb, fo, rfl, -, hfb, ky⟩ := hF5.str hy
                  have hj0 : (0 : Int) ≤ (j : Int) := by omega
                  have hj1 : (j : Int) < (M : Int) := by omega
                  have hjc : (j : Int) ≤ (c1 : Int) := by omega
                  have hcy := hide (fun (U : World) => cvalid_walk y U)
                  have hEj : jE cs j = if codeB y = false then 10 else if 0 ≤ idxS y (cs.take j) then 11 else 0 := by
                    unfold jE; rw [List.getD_eq_getElem?_getD, hy]; rfl
                  have hcon := scontains_walk (some ⟨fb, fo, none⟩) (cs.take j) c1 y W5 (by rw [List.length_take]; omega) hF5.take.any
                  rw [List.length_take, hM.out, Nat.min_eq_left hj] at hcon
                  have hhit : ∀ e, e ≠ 0 → jE cs j = e → Hid (V = e) := fun e he h2 => hlist.out e he (by rw [jErr_hit hoj.out (by rw [h2]; exact he) M hjl, h2])
                  cases hvy : codeB y with
                  | false =>
                    obtain rfl := (hhit 10 (by decide) (by rw [hEj, hvy]; rfl)).out
                    rw [hvy] at hcy
                    clear hhit hEj hvy hcon hy hF5 hat5 hlist hlast hfin2
                    go_wp2_with (go_at_call 52; refine (hcy.out _).mono ?_; rintro e w4 ⟨rfl, rfl⟩)
                    go_ret
                    exact ⟨rfl, hb5⟩
                  | true =>
                    rw [hvy] at hcy hEj
                    cases hd : decide (0 ≤ idxS y (cs.take j)) with
                    | true =>
                      obtain rfl := (hhit 11 (by decide) (by rw [hEj, if_neg (by simp), if_pos (of_decide_eq_true hd)])).out
                      rw [hd] at hcon
                      clear hhit hEj hvy hy hF5 hat5 hlist hlast hfin2 hd
                      go_wp2_with (first | (go_at_call 52; refine (hcy.out _).mono ?_; rintro e w4 ⟨rfl, rfl⟩) | (go_at_call 29; refine hcon.mono ?_; rintro e w4 ⟨rfl, rfl⟩))
                      go_ret
                      exact ⟨rfl, hb5⟩
                    | false =>
                      have hnx : Hid (jErr cs (j + 1) = 0) := hide (by rw [jErr_next hoj.out, hEj, if_neg (by simp), if_neg (of_decide_eq_false hd)])
                      rw [hd] at hcon
                      clear hhit hEj hvy hy hF5 hat5 hlist hlast hfin2 hd
                      go_wp2_with (first | (go_at_call 52; refine (hcy.out _).mono ?_; rintro e w4 ⟨rfl, rfl⟩) | (go_at_call 29; refine hcon.mono ?_; rintro e w4 ⟨rfl, rfl⟩))
                      go_round
                      case rel => exact ⟨j + 1, by omega, by go_num, hnx.out⟩
                      case measure => simp [intOf]; omega
                · obtain rfl : j = M := by omega
                  have hEi := hlast.out hoj.out
                  have hji : ¬ (j : Int) < (j : Int) := by omega
                  have hic : (i : Int) ≤ (c : Int) := by omega
                  have hnt : namesC (l.take i) = (namesC l).take i := by unfold namesC; rw [List.map_take]
                  have hlt2 : (l.take i).length = i := by rw [List.length_take, hN.out]; omega
                  obtain ⟨d, hd⟩ : ∃ d, decide (0 ≤ idxS z ((namesC l).take i)) = d := ⟨_, rfl⟩
                  have hcall := hide (fun (n : Later W5) => calls_later (v := .bool d) (n := n) (by
                    have := chas_walk (some ⟨b, off, none⟩) (l.take i) c z n.val (by rw [hlt2]; omega) ((hat5.take).later n.keeps)
                    rw [hlt2, hnt, hd] at this
                    exact this))
                  have hg0 : ∀ n : Later W5, n.val.cell? ⟨g, 0, none⟩ = some (.string z) := fun n => cell_later n.keeps g0
                  have hany := later_any W5
                  clear hlist hlast hF5 hat5 hnt hlt2
                  cases d with
                  | true =>
                    obtain rfl := (hfin2.out (by rw [hEi, if_pos (of_decide_eq_true hd)])).out
                    clear hEi hd hfin2
                    go_upto_region 20 with fail
                    refine wp_region_later (by kernel_rfl) (by kernel_rfl) ?_
                    repeat (go_big_quiet_step ((go_at_call 53; with_reducible exact hcall.out _)))
                    refine wpQuiet_nil ?_
                    clear hcall hg0 hany
                    rintro _ ⟨n8, rfl⟩
                    have hb8 := n8.keeps
                    generalize n8.val = w8 at *
                    go_wp2_with fail
                    go_ret
                    exact ⟨rfl, ext_trans hb5 hb8⟩
                  | false =>
                    have h0 : Hid (curErr l (i + 1) = 0) := hide (by rw [curErr_next ho.out, hEi, if_neg (of_decide_eq_false hd)])
                    clear hEi hd hfin2
                    go_upto_region 20 with fail
                    refine wp_region_later (by kernel_rfl) (by kernel_rfl) ?_
                    repeat (go_big_quiet_step ((go_at_call 53; with_reducible exact hcall.out _)))
                    refine wpQuiet_nil ?_
                    clear hcall hg0 hany
                    rintro _ ⟨n8, rfl⟩
                    have hb8 := n8.keeps
                    generalize n8.val = w8 at *
                    go_wp2_with fail
                    go_roundw
                    case rel => exact ⟨i + 1, by omega, by go_num, h0.out, ext_trans hb5 hb8⟩
                    case measure => simp [intOf]; omega
      · obtain rfl : i = N := by omega
        have hVV : Hid (V = 0) := hide (by rw [← hV'.out]; exact ho.out)
        have hii : ¬ (i : Int) < (i : Int) := by omega
        clear h
        go_wp2_with fail
        go_ret
        exact ⟨by rw [hVV.out]; rfl, hb⟩
end Go.Proofs.YtonpfohhedcjbaaGreatDoor

namespace Go.Proofs.YtonpfohhedcjbaaGreatDoor
open Go.RowKit
set_option maxRecDepth 100000

theorem idxS_mem {z : ByteArray} {xs : List ByteArray} : 0 ≤ idxS z xs ↔ z ∈ xs := by
  constructor
  · intro h
    apply Classical.byContradiction
    intro hz
    rw [idxS_none (fun y hy => by rw [toList_dataL, toList_dataL]; exact beq_false_of_ne fun e => hz (dat_inj e ▸ hy))] at h
    exact absurd h (by decide)
  · intro hz
    apply Classical.byContradiction
    intro h
    have hall : ∀ n, n ≤ xs.length → ∀ y ∈ xs.take n, (y.toList == z.toList) = false := by
      intro n
      induction n with
      | zero => intro _ y hy; simp at hy
      | succ n ih =>
        intro hn y hy
        have hx : xs[n]? = some xs[n] := List.getElem?_eq_getElem (by omega)
        cases hq : (xs[n].toList == z.toList) with
        | false => exact take_miss hx (ih (by omega)) hq y hy
        | true => rw [idxS_hit hx (ih (by omega)) hq] at h; exact absurd (by omega) h
    have := hall xs.length (Nat.le_refl _) z (by rw [List.take_length]; exact hz)
    simp at this
/-- The first place of a name lies before place i: it stands among the first i. -/
theorem idx_take2 {xs : List ByteArray} {i : Nat} {z : ByteArray} (h : xs[i]? = some z) : idxS z xs < (i : Int) ↔ 0 ≤ idxS z (xs.take i) := by
  rw [idxS_mem]
  have hl := (List.getElem?_eq_some_iff.1 h).1
  by_cases hm : z ∈ xs.take i
  · refine ⟨fun _ => hm, fun _ => ?_⟩
    -- the first hit lies within
    obtain ⟨k, hk⟩ := List.getElem?_of_mem hm
    rw [List.getElem?_take] at hk
    split at hk
    · rename_i hki
      apply Classical.byContradiction
      intro hge
      have hall : ∀ n, n ≤ k → ∀ y ∈ xs.take n, (y.toList == z.toList) = false := by
        intro n
        induction n with
        | zero => intro _ y hy; simp at hy
        | succ n ih =>
          intro hn y hy
          have hx : xs[n]? = some xs[n] := List.getElem?_eq_getElem (by omega)
          cases hq : (xs[n].toList == z.toList) with
          | false => exact take_miss hx (ih (by omega)) hq y hy
          | true => rw [idxS_hit hx (ih (by omega)) hq] at hge; exact absurd (by omega) hge
      rw [idxS_hit hk (hall k (Nat.le_refl _)) (by simp)] at hge
      omega
    · cases hk
  · refine ⟨fun hlt => ?_, fun h2 => absurd h2 hm⟩
    exfalso
    have h0 : ∀ y ∈ xs.take i, (y.toList == z.toList) = false := fun y hy => by
      rw [toList_dataL, toList_dataL]; exact beq_false_of_ne fun e => hm (dat_inj e ▸ hy)
    rw [idxS_hit h h0 (by simp)] at hlt
    omega
set_option maxHeartbeats 8000000 in
theorem r11valid_walk (A : Option Addr) (l : List Curr) (c : Nat) (w : World) (hn : l.length ≤ 9223372036854775807) (hm : ∀ x ∈ l, x.2.length ≤ 9223372036854775807) (h : At kCurr AnyB w A l) :
    Calls Tryz.prog 31 #[.slice A l.length c] w fun e w' => e = .returned (.int .i64 (validC l : Int)) ∧ Below w.heap.size w w' := by
  obtain ⟨V, hV⟩ : ∃ V, validC l = V := ⟨_, rfl⟩
  rw [hV]
  by_cases h16 : 16 < l.length
  · have hV' : V = 2 := by rw [← hV]; exact if_pos h16
    have h16i : (16 : Int) < (l.length : Int) := by omega
    rw [hV']
    obtain ⟨N, hN⟩ : ∃ N, l.length = N := ⟨_, rfl⟩
    rw [hN] at h16i hn ⊢
    clear hV hV' h hN h16 hm
    go_enter Tryz.func31, Tryz.ntmps31
    go_wp2_with fail
    go_ret
    exact ⟨rfl, Below.refl _ _⟩
  · have hV' : curErr l l.length = V := by rw [← hV]; exact (if_neg h16).symm
    obtain ⟨N, hN⟩ : ∃ N, l.length = N := ⟨_, rfl⟩
    have h16i : ¬ (16 : Int) < (N : Int) := by omega
    rw [hN] at hV' hn ⊢
    have hN16 : N ≤ 16 := by omega
    replace hV' := hide hV'
    replace hN := hide hN
    replace hm := hide hm
    clear hV h16
    go_enter Tryz.func31, Tryz.ntmps31
    go_wp2_with fail
    go_loopw [3] (fun v wr => ∃ i : Nat, i ≤ N ∧ v = .int .i64 i ∧ curErr l i = 0 ∧ Below w.heap.size w wr) (fun v _ => N - (intOf v).toNat)
    case atStart => exact ⟨0, Nat.zero_le _, rfl, rfl, Below.refl _ _⟩
    case round =>
      obtain ⟨i, hi, rfl, ho, hb⟩ := hrel
      replace ho := hide ho
      by_cases hlt : i < N
      · obtain ⟨x, hx⟩ : ∃ x, l[i]? = some x := ⟨_, List.getElem?_eq_getElem (by rw [hN.out]; exact hlt)⟩
        have hat := h.later hb
        obtain ⟨b, off, F, c1, rfl, -, hbb, k0, k1, hMc, hF⟩ := hat.curr hx
        have hE : curE l i = if codeB x.1 = false then 10 else if x.2.length = 0 then 16 else if 8 < x.2.length then 2 else if jErr x.2 x.2.length ≠ 0 then jErr x.2 x.2.length else if 0 ≤ idxS x.1 ((namesC l).take i) then 11 else 0 := by unfold curE; rw [hx]
        have hMx := hm.out x (List.mem_of_getElem? hx)
        have hnz := hide (namesC_get hx)
        obtain ⟨z, cs⟩ := x
        dsimp only at k0 k1 hMc hF hE hMx
        obtain ⟨M, hM⟩ : ∃ M, cs.length = M := ⟨_, rfl⟩
        rw [hM] at k1 hMc hE hMx
        have hi0 : (0 : Int) ≤ (i : Int) := by omega
        have hi1 : (i : Int) < (N : Int) := by omega
        have hbn : Below wr.heap.size wr (wr.alloc (.cells #[.string z, .slice F M c1] 36)) := ext_alloc (Below.refl _ _) _
        have g0 : (wr.alloc (.cells #[.string z, .slice F M c1] 36)).cell? ⟨wr.heap.size, 0, none⟩ = some (.string z) := by simp
        have g1 : (wr.alloc (.cells #[.string z, .slice F M c1] 36)).cell? ⟨wr.heap.size, 1, none⟩ = some (.slice F M c1) := by simp
        have hF5 := hF.later hbn
        have hat5 := hat.later hbn
        have hb5 := ext_trans hb hbn
        have hbb5 := Nat.lt_of_lt_of_le hbb hbn.size
        have hgz := World.block_lt_of_cell? _ _ g0
        have hfin : ∀ e, e ≠ 0 → curE l i = e → Hid (V = e) := fun e he h2 => hide (by rw [← hV'.out, curErr_hit ho.out (by rw [h2]; exact he) N hlt, h2])
        have hcv := hide (fun (U : World) => r3valid_walk z U)
        replace hM := hide hM
        clear hx hat hF
        cases hv : codeB z with
        | false =>
          obtain rfl := (hfin 10 (by decide) (by rw [hE, hv]; rfl)).out
          rw [hv] at hcv
          clear hfin hE hv hF5 hat5 h
          go_wp2_with (go_at_call 46; refine (hcv.out _).mono ?_; rintro e w4 ⟨rfl, rfl⟩)
          go_ret
          exact ⟨rfl, hb5⟩
        | true =>
          rw [hv] at hE hcv
          rw [if_neg (by simp)] at hE
          by_cases hM0 : M = 0
          · obtain rfl := (hfin 16 (by decide) (by rw [hE, if_pos hM0])).out
            have hM0i : ((M : Int) == 0) = true := by simp; omega
            clear hfin hE hv hF5 hat5 h hM0
            go_wp2_with (go_at_call 46; refine (hcv.out _).mono ?_; rintro e w4 ⟨rfl, rfl⟩)
            go_ret
            exact ⟨rfl, hb5⟩
          · have hM0i : ((M : Int) == 0) = false := by simp; omega
            rw [if_neg hM0] at hE
            by_cases hM8 : 8 < M
            · obtain rfl := (hfin 2 (by decide) (by rw [hE, if_pos hM8])).out
              have hM8i : (8 : Int) < (M : Int) := by omega
              clear hfin hE hv hF5 hat5 h hM0
              go_wp2_with (go_at_call 46; refine (hcv.out _).mono ?_; rintro e w4 ⟨rfl, rfl⟩)
              go_ret
              exact ⟨rfl, hb5⟩
            · have hM8i : ¬ (8 : Int) < (M : Int) := by omega
              rw [if_neg hM8] at hE
              go_upto_region 13 with (go_at_call 46; refine (hcv.out _).mono ?_; rintro e w4 ⟨rfl, rfl⟩)
              generalize wr.heap.size = g at *
              generalize wr.alloc _ = W5 at *
              have hlist : ∀ e, e ≠ 0 → jErr cs M = e → Hid (V = e) := fun e he h2 => hfin e he (by rw [hE, h2, if_pos he])
              have hlast : jErr cs M = 0 → curE l i = if 0 ≤ idxS z ((namesC l).take i) then 11 else 0 := fun h2 => by rw [hE, if_neg (by rw [h2]; simp)]
              replace hlist := hide hlist
              replace hlast := hide hlast
              have hfin2 := hide (fun (h2 : curE l i = 11) => hfin 11 (by decide) h2)
              clear hfin hE hv hcv h
              go_wp2_with fail
              go_loopw [5] (fun v wr => ∃ j : Nat, j ≤ M ∧ v = .int .i64 j ∧ jErr cs j = 0 ∧ Below W5.heap.size W5 wr) (fun v _ => M - (intOf v).toNat)
              case atStart => exact ⟨0, Nat.zero_le _, rfl, rfl, Below.refl _ _⟩
              case round =>
                clear hb hbn k0 k1
                obtain ⟨j, hj, rfl, hoj, hbj⟩ := hrel
                replace hoj := hide hoj
                have g1j := cell_later hbj g1
                have g0j := cell_later hbj g0
                by_cases hjl : j < M
                · obtain ⟨y, hy⟩ : ∃ y, cs[j]? = some y := ⟨_, List.getElem?_eq_getElem (by rw [hM.out]; exact hjl)⟩
                  have hFj := hF5.later hbj
                  obtain ⟨fb, fo, rfl, -, hfb, ky⟩ := hFj.str hy
                  have hj0 : (0 : Int) ≤ (j : Int) := by omega
                  have hj1 : (j : Int) < (M : Int) := by omega
                  have hjc : (j : Int) ≤ (c1 : Int) := by omega
                  have hcy := hide (fun (U : World) => r3valid_walk y U)
                  have hEj : jE cs j = if codeB y = false then 10 else if 0 ≤ idxS y (cs.take j) then 11 else 0 := by
                    unfold jE; rw [List.getD_eq_getElem?_getD, hy]; rfl
                  obtain ⟨d, hd⟩ : ∃ d, decide (0 ≤ idxS y (cs.take j)) = d := ⟨_, rfl⟩
                  have hcon := hide (fun (n : Later wr) => calls_same (v := .bool d) (n := n) (by
                    have := r2has_walk (some ⟨fb, fo, none⟩) (cs.take j) c1 y n.val (by rw [List.length_take]; omega) ((hFj.take).later n.keeps).any
                    rw [List.length_take, hM.out, Nat.min_eq_left hj, hd] at this
                    exact this))
                  have hk1 : ∀ n : Later wr, n.val.cell? ⟨g, 1, none⟩ = some (.slice (some ⟨fb, fo, none⟩) M c1) := fun n => cell_later n.keeps g1j
                  have hk2 : ∀ n : Later wr, n.val.cell? ⟨fb, fo + j, none⟩ = some (.string y) := fun n => cell_later n.keeps ky
                  have hany := later_any wr
                  have hhit : ∀ e, e ≠ 0 → jE cs j = e → Hid (V = e) := fun e he h2 => hlist.out e he (by rw [jErr_hit hoj.out (by rw [h2]; exact he) M hjl, h2])
                  cases hvy : codeB y with
                  | false =>
                    obtain rfl := (hhit 10 (by decide) (by rw [hEj, hvy]; rfl)).out
                    rw [hvy] at hcy
                    clear hhit hEj hvy hcon hy hF5 hFj hat5 hlist hlast hfin2 hk1 hk2 hany
                    go_wp2_with (go_at_call 46; refine (hcy.out _).mono ?_; rintro e w4 ⟨rfl, rfl⟩)
                    go_ret
                    exact ⟨rfl, ext_trans hb5 hbj⟩
                  | true =>
                    rw [hvy] at hcy hEj
                    cases d with
                    | true =>
                      obtain rfl := (hhit 11 (by decide) (by rw [hEj, if_neg (by simp), if_pos (of_decide_eq_true hd)])).out
                      clear hhit hEj hvy hy hF5 hFj hat5 hlist hlast hfin2 hd
                      go_upto_region 18 with (go_at_call 46; refine (hcy.out _).mono ?_; rintro e w4 ⟨rfl, rfl⟩)
                      refine wp_region_later (by kernel_rfl) (by kernel_rfl) ?_
                      repeat (go_big_quiet_step ((go_at_call 47; with_reducible exact hcon.out _)))
                      refine wpQuiet_nil ?_
                      clear hcon hk1 hk2 hany
                      rintro _ ⟨n8, rfl⟩
                      have hb8 := n8.keeps
                      generalize n8.val = w8 at *
                      go_wp2_with fail
                      go_ret
                      exact ⟨rfl, ext_trans hb5 (ext_trans hbj hb8)⟩
                    | false =>
                      have hnx : Hid (jErr cs (j + 1) = 0) := hide (by rw [jErr_next hoj.out, hEj, if_neg (by simp), if_neg (of_decide_eq_false hd)])
                      clear hhit hEj hvy hy hF5 hFj hat5 hlist hlast hfin2 hd
                      go_upto_region 18 with (go_at_call 46; refine (hcy.out _).mono ?_; rintro e w4 ⟨rfl, rfl⟩)
                      refine wp_region_later (by kernel_rfl) (by kernel_rfl) ?_
                      repeat (go_big_quiet_step ((go_at_call 47; with_reducible exact hcon.out _)))
                      refine wpQuiet_nil ?_
                      clear hcon hk1 hk2 hany
                      rintro _ ⟨n8, rfl⟩
                      have hb8 := n8.keeps
                      generalize n8.val = w8 at *
                      go_wp2_with fail
                      go_roundw
                      case rel => exact ⟨j + 1, by omega, by go_num, hnx.out, ext_trans hbj hb8⟩
                      case measure => simp [intOf]; omega
                · obtain rfl : j = M := by omega
                  have hEi := hlast.out hoj.out
                  have hji : ¬ (j : Int) < (j : Int) := by omega
                  have hidx := r11index_walk (some ⟨b, off, none⟩) l c z wr (by rw [hN.out]; omega) (hat5.later hbj)
                  rw [hN.out] at hidx
                  have hxn : (namesC l)[i]? = some z := hnz.out
                  obtain ⟨q, hq⟩ : ∃ q, idxS z (namesC l) = q := ⟨_, rfl⟩
                  have hqq : q < (i : Int) ↔ 0 ≤ idxS z ((namesC l).take i) := by rw [← hq]; exact idx_take2 hxn
                  rw [hq] at hidx
                  have hbe := ext_trans hb5 hbj
                  clear hlist hlast hF5 hat5 hq
                  by_cases hqi : q < (i : Int)
                  · obtain rfl := (hfin2.out (by rw [hEi, if_pos (hqq.1 hqi)])).out
                    clear hEi hqq hfin2
                    go_wp2_with (go_at_call 48; (with_reducible refine hidx.mono ?_); rintro e w4 ⟨rfl, rfl⟩)
                    go_ret
                    exact ⟨rfl, hbe⟩
                  · have h0 : Hid (curErr l (i + 1) = 0) := hide (by rw [curErr_next ho.out, hEi, if_neg (fun h2 => hqi (hqq.2 h2))])
                    clear hEi hqq hfin2
                    go_wp2_with (go_at_call 48; (with_reducible refine hidx.mono ?_); rintro e w4 ⟨rfl, rfl⟩)
                    go_roundw
                    case rel => exact ⟨i + 1, by omega, by go_num, h0.out, hbe⟩
                    case measure => simp [intOf]; omega
      · obtain rfl : i = N := by omega
        have hVV : Hid (V = 0) := hide (by rw [← hV'.out]; exact ho.out)
        have hii : ¬ (i : Int) < (i : Int) := by omega
        clear h
        go_wp2_with fail
        go_ret
        exact ⟨by rw [hVV.out]; rfl, hb⟩
end Go.Proofs.YtonpfohhedcjbaaGreatDoor

namespace Go.Proofs.YtonpfohhedcjbaaGreatDoor
open Go.RowKit
set_option maxRecDepth 100000

/-- The record of a curriculum. -/
def rowC (x : Curr) : List ByteArray := [x.1, (joinV x.2).2]
def rowsC (l : List Curr) : List (List ByteArray) := if validC l = 0 then l.map rowC else []
def CWriteIs (l : List Curr) (w : World) (e : Ending) (w' : World) : Prop :=
  ∃ v, e = .returned (.tuple #[v, .int .i64 (validC l : Int)]) ∧ Own (kSlice kStr) 34 [9] 0 w.heap.size w' v (rowsC l) ∧ Below w.heap.size w w'
set_option maxHeartbeats 800000 in
theorem fcodesT_walk (A : Option Addr) (cs : List ByteArray) (c : Nat) (w : World) (hS : Std w) (hA : At kStr AnyB w A cs) (hl : cs.length ≤ 9223372036854775807) (hlc : cs.length ≤ c) :
    Calls Tryz.prog 39 #[.slice A cs.length c] w fun e w' => e = .returned (.string (joinV cs).2) ∧ Below w.heap.size w w' := by
  have hj := cjoin_walk A cs c w hS hA hl hlc
  obtain ⟨⟨n, s⟩, hv⟩ : ∃ r, joinV cs = r := ⟨_, rfl⟩
  rw [hv] at hj ⊢
  obtain ⟨N, hN⟩ : ∃ N, cs.length = N := ⟨_, rfl⟩
  rw [hN] at hj ⊢
  clear hv hN hA
  go_enter Tryz.func39, Tryz.ntmps39
  go_wp2_with fail
  refine hj.mono ?_
  rintro e w' ⟨rfl, hb⟩
  dsimp only
  go_wp2
  go_ret
  exact ⟨rfl, hb⟩
set_option maxHeartbeats 8000000 in
theorem cwrite_walk (A : Option Addr) (l : List Curr) (c : Nat) (w : World) (hS : Std w) (hn : l.length ≤ 9223372036854775807) (hlc : l.length ≤ c) (hm : ∀ x ∈ l, x.2.length ≤ 9223372036854775807) (h : At kCurr AnyB w A l) :
    Calls Tryz.prog 22 #[.slice A l.length c] w fun e w' => CWriteIs l w e w' := by
  have hval := cval_walk A l c w hn hlc hm h
  by_cases hv : validC l = 0
  · have hr : Hid (rowsC l = l.map rowC) := hide (if_pos hv)
    have h16 : l.length ≤ 16 := by
      unfold validC at hv
      by_cases e : 16 < l.length
      · rw [if_pos e] at hv; cases hv
      · omega
    obtain ⟨N, hN⟩ : ∃ N, l.length = N := ⟨_, rfl⟩
    rw [hv] at hval
    rw [hN] at hval hn hlc h16 ⊢
    replace hN := hide hN
    replace hv := hide hv
    go_enter Tryz.func22, Tryz.ntmps22
    go_wp2_with fail
    refine hval.mono ?_
    clear hval
    rintro e w1 ⟨rfl, hb1⟩
    have h1 := h.later hb1
    have hS1 := hS.after hb1
    clear h
    go_wp2_with fail
    go_loopw [5, 15] (fun v i wr => ∃ j : Nat, j ≤ N ∧ i = .int .i64 j ∧ Own (kSlice kStr) 34 [9] 0 w1.heap.size wr v ((l.take j).map rowC) ∧ Below w1.heap.size w1 wr) (fun _ i _ => N - (intOf i).toNat)
    case atStart => exact ⟨0, Nat.zero_le _, rfl, Own.nil, Below.refl _ _⟩
    case round =>
      obtain ⟨j, hj, rfl, hown, hb⟩ := hrel
      by_cases hlt : j < N
      · obtain ⟨x, hx⟩ : ∃ x, l[j]? = some x := ⟨_, List.getElem?_eq_getElem (by rw [hN.out]; exact hlt)⟩
        obtain ⟨rb, off, T, c1, rfl, -, hrb, q0, q1, hkc, ht⟩ := (h1.later hb).curr hx
        have hxm := hm x (List.mem_of_getElem? hx)
        have hsn : Hid ((l.take (j + 1)).map rowC = (l.take j).map rowC ++ [rowC x]) := by
          refine hide ?_
          rw [List.take_add_one, hx]; simp
        have hl9 : ((l.take j).map rowC).length ≤ 4000000000 := by rw [List.length_map, List.length_take]; omega
        obtain ⟨lists, hlists⟩ : ∃ lists, (l.take j).map rowC = lists := ⟨_, rfl⟩
        rw [hlists] at hown hsn hl9
        obtain ⟨code, cs⟩ := x
        dsimp only at q0 q1 ht hkc hxm
        obtain ⟨txt, htxt⟩ : ∃ txt, (joinV cs).2 = txt := ⟨_, rfl⟩
        have hrow : Hid (rowC (code, cs) = [code, txt]) := by rw [← htxt]; exact hide rfl
        obtain ⟨k, hk⟩ : ∃ k, cs.length = k := ⟨_, rfl⟩
        have hz := hb.size
        have hu9 : Hid (∀ y, u5.ownBlock = some y → w1.heap.size ≤ y ∧ y < wr.heap.size) := hide hown.lt
        have hcallT := hide (fun (V : World) (hV : Below wr.heap.size wr V) => fcodesT_walk T cs c1 V (hS1.after (ext_trans hb hV)) (ht.later hV).any hxm hkc)
        have hxx : Below wr.heap.size wr (wr.alloc (.cells #[.string code, .slice T k c1] 36)) := ext_alloc (Below.refl _ _) _
        have hC : Cn2 wr.heap.size 0 (.string code) wr.heap.size 1 (.slice T k c1) (wr.alloc (.cells #[.string code, .slice T k c1] 36)) := ⟨by simp, by simp⟩
        have hownx := hown.alloc (.cells #[.string code, .slice T k c1] 36)
        rw [hk] at q1
        have hj0 : (0 : Int) ≤ (j : Int) := by omega
        have hj1 : (j : Int) < (N : Int) := by omega
        clear hx hlists hown
        go_upto_region 8 with fail
        obtain ⟨Wx, hWx⟩ : ∃ Wx, wr.alloc (.cells #[.string code, .slice T k c1] 36) = Wx := ⟨_, rfl⟩
        obtain ⟨xb, hxb⟩ : ∃ xb, wr.heap.size = xb := ⟨_, rfl⟩
        have hxl : xb < Wx.heap.size := by rw [← hWx, World.size_alloc]; omega
        rw [hWx] at hC hownx hxx
        have hbx : Below w1.heap.size w1 Wx := ext_trans hb hxx
        have hcall := hide (fun (V : World) (hV : Below Wx.heap.size Wx V) => (hcallT.out V (ext_trans hxx hV)).mono fun e w' ⟨he, hb⟩ => (⟨by rw [he, htxt], ext_trans hV hb, hC.later (ext_trans hV hb), hownx.later (ext_trans hV hb), ext_trans hbx (ext_trans hV hb)⟩ : e = Ending.returned (.string txt) ∧ Below Wx.heap.size Wx w' ∧ Cn2 wr.heap.size 0 (.string code) wr.heap.size 1 (.slice T k c1) w' ∧ Own (kSlice kStr) 34 [9] 0 w1.heap.size w' u5 lists ∧ Below w1.heap.size w1 w'))
        rw [hxb] at hC hcall hu9
        rw [hWx, hxb]
        rw [hk] at hcall
        have nx : Hid (some xb ≠ u5.ownBlock) := hide fun e => by have := (hu9.out xb e.symm).2; omega
        obtain ⟨q2, q3⟩ := id hC
        have hCd := hC.drew
        have hrefl := Below.refl Wx.heap.size Wx
        clear hcallT htxt hk hWx hxb hxx ht q0 q1
        go_region_held3 (fun W' => W'.cell? ⟨xb, 0, none⟩ = some (.string code) ∧ W'.cell? ⟨xb, 1, none⟩ = some (.slice T k c1)) (first | ((repeat (first | (with_reducible assumption) | (with_reducible refine Cn2.alloc ?_ _) | (with_reducible refine Cn2.drew ?_) | (with_reducible refine Cn2.set ?_ ?_ ?_ _) | omega)); done)) (first | (go_at_call 39; refine (hcall.out _ (by repeat (first | (with_reducible assumption) | (with_reducible refine ext_alloc ?_ _) | (with_reducible refine ext_drew ?_)))).mono ?_; rintro e w2 ⟨rfl, hb2, hx2, ho2, hbw2⟩) | (refine step_own (S := Cn2 xb 0 (.string code) xb 1 (.slice T k c1)) (K := kSlice kStr) (t := 34) (ts := [9]) (B0 := 0) (B := w1.heap.size) (v := u5) (l := lists) rfl (.tmp 19) (.tmp 26) rfl apd_lists (by decide) (by rfl) (by repeat (first | (with_reducible assumption) | (with_reducible refine Own.alloc ?_ _) | (with_reducible refine Own.drew ?_))) hl9 (by decide) _ _ (by rfl) [code, txt] [.slice (some ⟨_, 0, none⟩) 2 2] (rep_lit_strs (cs := #[.string code, .string txt]) (t := 9) [code, txt] (by first | exact heap_alloc_new _ _ | exact block_after (heap_alloc_new _ _) | exact block_after (block_after (heap_alloc_new _ _))) rfl rfl (Below.size (w := w1) (by repeat (first | (with_reducible assumption) | (with_reducible refine ext_alloc ?_ _) | (with_reducible refine ext_drew ?_)))) (by decide)) (World.news_of_block (cs := #[.slice (some ⟨_, 0, none⟩) 2 2]) (t := 34) (fr := (0, 0)) (by first | exact heap_alloc_new _ _ | exact heap_new2 _ _ _)) (by decide) (Nat.zero_le _) (Below.size (w := w1) (by repeat (first | (with_reducible assumption) | (with_reducible refine ext_alloc ?_ _) | (with_reducible refine ext_drew ?_)))) (fun W' hg => Cn2.grown (by repeat (first | (with_reducible assumption) | (with_reducible refine Cn2.alloc ?_ _) | (with_reducible refine Cn2.drew ?_))) hg nx.out nx.out) ?_; intro gA capA w5 ho5 hg5 hs5))
        all_goals
          have hb5 : Below w1.heap.size w1 w5 := below_grown (by repeat (first | (with_reducible assumption) | (with_reducible refine ext_alloc ?_ _) | (with_reducible refine ext_drew ?_))) hg5 (fun y hy => (hu9.out y hy).1)
          clear hcall hC hCd hrefl hg5 hs5
          go_wp2
          go_roundw
          case rel => exact ⟨j + 1, by omega, by go_num, by rw [hsn.out, hrow.out]; exact ho5, hb5⟩
          case measure => simp [intOf]; omega
      · obtain rfl : j = N := by omega
        have hall : Hid (l.take j = l) := hide (by rw [← hN.out]; exact List.take_length)
        rw [hall.out] at hown
        have hfin := hide (hown.lower hb1.size)
        have hbn := ext_trans hb1 hb
        clear hall hown
        go_wp2
        go_ret2
        exact ⟨u5, by rw [hv.out]; rfl, by rw [hr.out]; exact hfin.out, hbn⟩
  · have hr : Hid (rowsC l = []) := hide (if_neg hv)
    obtain ⟨V, hV⟩ : ∃ V, validC l = V := ⟨_, rfl⟩
    obtain ⟨N, hN⟩ : ∃ N, l.length = N := ⟨_, rfl⟩
    rw [hV] at hval hv
    rw [hN] at hval ⊢
    have hv2 : ((V : Int) != 0) = true := by simp; omega
    have hvi : ¬ (V : Int) = 0 := by omega
    replace hV := hide hV
    clear hv hN h hm
    go_enter Tryz.func22, Tryz.ntmps22
    go_wp2_with fail
    refine hval.mono ?_
    clear hval
    rintro e w1 ⟨rfl, hb1⟩
    go_wp2_with fail
    go_ret2
    exact ⟨_, by rw [hV.out]; rfl, by rw [hr.out]; exact Own.nil, hb1⟩
end Go.Proofs.YtonpfohhedcjbaaGreatDoor

namespace Go.Proofs.YtonpfohhedcjbaaGreatDoor
open Go.RowKit
set_option maxRecDepth 100000

set_option maxHeartbeats 8000000 in
theorem r11write_walk (A : Option Addr) (l : List Curr) (c : Nat) (w : World) (hn : l.length ≤ 9223372036854775807) (hm : ∀ x ∈ l, x.2.length ≤ 9223372036854775807) (h : At kCurr AnyB w A l) :
    Calls Tryz.prog 15 #[.slice A l.length c] w fun e w' => CWriteIs l w e w' := by
  have hval := r11valid_walk A l c w hn hm h
  by_cases hv : validC l = 0
  · have hr : Hid (rowsC l = l.map rowC) := hide (if_pos hv)
    have h16 : l.length ≤ 16 := by
      unfold validC at hv
      by_cases e : 16 < l.length
      · rw [if_pos e] at hv; cases hv
      · omega
    obtain ⟨N, hN⟩ : ∃ N, l.length = N := ⟨_, rfl⟩
    rw [hv] at hval
    rw [hN] at hval hn h16 ⊢
    replace hN := hide hN
    replace hv := hide hv
    go_enter Tryz.func15, Tryz.ntmps15
    go_wp2_with fail
    refine hval.mono ?_
    clear hval
    rintro e w1 ⟨rfl, hb1⟩
    have h1 := h.later hb1
    clear h
    go_wp2_with fail
    go_loopw [5, 6] (fun v i wr => ∃ j : Nat, j ≤ N ∧ i = .int .i64 j ∧ Own (kSlice kStr) 34 [9] 0 w1.heap.size wr v ((l.take j).map rowC) ∧ Below w1.heap.size w1 wr) (fun _ i _ => N - (intOf i).toNat)
    case atStart => exact ⟨0, Nat.zero_le _, rfl, Own.nil, Below.refl _ _⟩
    case round =>
      obtain ⟨j, hj, rfl, hown, hb⟩ := hrel
      by_cases hlt : j < N
      · obtain ⟨x, hx⟩ : ∃ x, l[j]? = some x := ⟨_, List.getElem?_eq_getElem (by rw [hN.out]; exact hlt)⟩
        obtain ⟨rb, off, T, c1, rfl, -, hrb, q0, q1, hkc, ht⟩ := (h1.later hb).curr hx
        have hxm := hm x (List.mem_of_getElem? hx)
        have hsn : Hid ((l.take (j + 1)).map rowC = (l.take j).map rowC ++ [rowC x]) := by
          refine hide ?_
          rw [List.take_add_one, hx]; simp
        have hl9 : ((l.take j).map rowC).length ≤ 4000000000 := by rw [List.length_map, List.length_take]; omega
        obtain ⟨lists, hlists⟩ : ∃ lists, (l.take j).map rowC = lists := ⟨_, rfl⟩
        rw [hlists] at hown hsn hl9
        obtain ⟨code, cs⟩ := x
        dsimp only at q0 q1 ht hkc hxm
        obtain ⟨txt, htxt⟩ : ∃ txt, (joinV cs).2 = txt := ⟨_, rfl⟩
        have hrow : Hid (rowC (code, cs) = [code, txt]) := by rw [← htxt]; exact hide rfl
        obtain ⟨k, hk⟩ : ∃ k, cs.length = k := ⟨_, rfl⟩
        have hz := hb.size
        have hj3 := r3join_walk T cs c1 wr ht hxm
        obtain ⟨⟨jn, js⟩, hjv⟩ : ∃ r, joinV cs = r := ⟨_, rfl⟩
        rw [hjv] at hj3 htxt
        dsimp only at htxt
        subst htxt
        rw [hk] at q1 hj3
        have hj0 : (0 : Int) ≤ (j : Int) := by omega
        have hj1 : (j : Int) < (N : Int) := by omega
        clear hx hlists ht hk hjv
        go_upto_region 9 with (go_at_call 32; (with_reducible refine hj3.mono ?_); rintro e w2 ⟨rfl, hb2⟩)
        have hown2 := hown.later hb2
        have q02 := cell_later hb2 q0
        have hrb2 : rb < w2.heap.size := Nat.lt_of_lt_of_le hrb hb2.size
        have hbw2 := ext_trans hb hb2
        clear hj3 hown q0 q1
        go_wp2_with (at_builtin; refine wpList_own (K := kSlice kStr) rfl _ _ rfl apd_lists (by decide) rfl ((hown2.alloc _).alloc _) ?d1 (by decide) ⟨w2.heap.size + 1, 0, none⟩ 1 (by simp [Act.eval]) [code, js] [.slice (some ⟨w2.heap.size, 0, none⟩) 2 2] (rep_lit_strs (cs := #[.string code, .string js]) (t := 9) [code, js] (by first | exact heap_alloc_new _ _ | exact block_after (heap_alloc_new _ _) | exact block_after (block_after (heap_alloc_new _ _))) rfl rfl (Below.size (w := w1) hbw2) (by decide)) (World.news_of_block (cs := #[.slice (some ⟨w2.heap.size, 0, none⟩) 2 2]) (t := 34) (fr := (0, 0)) (by first | exact heap_alloc_new _ _ | exact heap_new2 _ _ _)) (by decide) (Nat.zero_le _) ?d2 ?_)
        case d1 => exact hl9
        case d2 => have := hbw2.size; simp only [World.size_alloc]; omega
        intro v5 w5 ho5 hg5
        have hb5 : Below w1.heap.size w1 w5 := ((hown2.alloc (.cells #[.string code, .string js] 9)).alloc (.cells #[.slice (some ⟨w2.heap.size, 0, none⟩) 2 2] 34)).below_grown (ext_alloc (ext_alloc hbw2 _) _) (Nat.le_refl _) hg5
        clear hg5 hown2
        go_wp2_with fail
        go_roundw
        case rel => exact ⟨j + 1, by omega, by go_num, by rw [hsn.out, hrow.out]; exact ho5, hb5⟩
        case measure => simp [intOf]; omega
      · obtain rfl : j = N := by omega
        have hall : Hid (l.take j = l) := hide (by rw [← hN.out]; exact List.take_length)
        rw [hall.out] at hown
        have hfin := hide (hown.lower hb1.size)
        have hbn := ext_trans hb1 hb
        clear hall hown
        go_wp2
        go_ret2
        exact ⟨u5, by rw [hv.out]; rfl, by rw [hr.out]; exact hfin.out, hbn⟩
  · have hr : Hid (rowsC l = []) := hide (if_neg hv)
    obtain ⟨V, hV⟩ : ∃ V, validC l = V := ⟨_, rfl⟩
    obtain ⟨N, hN⟩ : ∃ N, l.length = N := ⟨_, rfl⟩
    rw [hV] at hval hv
    rw [hN] at hval ⊢
    have hv2 : ((V : Int) != 0) = true := by simp; omega
    have hvi : ¬ (V : Int) = 0 := by omega
    replace hV := hide hV
    clear hv hN h hm
    go_enter Tryz.func15, Tryz.ntmps15
    go_wp2_with fail
    refine hval.mono ?_
    clear hval
    rintro e w1 ⟨rfl, hb1⟩
    go_wp2_with fail
    go_ret2
    exact ⟨_, by rw [hV.out]; rfl, by rw [hr.out]; exact Own.nil, hb1⟩
end Go.Proofs.YtonpfohhedcjbaaGreatDoor
