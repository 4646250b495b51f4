/- Walks of coursefile.Parallel and timetableref10.Parallel; what a class holds. No condition. Eighteen cells that are known in a world. No condition. Walks of curriculum.single and timetableref11.Single. Conditions: the cells of the classes. Plain: the pairs of a list of numbers; two ways to find them; walk of timetableref02.Has. Condition: the cells. Walk of curriculum.Pairs. Conditions: the cells; at most 1000 classes. Walks of timetableref11.SamePairs at equal lists, and of the search for a curriculum's code. Conditions: the cells. What a curriculum holds; walks of curriculum.has and timetableref11.Index. Conditions: the cells. -/
import Derived.Test.YtnbcaklnpflihaaGreatDoorKWide
import Derived.Test.YtnbcaklnpflihaaGreatDoorKSameL
import Derived.Deep.RegionHeld3
import Derived.Deep.DeepCutAuto
import Derived.Test.YtnbcaklnpflihaaGreatDoorKIdxS
import Derived.Test.YtnbcaklnpflihaaGreatDoorKFol
namespace Go.Proofs.YtnbcaklnpflihaaGreatDoor
open Go.RowKit
set_option maxRecDepth 100000

/-- A class: code, course, part, length, patterns, seats, features, staff, starts. -/
abbrev Cls := ByteArray × ByteArray × ByteArray × Int × List Int × Int × List ByteArray × List ByteArray × List (Int × Int)
def kStart : Kind (Int × Int) := kPair kInt kInt
def kCls : Kind Cls := kPair kStr (kPair kStr (kPair kStr (kPair kInt (kPair (kSlice kInt) (kPair kInt (kPair (kSlice kStr) (kPair (kSlice kStr) (kSlice kStart))))))))
def Cls.course (x : Cls) : ByteArray := x.2.1
def Cls.part (x : Cls) : ByteArray := x.2.2.1
/-- Are two classes parallel. -/
def parB (x y : Cls) : Bool := decide (x.2.1 = y.2.1 ∧ x.2.2.1 = y.2.2.1)
/-- The nine values of a class. -/
structure Nine where
  z : ByteArray
  co : ByteArray
  pa : ByteArray
  n : Int
  A4 : Option Addr
  n4 : Nat
  c4 : Nat
  m : Int
  A6 : Option Addr
  n6 : Nat
  c6 : Nat
  A7 : Option Addr
  n7 : Nat
  c7 : Nat
  A8 : Option Addr
  n8 : Nat
  c8 : Nat
/-- A class's cells from a place on. -/
def NineAt (w : World) (b o : Nat) (q : Nine) : Prop :=
  w.cell? ⟨b, o, none⟩ = some (.string q.z) ∧ w.cell? ⟨b, o + 1, none⟩ = some (.string q.co) ∧ w.cell? ⟨b, o + 2, none⟩ = some (.string q.pa) ∧ w.cell? ⟨b, o + 3, none⟩ = some (.int .i64 q.n) ∧ w.cell? ⟨b, o + 4, none⟩ = some (.slice q.A4 q.n4 q.c4) ∧ w.cell? ⟨b, o + 5, none⟩ = some (.int .i64 q.m) ∧ w.cell? ⟨b, o + 6, none⟩ = some (.slice q.A6 q.n6 q.c6) ∧ w.cell? ⟨b, o + 7, none⟩ = some (.slice q.A7 q.n7 q.c7) ∧ w.cell? ⟨b, o + 8, none⟩ = some (.slice q.A8 q.n8 q.c8)
theorem NineAt.later {w w' : World} {b o : Nat} {q : Nine} (h : NineAt w b o q) (hb : Below w.heap.size w w') : NineAt w' b o q := by
  obtain ⟨h0, h1, h2, h3, h4, h5, h6, h7, h8⟩ := h
  exact ⟨cell_later hb h0, cell_later hb h1, cell_later hb h2, cell_later hb h3, cell_later hb h4, cell_later hb h5, cell_later hb h6, cell_later hb h7, cell_later hb h8⟩
theorem At.cls {S : Nat → Prop} {w : World} {A : Option Addr} {l : List Cls} {j : Nat} {x : Cls} (h : At kCls S w A l) (hj : l[j]? = some x) :
    ∃ b off q, A = some ⟨b, off, none⟩ ∧ S b ∧ b < w.heap.size ∧ NineAt w b (off + j * 9) q ∧ q.co = x.2.1 ∧ q.pa = x.2.2.1 := by
  obtain ⟨b, off, vs, e, hs, hlt, hr, hc⟩ := h.get hj
  obtain ⟨u0, r0, e0, h0, hr⟩ := hr
  obtain ⟨u1, r1, e1, h1, hr⟩ := hr
  obtain ⟨u2, r2, e2, h2, hr⟩ := hr
  obtain ⟨u3, r3, e3, h3, hr⟩ := hr
  obtain ⟨u4, r4, e4, h4, hr⟩ := hr
  obtain ⟨u5, r5, e5, h5, hr⟩ := hr
  obtain ⟨u6, r6, e6, h6, hr⟩ := hr
  obtain ⟨u7, u8, e7, h7, h8⟩ := hr
  obtain ⟨A4, c4, rfl, -, -⟩ := h4
  obtain ⟨A6, c6, rfl, -, -⟩ := h6
  obtain ⟨A7, c7, rfl, -, -⟩ := h7
  obtain ⟨A8, c8, rfl, -, -⟩ := h8
  have h0 : u0 = [.string x.1] := h0
  have h1 : u1 = [.string x.2.1] := h1
  have h2 : u2 = [.string x.2.2.1] := h2
  have h3 : u3 = [.int .i64 x.2.2.2.1] := h3
  have h5 : u5 = [.int .i64 x.2.2.2.2.2.1] := h5
  subst h0 h1 h2 h3 h5 e7 e6 e5 e4 e3 e2 e1 e0
  have hk : ∀ i u, ([Value.string x.1, .string x.2.1, .string x.2.2.1, .int .i64 x.2.2.2.1, .slice A4 x.2.2.2.2.1.length c4, .int .i64 x.2.2.2.2.2.1, .slice A6 x.2.2.2.2.2.2.1.length c6, .slice A7 x.2.2.2.2.2.2.2.1.length c7, .slice A8 x.2.2.2.2.2.2.2.2.length c8] : List Value)[i]? = some u → w.cell? ⟨b, off + j * 9 + i, none⟩ = some u := hc
  exact ⟨b, off, ⟨x.1, x.2.1, x.2.2.1, x.2.2.2.1, A4, x.2.2.2.2.1.length, c4, x.2.2.2.2.2.1, A6, x.2.2.2.2.2.2.1.length, c6, A7, x.2.2.2.2.2.2.2.1.length, c7, A8, x.2.2.2.2.2.2.2.2.length, c8⟩, e, hs, hlt,
    ⟨hk 0 _ rfl, hk 1 _ rfl, hk 2 _ rfl, hk 3 _ rfl, hk 4 _ rfl, hk 5 _ rfl, hk 6 _ rfl, hk 7 _ rfl, hk 8 _ rfl⟩, rfl, rfl⟩
theorem toList_noP {X Y : ByteArray} (h : ¬ X = Y) : (X.toList == Y.toList) = false := toList_no fun e => h (dat_inj e)
def Nine.val (q : Nine) : Value := .agg #[.string q.z, .string q.co, .string q.pa, .int .i64 q.n, .slice q.A4 q.n4 q.c4, .int .i64 q.m, .slice q.A6 q.n6 q.c6, .slice q.A7 q.n7 q.c7, .slice q.A8 q.n8 q.c8]
-- <par>
end Go.Proofs.YtnbcaklnpflihaaGreatDoor

namespace Go.Proofs.YtnbcaklnpflihaaGreatDoor
open Go.RowKit
set_option maxRecDepth 100000

abbrev Cn18 (b1 o1 : Nat) (v1 : Value) (b2 o2 : Nat) (v2 : Value) (b3 o3 : Nat) (v3 : Value) (b4 o4 : Nat) (v4 : Value) (b5 o5 : Nat) (v5 : Value) (b6 o6 : Nat) (v6 : Value) (b7 o7 : Nat) (v7 : Value) (b8 o8 : Nat) (v8 : Value) (b9 o9 : Nat) (v9 : Value) (b10 o10 : Nat) (v10 : Value) (b11 o11 : Nat) (v11 : Value) (b12 o12 : Nat) (v12 : Value) (b13 o13 : Nat) (v13 : Value) (b14 o14 : Nat) (v14 : Value) (b15 o15 : Nat) (v15 : Value) (b16 o16 : Nat) (v16 : Value) (b17 o17 : Nat) (v17 : Value) (b18 o18 : Nat) (v18 : Value) (W : World) : Prop := W.cell? ⟨b1, o1, none⟩ = some v1 ∧ W.cell? ⟨b2, o2, none⟩ = some v2 ∧ W.cell? ⟨b3, o3, none⟩ = some v3 ∧ W.cell? ⟨b4, o4, none⟩ = some v4 ∧ W.cell? ⟨b5, o5, none⟩ = some v5 ∧ W.cell? ⟨b6, o6, none⟩ = some v6 ∧ W.cell? ⟨b7, o7, none⟩ = some v7 ∧ W.cell? ⟨b8, o8, none⟩ = some v8 ∧ W.cell? ⟨b9, o9, none⟩ = some v9 ∧ W.cell? ⟨b10, o10, none⟩ = some v10 ∧ W.cell? ⟨b11, o11, none⟩ = some v11 ∧ W.cell? ⟨b12, o12, none⟩ = some v12 ∧ W.cell? ⟨b13, o13, none⟩ = some v13 ∧ W.cell? ⟨b14, o14, none⟩ = some v14 ∧ W.cell? ⟨b15, o15, none⟩ = some v15 ∧ W.cell? ⟨b16, o16, none⟩ = some v16 ∧ W.cell? ⟨b17, o17, none⟩ = some v17 ∧ W.cell? ⟨b18, o18, none⟩ = some v18
section
variable {b1 o1 b2 o2 b3 o3 b4 o4 b5 o5 b6 o6 b7 o7 b8 o8 b9 o9 b10 o10 b11 o11 b12 o12 b13 o13 b14 o14 b15 o15 b16 o16 b17 o17 b18 o18 : Nat} {v1 v2 v3 v4 v5 v6 v7 v8 v9 v10 v11 v12 v13 v14 v15 v16 v17 v18 : Value} {W W' : World}
theorem Cn18.later (h : Cn18 b1 o1 v1 b2 o2 v2 b3 o3 v3 b4 o4 v4 b5 o5 v5 b6 o6 v6 b7 o7 v7 b8 o8 v8 b9 o9 v9 b10 o10 v10 b11 o11 v11 b12 o12 v12 b13 o13 v13 b14 o14 v14 b15 o15 v15 b16 o16 v16 b17 o17 v17 b18 o18 v18 W) (hb : Below W.heap.size W W') : Cn18 b1 o1 v1 b2 o2 v2 b3 o3 v3 b4 o4 v4 b5 o5 v5 b6 o6 v6 b7 o7 v7 b8 o8 v8 b9 o9 v9 b10 o10 v10 b11 o11 v11 b12 o12 v12 b13 o13 v13 b14 o14 v14 b15 o15 v15 b16 o16 v16 b17 o17 v17 b18 o18 v18 W' := ⟨cell_later hb h.1, cell_later hb h.2.1, cell_later hb h.2.2.1, cell_later hb h.2.2.2.1, cell_later hb h.2.2.2.2.1, cell_later hb h.2.2.2.2.2.1, cell_later hb h.2.2.2.2.2.2.1, cell_later hb h.2.2.2.2.2.2.2.1, cell_later hb h.2.2.2.2.2.2.2.2.1, cell_later hb h.2.2.2.2.2.2.2.2.2.1, cell_later hb h.2.2.2.2.2.2.2.2.2.2.1, cell_later hb h.2.2.2.2.2.2.2.2.2.2.2.1, cell_later hb h.2.2.2.2.2.2.2.2.2.2.2.2.1, cell_later hb h.2.2.2.2.2.2.2.2.2.2.2.2.2.1, cell_later hb h.2.2.2.2.2.2.2.2.2.2.2.2.2.2.1, cell_later hb h.2.2.2.2.2.2.2.2.2.2.2.2.2.2.2.1, cell_later hb h.2.2.2.2.2.2.2.2.2.2.2.2.2.2.2.2.1, cell_later hb h.2.2.2.2.2.2.2.2.2.2.2.2.2.2.2.2.2⟩
theorem Cn18.alloc (h : Cn18 b1 o1 v1 b2 o2 v2 b3 o3 v3 b4 o4 v4 b5 o5 v5 b6 o6 v6 b7 o7 v7 b8 o8 v8 b9 o9 v9 b10 o10 v10 b11 o11 v11 b12 o12 v12 b13 o13 v13 b14 o14 v14 b15 o15 v15 b16 o16 v16 b17 o17 v17 b18 o18 v18 W) (o : Obj) : Cn18 b1 o1 v1 b2 o2 v2 b3 o3 v3 b4 o4 v4 b5 o5 v5 b6 o6 v6 b7 o7 v7 b8 o8 v8 b9 o9 v9 b10 o10 v10 b11 o11 v11 b12 o12 v12 b13 o13 v13 b14 o14 v14 b15 o15 v15 b16 o16 v16 b17 o17 v17 b18 o18 v18 (W.alloc o) := ⟨cell_alloc_of h.1 o, cell_alloc_of h.2.1 o, cell_alloc_of h.2.2.1 o, cell_alloc_of h.2.2.2.1 o, cell_alloc_of h.2.2.2.2.1 o, cell_alloc_of h.2.2.2.2.2.1 o, cell_alloc_of h.2.2.2.2.2.2.1 o, cell_alloc_of h.2.2.2.2.2.2.2.1 o, cell_alloc_of h.2.2.2.2.2.2.2.2.1 o, cell_alloc_of h.2.2.2.2.2.2.2.2.2.1 o, cell_alloc_of h.2.2.2.2.2.2.2.2.2.2.1 o, cell_alloc_of h.2.2.2.2.2.2.2.2.2.2.2.1 o, cell_alloc_of h.2.2.2.2.2.2.2.2.2.2.2.2.1 o, cell_alloc_of h.2.2.2.2.2.2.2.2.2.2.2.2.2.1 o, cell_alloc_of h.2.2.2.2.2.2.2.2.2.2.2.2.2.2.1 o, cell_alloc_of h.2.2.2.2.2.2.2.2.2.2.2.2.2.2.2.1 o, cell_alloc_of h.2.2.2.2.2.2.2.2.2.2.2.2.2.2.2.2.1 o, cell_alloc_of h.2.2.2.2.2.2.2.2.2.2.2.2.2.2.2.2.2 o⟩
theorem Cn18.drew (h : Cn18 b1 o1 v1 b2 o2 v2 b3 o3 v3 b4 o4 v4 b5 o5 v5 b6 o6 v6 b7 o7 v7 b8 o8 v8 b9 o9 v9 b10 o10 v10 b11 o11 v11 b12 o12 v12 b13 o13 v13 b14 o14 v14 b15 o15 v15 b16 o16 v16 b17 o17 v17 b18 o18 v18 W) : Cn18 b1 o1 v1 b2 o2 v2 b3 o3 v3 b4 o4 v4 b5 o5 v5 b6 o6 v6 b7 o7 v7 b8 o8 v8 b9 o9 v9 b10 o10 v10 b11 o11 v11 b12 o12 v12 b13 o13 v13 b14 o14 v14 b15 o15 v15 b16 o16 v16 b17 o17 v17 b18 o18 v18 W.drew := h
theorem Cn18.set {c i : Nat} (h : Cn18 b1 o1 v1 b2 o2 v2 b3 o3 v3 b4 o4 v4 b5 o5 v5 b6 o6 v6 b7 o7 v7 b8 o8 v8 b9 o9 v9 b10 o10 v10 b11 o11 v11 b12 o12 v12 b13 o13 v13 b14 o14 v14 b15 o15 v15 b16 o16 v16 b17 o17 v17 b18 o18 v18 W) (h1 : b1 ≠ c) (h2 : b2 ≠ c) (h3 : b3 ≠ c) (h4 : b4 ≠ c) (h5 : b5 ≠ c) (h6 : b6 ≠ c) (h7 : b7 ≠ c) (h8 : b8 ≠ c) (h9 : b9 ≠ c) (h10 : b10 ≠ c) (h11 : b11 ≠ c) (h12 : b12 ≠ c) (h13 : b13 ≠ c) (h14 : b14 ≠ c) (h15 : b15 ≠ c) (h16 : b16 ≠ c) (h17 : b17 ≠ c) (h18 : b18 ≠ c) (u : Value) : Cn18 b1 o1 v1 b2 o2 v2 b3 o3 v3 b4 o4 v4 b5 o5 v5 b6 o6 v6 b7 o7 v7 b8 o8 v8 b9 o9 v9 b10 o10 v10 b11 o11 v11 b12 o12 v12 b13 o13 v13 b14 o14 v14 b15 o15 v15 b16 o16 v16 b17 o17 v17 b18 o18 v18 (W.setCell ⟨c, i, none⟩ u) := ⟨cell_set_other h.1 h1 u, cell_set_other h.2.1 h2 u, cell_set_other h.2.2.1 h3 u, cell_set_other h.2.2.2.1 h4 u, cell_set_other h.2.2.2.2.1 h5 u, cell_set_other h.2.2.2.2.2.1 h6 u, cell_set_other h.2.2.2.2.2.2.1 h7 u, cell_set_other h.2.2.2.2.2.2.2.1 h8 u, cell_set_other h.2.2.2.2.2.2.2.2.1 h9 u, cell_set_other h.2.2.2.2.2.2.2.2.2.1 h10 u, cell_set_other h.2.2.2.2.2.2.2.2.2.2.1 h11 u, cell_set_other h.2.2.2.2.2.2.2.2.2.2.2.1 h12 u, cell_set_other h.2.2.2.2.2.2.2.2.2.2.2.2.1 h13 u, cell_set_other h.2.2.2.2.2.2.2.2.2.2.2.2.2.1 h14 u, cell_set_other h.2.2.2.2.2.2.2.2.2.2.2.2.2.2.1 h15 u, cell_set_other h.2.2.2.2.2.2.2.2.2.2.2.2.2.2.2.1 h16 u, cell_set_other h.2.2.2.2.2.2.2.2.2.2.2.2.2.2.2.2.1 h17 u, cell_set_other h.2.2.2.2.2.2.2.2.2.2.2.2.2.2.2.2.2 h18 u⟩
theorem Cn18.grown {x : Value} (h : Cn18 b1 o1 v1 b2 o2 v2 b3 o3 v3 b4 o4 v4 b5 o5 v5 b6 o6 v6 b7 o7 v7 b8 o8 v8 b9 o9 v9 b10 o10 v10 b11 o11 v11 b12 o12 v12 b13 o13 v13 b14 o14 v14 b15 o15 v15 b16 o16 v16 b17 o17 v17 b18 o18 v18 W) (hg : W.grownBy W' x.ownBlock) (h1 : some b1 ≠ x.ownBlock) (h2 : some b2 ≠ x.ownBlock) (h3 : some b3 ≠ x.ownBlock) (h4 : some b4 ≠ x.ownBlock) (h5 : some b5 ≠ x.ownBlock) (h6 : some b6 ≠ x.ownBlock) (h7 : some b7 ≠ x.ownBlock) (h8 : some b8 ≠ x.ownBlock) (h9 : some b9 ≠ x.ownBlock) (h10 : some b10 ≠ x.ownBlock) (h11 : some b11 ≠ x.ownBlock) (h12 : some b12 ≠ x.ownBlock) (h13 : some b13 ≠ x.ownBlock) (h14 : some b14 ≠ x.ownBlock) (h15 : some b15 ≠ x.ownBlock) (h16 : some b16 ≠ x.ownBlock) (h17 : some b17 ≠ x.ownBlock) (h18 : some b18 ≠ x.ownBlock) : Cn18 b1 o1 v1 b2 o2 v2 b3 o3 v3 b4 o4 v4 b5 o5 v5 b6 o6 v6 b7 o7 v7 b8 o8 v8 b9 o9 v9 b10 o10 v10 b11 o11 v11 b12 o12 v12 b13 o13 v13 b14 o14 v14 b15 o15 v15 b16 o16 v16 b17 o17 v17 b18 o18 v18 W' := ⟨cell_grown h.1 hg h1, cell_grown h.2.1 hg h2, cell_grown h.2.2.1 hg h3, cell_grown h.2.2.2.1 hg h4, cell_grown h.2.2.2.2.1 hg h5, cell_grown h.2.2.2.2.2.1 hg h6, cell_grown h.2.2.2.2.2.2.1 hg h7, cell_grown h.2.2.2.2.2.2.2.1 hg h8, cell_grown h.2.2.2.2.2.2.2.2.1 hg h9, cell_grown h.2.2.2.2.2.2.2.2.2.1 hg h10, cell_grown h.2.2.2.2.2.2.2.2.2.2.1 hg h11, cell_grown h.2.2.2.2.2.2.2.2.2.2.2.1 hg h12, cell_grown h.2.2.2.2.2.2.2.2.2.2.2.2.1 hg h13, cell_grown h.2.2.2.2.2.2.2.2.2.2.2.2.2.1 hg h14, cell_grown h.2.2.2.2.2.2.2.2.2.2.2.2.2.2.1 hg h15, cell_grown h.2.2.2.2.2.2.2.2.2.2.2.2.2.2.2.1 hg h16, cell_grown h.2.2.2.2.2.2.2.2.2.2.2.2.2.2.2.2.1 hg h17, cell_grown h.2.2.2.2.2.2.2.2.2.2.2.2.2.2.2.2.2 hg h18⟩
theorem Cn18.only {g : Nat} (h : Cn18 b1 o1 v1 b2 o2 v2 b3 o3 v3 b4 o4 v4 b5 o5 v5 b6 o6 v6 b7 o7 v7 b8 o8 v8 b9 o9 v9 b10 o10 v10 b11 o11 v11 b12 o12 v12 b13 o13 v13 b14 o14 v14 b15 o15 v15 b16 o16 v16 b17 o17 v17 b18 o18 v18 W) (hg : Only g W W') (h1 : b1 ≠ g) (h2 : b2 ≠ g) (h3 : b3 ≠ g) (h4 : b4 ≠ g) (h5 : b5 ≠ g) (h6 : b6 ≠ g) (h7 : b7 ≠ g) (h8 : b8 ≠ g) (h9 : b9 ≠ g) (h10 : b10 ≠ g) (h11 : b11 ≠ g) (h12 : b12 ≠ g) (h13 : b13 ≠ g) (h14 : b14 ≠ g) (h15 : b15 ≠ g) (h16 : b16 ≠ g) (h17 : b17 ≠ g) (h18 : b18 ≠ g) : Cn18 b1 o1 v1 b2 o2 v2 b3 o3 v3 b4 o4 v4 b5 o5 v5 b6 o6 v6 b7 o7 v7 b8 o8 v8 b9 o9 v9 b10 o10 v10 b11 o11 v11 b12 o12 v12 b13 o13 v13 b14 o14 v14 b15 o15 v15 b16 o16 v16 b17 o17 v17 b18 o18 v18 W' := ⟨cell_only h.1 hg h1, cell_only h.2.1 hg h2, cell_only h.2.2.1 hg h3, cell_only h.2.2.2.1 hg h4, cell_only h.2.2.2.2.1 hg h5, cell_only h.2.2.2.2.2.1 hg h6, cell_only h.2.2.2.2.2.2.1 hg h7, cell_only h.2.2.2.2.2.2.2.1 hg h8, cell_only h.2.2.2.2.2.2.2.2.1 hg h9, cell_only h.2.2.2.2.2.2.2.2.2.1 hg h10, cell_only h.2.2.2.2.2.2.2.2.2.2.1 hg h11, cell_only h.2.2.2.2.2.2.2.2.2.2.2.1 hg h12, cell_only h.2.2.2.2.2.2.2.2.2.2.2.2.1 hg h13, cell_only h.2.2.2.2.2.2.2.2.2.2.2.2.2.1 hg h14, cell_only h.2.2.2.2.2.2.2.2.2.2.2.2.2.2.1 hg h15, cell_only h.2.2.2.2.2.2.2.2.2.2.2.2.2.2.2.1 hg h16, cell_only h.2.2.2.2.2.2.2.2.2.2.2.2.2.2.2.2.1 hg h17, cell_only h.2.2.2.2.2.2.2.2.2.2.2.2.2.2.2.2.2 hg h18⟩
end
end Go.Proofs.YtnbcaklnpflihaaGreatDoor

namespace Go.Proofs.YtnbcaklnpflihaaGreatDoor
open Go.RowKit
set_option maxRecDepth 100000

/-- Is no one of the first n classes, but class i, parallel to x. -/
def singTo (l : List Cls) (x : Cls) (i : Nat) : Nat → Bool
  | 0 => true
  | n + 1 => singTo l x i n && (decide (n = i) || !(match l[n]? with | some y => parB x y | none => false))
def singB (l : List Cls) (i : Nat) : Bool := match l[i]? with | some x => singTo l x i l.length | none => false
theorem nine_new (w : World) (r : Nine) (t : TypeId) : NineAt (w.alloc (.cells #[.string r.z, .string r.co, .string r.pa, .int .i64 r.n, .slice r.A4 r.n4 r.c4, .int .i64 r.m, .slice r.A6 r.n6 r.c6, .slice r.A7 r.n7 r.c7, .slice r.A8 r.n8 r.c8] t)) w.heap.size 0 r := by
  refine ⟨?_, ?_, ?_, ?_, ?_, ?_, ?_, ?_, ?_⟩ <;> simp
theorem singTo_false {l : List Cls} {x : Cls} {i k : Nat} (h : singTo l x i k = false) : ∀ n, k ≤ n → singTo l x i n = false
  | 0, hk => by
    have e : k = 0 := by omega
    rw [e] at h
    exact h
  | n + 1, hk => by
    by_cases e : k = n + 1
    · rw [← e]; exact h
    · rw [singTo, singTo_false h n (by omega), Bool.false_and]
end Go.Proofs.YtnbcaklnpflihaaGreatDoor

namespace Go.Proofs.YtnbcaklnpflihaaGreatDoor
open Go.RowKit
set_option maxRecDepth 100000

def pairI (i k : Nat) : Int × Int := ((i : Int), (k : Int))
/-- Each with each later one. -/
def pairsL : List Nat → List (Int × Int)
  | [] => []
  | i :: r => r.map (pairI i) ++ pairsL r
/-- The same, where only those that are fit count. -/
def refL (ok : Nat → Bool) : List Nat → List (Int × Int)
  | [] => []
  | i :: r => (r.filter fun k => ok i && ok k).map (pairI i) ++ refL ok r
theorem refL_eq (ok : Nat → Bool) : ∀ l : List Nat, refL ok l = pairsL (l.filter ok)
  | [] => rfl
  | i :: r => by
    rw [refL, refL_eq ok r]
    cases h : ok i with
    | true => rw [List.filter_cons_of_pos h, pairsL]; simp only [Bool.true_and]
    | false => rw [List.filter_cons_of_neg (by rw [h]; simp)]; simp
/-- Is class i of the courses cs, and has it no parallel one. -/
def okC (cs : List ByteArray) (l : List Cls) (i : Nat) : Bool := match l[i]? with | some x => decide (0 ≤ idxS x.2.1 cs) && singB l i | none => false
def pairsV (cs : List ByteArray) (l : List Cls) : List (Int × Int) := pairsL ((List.range l.length).filter (okC cs l))
theorem range_drop {N i : Nat} (h : i < N) : (List.range N).drop i = i :: (List.range N).drop (i + 1) := by
  rw [List.drop_eq_getElem_cons (by simpa using h)]
  simp
theorem pairsL_len : ∀ l : List Nat, (pairsL l).length ≤ l.length * l.length
  | [] => Nat.le_refl _
  | i :: r => by
    rw [pairsL, List.length_append, List.length_map]
    have := pairsL_len r
    simp only [List.length_cons]
    have h2 : (r.length + 1) * (r.length + 1) = r.length * r.length + r.length + r.length + 1 := by
      rw [Nat.add_mul, Nat.mul_add]; omega
    omega
end Go.Proofs.YtnbcaklnpflihaaGreatDoor

namespace Go.Proofs.YtnbcaklnpflihaaGreatDoor
open Go.RowKit
set_option maxRecDepth 100000

theorem apd_nums : Apd Tryz.prog 51 3 1 8 := apd Tryz.underlying51 (z := .int .i64 0) (by kernel_rfl) rfl
theorem rep_pairI {S : Nat → Prop} {w : World} (i k : Nat) : kStart.rep S w (pairI i k) [.int .i64 i, .int .i64 k] := ⟨[_], [_], rfl, rfl, rfl⟩
def numsI (l : List Nat) : List Int := l.map fun (i : Nat) => (i : Int)
theorem filter_next {ok : Nat → Bool} {j : Nat} : (List.range (j + 1)).filter ok = (List.range j).filter ok ++ (if ok j = true then [j] else []) := by
  rw [List.range_succ, List.filter_append]
  congr 1
  by_cases h : ok j = true
  · rw [if_pos h, List.filter_cons_of_pos h]; rfl
  · rw [if_neg h, List.filter_cons_of_neg h]; rfl
end Go.Proofs.YtnbcaklnpflihaaGreatDoor

namespace Go.Proofs.YtnbcaklnpflihaaGreatDoor
open Go.RowKit
set_option maxRecDepth 100000

theorem At.pair {S : Nat → Prop} {w : World} {A : Option Addr} {l : List (Int × Int)} {j : Nat} {x : Int × Int} (h : At kStart S w A l) (hj : l[j]? = some x) :
    ∃ b off, A = some ⟨b, off, none⟩ ∧ S b ∧ b < w.heap.size ∧ w.cell? ⟨b, off + j * 2, none⟩ = some (.int .i64 x.1) ∧ w.cell? ⟨b, off + j * 2 + 1, none⟩ = some (.int .i64 x.2) := by
  obtain ⟨b, off, vs, e, hs, hlt, ⟨us, ts, rfl, h1, h2⟩, hc⟩ := h.get hj
  have h1 : us = [.int .i64 x.1] := h1
  have h2 : ts = [.int .i64 x.2] := h2
  subst h1 h2
  exact ⟨b, off, e, hs, hlt, hc 0 _ rfl, hc 1 _ rfl⟩
end Go.Proofs.YtnbcaklnpflihaaGreatDoor

namespace Go.Proofs.YtnbcaklnpflihaaGreatDoor
open Go.RowKit
set_option maxRecDepth 100000

/-- A curriculum: its code and its courses. -/
abbrev Curr := ByteArray × List ByteArray
def kCurr : Kind Curr := kPair kStr (kSlice kStr)
def namesC (l : List Curr) : List ByteArray := l.map fun x => x.1
theorem At.curr {S : Nat → Prop} {w : World} {A : Option Addr} {l : List Curr} {j : Nat} {x : Curr} (h : At kCurr S w A l) (hj : l[j]? = some x) :
    ∃ b off F c, A = some ⟨b, off, none⟩ ∧ S b ∧ b < w.heap.size ∧ w.cell? ⟨b, off + j * 2, none⟩ = some (.string x.1) ∧ w.cell? ⟨b, off + j * 2 + 1, none⟩ = some (.slice F x.2.length c) ∧ x.2.length ≤ c ∧ At kStr S w F x.2 := by
  obtain ⟨b, off, vs, e, hs, hlt, ⟨us, ts, rfl, h1, h2⟩, hc⟩ := h.get hj
  have h1 : us = [.string x.1] := h1
  obtain ⟨F, c, rfl, h3, h4⟩ := h2
  subst h1
  exact ⟨b, off, F, c, e, hs, hlt, hc 0 _ rfl, hc 1 _ rfl, h3, h4⟩
theorem namesC_get {l : List Curr} {j : Nat} {x : Curr} (h : l[j]? = some x) : (namesC l)[j]? = some x.1 := by unfold namesC; rw [List.getElem?_map, h]; rfl
end Go.Proofs.YtnbcaklnpflihaaGreatDoor
