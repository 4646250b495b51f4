/- Data in memory, told by kinds: what a row of cells says, with all that it points to. No condition. Some cells that are known in a world, and what keeps them. No condition. Appending an element to a row of its own that holds data of a kind. No condition. Walks of timetableref02.SameStrings and SameLists, where both hold the same. Conditions: the cells. -/
import Derived.Test.YtdnnahdafhddlaaGreatDoorYFieldsC
import Derived.Deep.AppendLies
namespace Go.Proofs.YtdnnahdafhddlaaGreatDoor
open Go.RowKit
set_option maxRecDepth 100000

/-- A kind of data: how many cells, what they say; S: the blocks that they may point to. -/
structure Kind (α : Type) where
  k : Nat
  rep : (Nat → Prop) → World → α → List Value → Prop
  kept : ∀ {S S' : Nat → Prop} {w w' : World} {a : α} {vs : List Value}, rep S w a vs → (∀ b, S b → b < w.heap.size → S' b ∧ b < w'.heap.size ∧ w'.heap[b]? = w.heap[b]?) → rep S' w' a vs
  len : ∀ {S : Nat → Prop} {w : World} {a : α} {vs : List Value}, rep S w a vs → vs.length = k
  one : ∀ {S : Nat → Prop} {w : World} {a : α} {vs : List Value}, rep S w a vs → ∀ u ∈ vs, u.oneCell' = true
abbrev AnyB : Nat → Prop := fun _ => True
/-- Data of a kind, one behind the other. -/
def At {α : Type} (K : Kind α) (S : Nat → Prop) (w : World) (A : Option Addr) (l : List α) : Prop :=
  0 < l.length → ∃ b off, A = some ⟨b, off, none⟩ ∧ S b ∧ b < w.heap.size ∧ ∀ j x, l[j]? = some x → ∃ vs, K.rep S w x vs ∧ ∀ i u, vs[i]? = some u → w.cell? ⟨b, off + j * K.k + i, none⟩ = some u
section
variable {α β : Type} {K : Kind α} {L : Kind β} {S S' : Nat → Prop} {w w' : World} {A : Option Addr} {l : List α}
theorem At.kept (h : At K S w A l) (hk : ∀ b, S b → b < w.heap.size → S' b ∧ b < w'.heap.size ∧ w'.heap[b]? = w.heap[b]?) : At K S' w' A l := by
  intro hn
  obtain ⟨b, off, e, hs, hlt, hc⟩ := h hn
  obtain ⟨h1, h2, h3⟩ := hk b hs hlt
  refine ⟨b, off, e, h1, h2, fun j x hx => ?_⟩
  obtain ⟨vs, hr, hcell⟩ := hc j x hx
  exact ⟨vs, K.kept hr hk, fun i u hu => (World.cell?_of_block (a := ⟨b, off + j * K.k + i, none⟩) h3).trans (hcell i u hu)⟩
theorem At.later (h : At K S w A l) (hb : Below w.heap.size w w') : At K S w' A l :=
  h.kept fun b hs hlt => ⟨hs, Nat.lt_of_lt_of_le hlt hb.size, hb.block b hlt⟩
theorem At.more (h : At K S w A l) (hS : ∀ b, S b → S' b) : At K S' w A l := h.kept fun b hs hlt => ⟨hS b hs, hlt, rfl⟩
theorem At.any (h : At K S w A l) : At K AnyB w A l := h.more fun _ _ => trivial
theorem At.lo (h : At K S w A l) : At K (· < w.heap.size) w A l := h.kept fun _ _ hlt => ⟨hlt, hlt, rfl⟩
theorem Kind.later (K : Kind α) {a : α} {vs : List Value} (h : K.rep S w a vs) (hb : Below w.heap.size w w') : K.rep S w' a vs :=
  K.kept h fun b hs hlt => ⟨hs, Nat.lt_of_lt_of_le hlt hb.size, hb.block b hlt⟩
theorem Kind.more (K : Kind α) {a : α} {vs : List Value} (h : K.rep S w a vs) (hS : ∀ b, S b → S' b) : K.rep S' w a vs := K.kept h fun b hs hlt => ⟨hS b hs, hlt, rfl⟩
theorem Kind.lo (K : Kind α) {a : α} {vs : List Value} (h : K.rep S w a vs) : K.rep (· < w.heap.size) w a vs := K.kept h fun _ _ hlt => ⟨hlt, hlt, rfl⟩
end
/-! The kinds. -/
def kStr : Kind ByteArray := ⟨1, fun _ _ a vs => vs = [.string a], fun h _ => h, fun h => by rw [h]; rfl, fun h u hu => by rw [h] at hu; simp at hu; subst hu; rfl⟩
def kInt : Kind Int := ⟨1, fun _ _ a vs => vs = [.int .i64 a], fun h _ => h, fun h => by rw [h]; rfl, fun h u hu => by rw [h] at hu; simp at hu; subst hu; rfl⟩
def kPair {α β : Type} (K : Kind α) (L : Kind β) : Kind (α × β) where
  k := K.k + L.k
  rep S w a vs := ∃ us ts, vs = us ++ ts ∧ K.rep S w a.1 us ∧ L.rep S w a.2 ts
  kept := fun ⟨us, ts, e, h1, h2⟩ hk => ⟨us, ts, e, K.kept h1 hk, L.kept h2 hk⟩
  len := fun ⟨us, ts, e, h1, h2⟩ => by rw [e, List.length_append, K.len h1, L.len h2]
  one := fun ⟨us, ts, e, h1, h2⟩ u hu => by
    rw [e] at hu
    rcases List.mem_append.1 hu with h | h
    · exact K.one h1 u h
    · exact L.one h2 u h
def kSlice {α : Type} (K : Kind α) : Kind (List α) where
  k := 1
  rep S w l vs := ∃ A c, vs = [.slice A l.length c] ∧ l.length ≤ c ∧ At K S w A l
  kept := fun ⟨A, c, e, h1, h2⟩ hk => ⟨A, c, e, h1, h2.kept hk⟩
  len := fun ⟨A, c, e, _, _⟩ => by rw [e]; rfl
  one := fun ⟨A, c, e, _, _⟩ u hu => by rw [e] at hu; simp at hu; subst hu; rfl
section
variable {α β : Type} {K : Kind α} {L : Kind β} {S S' : Nat → Prop} {w w' : World} {A : Option Addr} {l : List α} {vs : List Value}
theorem rep_str {a : ByteArray} : kStr.rep S w a vs ↔ vs = [.string a] := Iff.rfl
theorem rep_int {a : Int} : kInt.rep S w a vs ↔ vs = [.int .i64 a] := Iff.rfl
/-- The cells of element j. -/
theorem At.get (h : At K S w A l) {j : Nat} {x : α} (hj : l[j]? = some x) : ∃ b off vs, A = some ⟨b, off, none⟩ ∧ S b ∧ b < w.heap.size ∧ K.rep S w x vs ∧ ∀ i u, vs[i]? = some u → w.cell? ⟨b, off + j * K.k + i, none⟩ = some u := by
  have hjl := (List.getElem?_eq_some_iff.1 hj).1
  obtain ⟨b, off, e, hs, hlt, hc⟩ := h (by omega)
  obtain ⟨vs, hr, hcell⟩ := hc j x hj
  exact ⟨b, off, vs, e, hs, hlt, hr, hcell⟩
theorem At.str {zs : List ByteArray} (h : At kStr S w A zs) {j : Nat} {z : ByteArray} (hj : zs[j]? = some z) : ∃ b off, A = some ⟨b, off, none⟩ ∧ S b ∧ b < w.heap.size ∧ w.cell? ⟨b, off + j, none⟩ = some (.string z) := by
  obtain ⟨b, off, vs, e, hs, hlt, hr, hc⟩ := h.get hj
  rw [rep_str] at hr
  subst hr
  exact ⟨b, off, e, hs, hlt, by simpa [kStr] using hc 0 _ rfl⟩
theorem At.take {k : Nat} (h : At K S w A l) : At K S w A (l.take k) := by
  intro hn
  obtain ⟨b, off, e, hs, hlt, hc⟩ := h (by rw [List.length_take] at hn; omega)
  refine ⟨b, off, e, hs, hlt, fun j x hx => hc j x ?_⟩
  rw [List.getElem?_take] at hx
  split at hx
  · exact hx
  · cases hx
end
/-! Data in memory of their own: rows that may be appended to. -/
/-- Block b holds a row of one of these types. -/
def TyAt (ts : List TypeId) (w : World) (b : Nat) : Prop := ∃ cs t, w.heap[b]? = some (.cells cs t (0, 0)) ∧ t ∈ ts
/-- Blocks below B0, or from B on with one of these types. -/
def Ty (ts : List TypeId) (B0 B : Nat) (w : World) : Nat → Prop := fun b => b < B0 ∨ (B ≤ b ∧ TyAt ts w b)
/-- A row of its own from block B on, that holds l; what its elements point to lies below B0, or from B on in blocks of the types ts. -/
def Own {α : Type} (K : Kind α) (t : TypeId) (ts : List TypeId) (B0 B : Nat) (w : World) (v : Value) (l : List α) : Prop :=
  ∃ vss : List (List Value), vss.length = l.length ∧ w.ownsRow B t K.k v l.length vss.flatten ∧ ∀ (j : Nat) (x : α) (vs : List Value), l[j]? = some x → vss[j]? = some vs → K.rep (Ty ts B0 B w) w x vs
theorem flatten_at {k : Nat} : ∀ (vss : List (List Value)), (∀ vs ∈ vss, vs.length = k) → ∀ (j i : Nat) (vs : List Value), vss[j]? = some vs → i < k → vss.flatten[j * k + i]? = vs[i]?
  | [], _, j, i, vs, h, _ => by simp at h
  | us :: vss, hk, 0, i, vs, h, hi => by
    have h1 := hk us (by simp)
    simp at h
    subst h
    simp only [List.flatten_cons, Nat.zero_mul, Nat.zero_add]
    exact List.getElem?_append_left (by omega)
  | us :: vss, hk, j + 1, i, vs, h, hi => by
    have h1 := hk us (by simp)
    simp only [List.getElem?_cons_succ] at h
    rw [List.flatten_cons, List.getElem?_append_right (by rw [h1, Nat.add_mul]; omega), show (j + 1) * k + i - us.length = j * k + i from by rw [h1, Nat.add_mul]; omega]
    exact flatten_at vss (fun vs hv => hk vs (by simp [hv])) j i vs h hi
section
variable {α : Type} {K : Kind α} {t : TypeId} {ts : List TypeId} {B0 B : Nat} {w w' : World} {v : Value} {l : List α}
theorem Own.nil : Own K t ts B0 B w (.slice none 0 0) ([] : List α) := ⟨[], rfl, World.ownsRow_nil _ _ _ _, fun j x vs h => by simp at h⟩
theorem Own.form (h : Own K t ts B0 B w v l) : ∃ A c, v = .slice A l.length c := by obtain ⟨vss, -, h, -⟩ := h; exact owns_form h
theorem Own.cap {A : Option Addr} {n c : Nat} (h : Own K t ts B0 B w (.slice A n c) l) : l.length ≤ c := by
  obtain ⟨vss, -, h, -⟩ := h
  rcases h.2 with ⟨e, h0⟩ | ⟨g, cap, cur, e, -, -, hn, -⟩
  · injection e; omega
  · injection e; omega
/-- A row of its own that is grown, or a block of another type that is written, leaves it as it is. -/
theorem Own.kept {row : Option Nat} (h : Own K t ts B0 B w v l) (hg : w.grownBy w' row) (h1 : v.ownBlock = none ∨ v.ownBlock ≠ row) (h2 : ∀ g, row = some g → B0 ≤ g ∧ ¬ (B ≤ g ∧ TyAt ts w g)) : Own K t ts B0 B w' v l := by
  obtain ⟨vss, e1, e2, e3⟩ := h
  refine ⟨vss, e1, e2.kept hg h1, fun j x vs hj hv => K.kept (e3 j x vs hj hv) fun b hs hlt => ?_⟩
  have hb : w'.heap[b]? = w.heap[b]? := hg.block b hlt fun e => by
    obtain ⟨h3, h4⟩ := h2 b e.symm
    rcases hs with hs | hs
    · omega
    · exact h4 hs
  refine ⟨?_, Nat.lt_of_lt_of_le hlt hg.size, hb⟩
  rcases hs with hs | ⟨hs, cs, t', hc, ht⟩
  · exact .inl hs
  · exact .inr ⟨hs, cs, t', hb.trans hc, ht⟩
theorem Own.later (h : Own K t ts B0 B w v l) (hb : Below w.heap.size w w') : Own K t ts B0 B w' v l :=
  h.kept (row := none) ⟨hb.os, hb.tape, hb.output, hb.size, fun k hk _ => hb.block k hk⟩ (by cases v.ownBlock <;> simp) (fun g e => by cases e)
theorem Own.alloc (h : Own K t ts B0 B w v l) (o : Obj) : Own K t ts B0 B (w.alloc o) v l := h.later (ext_alloc (Below.refl _ _) _)
theorem Own.drew (h : Own K t ts B0 B w v l) : Own K t ts B0 B w.drew v l := h.later (ext_drew (Below.refl _ _))
theorem Own.lower {C : Nat} (h : Own K t ts B0 B w v l) (hC : C ≤ B) : Own K t ts B0 C w v l := by
  obtain ⟨vss, e1, e2, e3⟩ := h
  exact ⟨vss, e1, owns_lower e2 hC, fun j x vs hj hv => K.more (e3 j x vs hj hv) fun b hs => by rcases hs with hs | ⟨hs, h⟩; exact .inl hs; exact .inr ⟨by omega, h⟩⟩
/-- The row as data. -/
theorem Own.at (h : Own K t ts B0 B w v l) : ∃ A c, v = .slice A l.length c ∧ l.length ≤ c ∧ At K (Ty (t :: ts) B0 B w) w A l := by
  obtain ⟨A, c, rfl⟩ := h.form
  refine ⟨A, c, rfl, h.cap, fun hn => ?_⟩
  obtain ⟨vss, e1, e2, e3⟩ := h
  have hall : ∀ vs ∈ vss, vs.length = K.k := by
    intro vs hv
    obtain ⟨j, hj⟩ := List.getElem?_of_mem hv
    have hjl := (List.getElem?_eq_some_iff.1 hj).1
    exact K.len (e3 j _ vs (List.getElem?_eq_getElem (by omega)) hj)
  rcases e2.2 with ⟨_, h0⟩ | ⟨g, cap, cur, he, hB, hg, _, _, _, htake⟩
  · omega
  · injection he with he
    subst he
    refine ⟨g, 0, rfl, .inr ⟨hB, cur, t, hg, by simp⟩, blk_lt hg, fun j x hx => ?_⟩
    have hjl := (List.getElem?_eq_some_iff.1 hx).1
    have hv : vss[j]? = some (vss[j]'(by omega)) := List.getElem?_eq_getElem (by omega)
    have hr := e3 j x _ hx hv
    refine ⟨_, K.more hr fun b hs => by rcases hs with hs | ⟨hs, cs, t', hc, ht⟩; exact .inl hs; exact .inr ⟨hs, cs, t', hc, by simp [ht]⟩, fun i u hu => ?_⟩
    have hi : i < K.k := by have := (List.getElem?_eq_some_iff.1 hu).1; rw [K.len hr] at this; exact this
    have := e2.cells (g := g) rfl (j * K.k + i) u ((flatten_at vss hall j i _ hv hi).trans hu)
    rw [show (⟨g, 0, none⟩ : Addr).add (j * K.k + i) = ⟨g, 0 + j * K.k + i, none⟩ from by rw [Addr.add_lit]; simp only [Nat.zero_add]] at this
    exact this
theorem Own.any (h : Own K t ts B0 B w v l) : ∃ A c, v = .slice A l.length c ∧ l.length ≤ c ∧ At K (· < w.heap.size) w A l := by
  obtain ⟨A, c, e, h1, h2⟩ := h.at
  exact ⟨A, c, e, h1, h2.lo⟩
/-- An element is appended. -/
theorem Own.snoc {v' : Value} {x : α} {vs : List Value} (vss : List (List Value)) (e1 : vss.length = l.length) (e2 : w.ownsRow B t K.k v l.length vss.flatten)
    (e3 : ∀ (j : Nat) (x : α) (vs : List Value), l[j]? = some x → vss[j]? = some vs → K.rep (Ty ts B0 B w) w x vs) (hx : K.rep (Ty ts B0 B w) w x vs) (ht : t ∉ ts) (hB : B0 ≤ B) (hg : w.grownBy w' v.ownBlock)
    (hn : w'.ownsRow B t K.k v' (l.length + 1) (vss.flatten ++ vs)) : Own K t ts B0 B w' v' (l ++ [x]) := by
  have hk : ∀ {a : α} {us : List Value}, K.rep (Ty ts B0 B w) w a us → K.rep (Ty ts B0 B w') w' a us := fun h => K.kept h fun b hs hlt => by
    have hb : w'.heap[b]? = w.heap[b]? := hg.block b hlt fun e => by
      rcases e2.2 with ⟨rfl, _⟩ | ⟨y, cap', cur', rfl, hy0, hy, _⟩
      · simp [Value.ownBlock] at e
      · have : b = y := by simpa [Value.ownBlock] using e
        subst this
        rcases hs with hs | ⟨_, cs, t', hc, ht'⟩
        · omega
        · rw [hy] at hc
          injection hc with h3
          injection h3 with _ h4
          rw [← h4] at ht'; exact ht ht'
    refine ⟨?_, Nat.lt_of_lt_of_le hlt hg.size, hb⟩
    rcases hs with hs | ⟨hs, cs, t', hc, ht'⟩
    · exact .inl hs
    · exact .inr ⟨hs, cs, t', hb.trans hc, ht'⟩
  refine ⟨vss ++ [vs], by simp [e1], ?_, fun j y us hy hu => ?_⟩
  · rw [List.length_append, List.flatten_append]
    simpa using hn
  · by_cases hj : j < l.length
    · rw [List.getElem?_append_left hj] at hy
      rw [List.getElem?_append_left (by omega)] at hu
      exact hk (e3 j y us hy hu)
    · have hj2 : j = l.length := by
        have := (List.getElem?_eq_some_iff.1 hy).1
        simp at this
        omega
      subst hj2
      rw [List.getElem?_append_right (Nat.le_refl _)] at hy
      rw [List.getElem?_append_right (by omega)] at hu
      simp at hy
      simp [e1] at hu
      subst hy
      subst hu
      exact hk hx
end
end Go.Proofs.YtdnnahdafhddlaaGreatDoor

namespace Go.Proofs.YtdnnahdafhddlaaGreatDoor
open Go.RowKit
set_option maxRecDepth 100000

theorem cell_set_other {W : World} {b o c i : Nat} {v : Value} (h : W.cell? ⟨b, o, none⟩ = some v) (hne : b ≠ c) (u : Value) : (W.setCell ⟨c, i, none⟩ u).cell? ⟨b, o, none⟩ = some v :=
  (World.cell?_setCell_other _ _ _ _ (fun e => hne (by injection e with e1; exact e1.symm))).trans h
theorem cell_only {W W' : World} {b o g : Nat} {v : Value} (h : W.cell? ⟨b, o, none⟩ = some v) (hg : Only g W W') (hne : b ≠ g) : W'.cell? ⟨b, o, none⟩ = some v := World.grownBy.cell hg h (fun e => hne (by injection e))
section
variable {b1 o1 : Nat} {v1 : Value} {W W' : World}
end
abbrev Cn2 (b1 o1 : Nat) (v1 : Value) (b2 o2 : Nat) (v2 : Value) (W : World) : Prop := W.cell? ⟨b1, o1, none⟩ = some v1 ∧ W.cell? ⟨b2, o2, none⟩ = some v2
section
variable {b1 o1 b2 o2 : Nat} {v1 v2 : Value} {W W' : World}
theorem Cn2.later (h : Cn2 b1 o1 v1 b2 o2 v2 W) (hb : Below W.heap.size W W') : Cn2 b1 o1 v1 b2 o2 v2 W' := ⟨cell_later hb h.1, cell_later hb h.2⟩
theorem Cn2.alloc (h : Cn2 b1 o1 v1 b2 o2 v2 W) (o : Obj) : Cn2 b1 o1 v1 b2 o2 v2 (W.alloc o) := ⟨cell_alloc_of h.1 o, cell_alloc_of h.2 o⟩
theorem Cn2.drew (h : Cn2 b1 o1 v1 b2 o2 v2 W) : Cn2 b1 o1 v1 b2 o2 v2 W.drew := h
theorem Cn2.set {c i : Nat} (h : Cn2 b1 o1 v1 b2 o2 v2 W) (h1 : b1 ≠ c) (h2 : b2 ≠ c) (u : Value) : Cn2 b1 o1 v1 b2 o2 v2 (W.setCell ⟨c, i, none⟩ u) := ⟨cell_set_other h.1 h1 u, cell_set_other h.2 h2 u⟩
end
section
variable {b1 o1 b2 o2 b3 o3 : Nat} {v1 v2 v3 : Value} {W W' : World}
end
section
variable {b1 o1 b2 o2 b3 o3 b4 o4 : Nat} {v1 v2 v3 v4 : Value} {W W' : World}
end
section
variable {b1 o1 b2 o2 b3 o3 b4 o4 b5 o5 : Nat} {v1 v2 v3 v4 v5 : Value} {W W' : World}
end
section
variable {b1 o1 b2 o2 b3 o3 b4 o4 b5 o5 b6 o6 : Nat} {v1 v2 v3 v4 v5 v6 : Value} {W W' : World}
end
section
variable {b1 o1 b2 o2 b3 o3 b4 o4 b5 o5 b6 o6 b7 o7 : Nat} {v1 v2 v3 v4 v5 v6 v7 : Value} {W W' : World}
end
abbrev Cn8 (b1 o1 : Nat) (v1 : Value) (b2 o2 : Nat) (v2 : Value) (b3 o3 : Nat) (v3 : Value) (b4 o4 : Nat) (v4 : Value) (b5 o5 : Nat) (v5 : Value) (b6 o6 : Nat) (v6 : Value) (b7 o7 : Nat) (v7 : Value) (b8 o8 : Nat) (v8 : Value) (W : World) : Prop := W.cell? ⟨b1, o1, none⟩ = some v1 ∧ W.cell? ⟨b2, o2, none⟩ = some v2 ∧ W.cell? ⟨b3, o3, none⟩ = some v3 ∧ W.cell? ⟨b4, o4, none⟩ = some v4 ∧ W.cell? ⟨b5, o5, none⟩ = some v5 ∧ W.cell? ⟨b6, o6, none⟩ = some v6 ∧ W.cell? ⟨b7, o7, none⟩ = some v7 ∧ W.cell? ⟨b8, o8, none⟩ = some v8
section
variable {b1 o1 b2 o2 b3 o3 b4 o4 b5 o5 b6 o6 b7 o7 b8 o8 : Nat} {v1 v2 v3 v4 v5 v6 v7 v8 : Value} {W W' : World}
theorem Cn8.later (h : Cn8 b1 o1 v1 b2 o2 v2 b3 o3 v3 b4 o4 v4 b5 o5 v5 b6 o6 v6 b7 o7 v7 b8 o8 v8 W) (hb : Below W.heap.size W W') : Cn8 b1 o1 v1 b2 o2 v2 b3 o3 v3 b4 o4 v4 b5 o5 v5 b6 o6 v6 b7 o7 v7 b8 o8 v8 W' := ⟨cell_later hb h.1, cell_later hb h.2.1, cell_later hb h.2.2.1, cell_later hb h.2.2.2.1, cell_later hb h.2.2.2.2.1, cell_later hb h.2.2.2.2.2.1, cell_later hb h.2.2.2.2.2.2.1, cell_later hb h.2.2.2.2.2.2.2⟩
theorem Cn8.alloc (h : Cn8 b1 o1 v1 b2 o2 v2 b3 o3 v3 b4 o4 v4 b5 o5 v5 b6 o6 v6 b7 o7 v7 b8 o8 v8 W) (o : Obj) : Cn8 b1 o1 v1 b2 o2 v2 b3 o3 v3 b4 o4 v4 b5 o5 v5 b6 o6 v6 b7 o7 v7 b8 o8 v8 (W.alloc o) := ⟨cell_alloc_of h.1 o, cell_alloc_of h.2.1 o, cell_alloc_of h.2.2.1 o, cell_alloc_of h.2.2.2.1 o, cell_alloc_of h.2.2.2.2.1 o, cell_alloc_of h.2.2.2.2.2.1 o, cell_alloc_of h.2.2.2.2.2.2.1 o, cell_alloc_of h.2.2.2.2.2.2.2 o⟩
theorem Cn8.drew (h : Cn8 b1 o1 v1 b2 o2 v2 b3 o3 v3 b4 o4 v4 b5 o5 v5 b6 o6 v6 b7 o7 v7 b8 o8 v8 W) : Cn8 b1 o1 v1 b2 o2 v2 b3 o3 v3 b4 o4 v4 b5 o5 v5 b6 o6 v6 b7 o7 v7 b8 o8 v8 W.drew := h
theorem Cn8.set {c i : Nat} (h : Cn8 b1 o1 v1 b2 o2 v2 b3 o3 v3 b4 o4 v4 b5 o5 v5 b6 o6 v6 b7 o7 v7 b8 o8 v8 W) (h1 : b1 ≠ c) (h2 : b2 ≠ c) (h3 : b3 ≠ c) (h4 : b4 ≠ c) (h5 : b5 ≠ c) (h6 : b6 ≠ c) (h7 : b7 ≠ c) (h8 : b8 ≠ c) (u : Value) : Cn8 b1 o1 v1 b2 o2 v2 b3 o3 v3 b4 o4 v4 b5 o5 v5 b6 o6 v6 b7 o7 v7 b8 o8 v8 (W.setCell ⟨c, i, none⟩ u) := ⟨cell_set_other h.1 h1 u, cell_set_other h.2.1 h2 u, cell_set_other h.2.2.1 h3 u, cell_set_other h.2.2.2.1 h4 u, cell_set_other h.2.2.2.2.1 h5 u, cell_set_other h.2.2.2.2.2.1 h6 u, cell_set_other h.2.2.2.2.2.2.1 h7 u, cell_set_other h.2.2.2.2.2.2.2 h8 u⟩
end
abbrev Cn9 (b1 o1 : Nat) (v1 : Value) (b2 o2 : Nat) (v2 : Value) (b3 o3 : Nat) (v3 : Value) (b4 o4 : Nat) (v4 : Value) (b5 o5 : Nat) (v5 : Value) (b6 o6 : Nat) (v6 : Value) (b7 o7 : Nat) (v7 : Value) (b8 o8 : Nat) (v8 : Value) (b9 o9 : Nat) (v9 : Value) (W : World) : Prop := W.cell? ⟨b1, o1, none⟩ = some v1 ∧ W.cell? ⟨b2, o2, none⟩ = some v2 ∧ W.cell? ⟨b3, o3, none⟩ = some v3 ∧ W.cell? ⟨b4, o4, none⟩ = some v4 ∧ W.cell? ⟨b5, o5, none⟩ = some v5 ∧ W.cell? ⟨b6, o6, none⟩ = some v6 ∧ W.cell? ⟨b7, o7, none⟩ = some v7 ∧ W.cell? ⟨b8, o8, none⟩ = some v8 ∧ W.cell? ⟨b9, o9, none⟩ = some v9
section
variable {b1 o1 b2 o2 b3 o3 b4 o4 b5 o5 b6 o6 b7 o7 b8 o8 b9 o9 : Nat} {v1 v2 v3 v4 v5 v6 v7 v8 v9 : Value} {W W' : World}
theorem Cn9.later (h : Cn9 b1 o1 v1 b2 o2 v2 b3 o3 v3 b4 o4 v4 b5 o5 v5 b6 o6 v6 b7 o7 v7 b8 o8 v8 b9 o9 v9 W) (hb : Below W.heap.size W W') : Cn9 b1 o1 v1 b2 o2 v2 b3 o3 v3 b4 o4 v4 b5 o5 v5 b6 o6 v6 b7 o7 v7 b8 o8 v8 b9 o9 v9 W' := ⟨cell_later hb h.1, cell_later hb h.2.1, cell_later hb h.2.2.1, cell_later hb h.2.2.2.1, cell_later hb h.2.2.2.2.1, cell_later hb h.2.2.2.2.2.1, cell_later hb h.2.2.2.2.2.2.1, cell_later hb h.2.2.2.2.2.2.2.1, cell_later hb h.2.2.2.2.2.2.2.2⟩
theorem Cn9.alloc (h : Cn9 b1 o1 v1 b2 o2 v2 b3 o3 v3 b4 o4 v4 b5 o5 v5 b6 o6 v6 b7 o7 v7 b8 o8 v8 b9 o9 v9 W) (o : Obj) : Cn9 b1 o1 v1 b2 o2 v2 b3 o3 v3 b4 o4 v4 b5 o5 v5 b6 o6 v6 b7 o7 v7 b8 o8 v8 b9 o9 v9 (W.alloc o) := ⟨cell_alloc_of h.1 o, cell_alloc_of h.2.1 o, cell_alloc_of h.2.2.1 o, cell_alloc_of h.2.2.2.1 o, cell_alloc_of h.2.2.2.2.1 o, cell_alloc_of h.2.2.2.2.2.1 o, cell_alloc_of h.2.2.2.2.2.2.1 o, cell_alloc_of h.2.2.2.2.2.2.2.1 o, cell_alloc_of h.2.2.2.2.2.2.2.2 o⟩
theorem Cn9.drew (h : Cn9 b1 o1 v1 b2 o2 v2 b3 o3 v3 b4 o4 v4 b5 o5 v5 b6 o6 v6 b7 o7 v7 b8 o8 v8 b9 o9 v9 W) : Cn9 b1 o1 v1 b2 o2 v2 b3 o3 v3 b4 o4 v4 b5 o5 v5 b6 o6 v6 b7 o7 v7 b8 o8 v8 b9 o9 v9 W.drew := h
theorem Cn9.set {c i : Nat} (h : Cn9 b1 o1 v1 b2 o2 v2 b3 o3 v3 b4 o4 v4 b5 o5 v5 b6 o6 v6 b7 o7 v7 b8 o8 v8 b9 o9 v9 W) (h1 : b1 ≠ c) (h2 : b2 ≠ c) (h3 : b3 ≠ c) (h4 : b4 ≠ c) (h5 : b5 ≠ c) (h6 : b6 ≠ c) (h7 : b7 ≠ c) (h8 : b8 ≠ c) (h9 : b9 ≠ c) (u : Value) : Cn9 b1 o1 v1 b2 o2 v2 b3 o3 v3 b4 o4 v4 b5 o5 v5 b6 o6 v6 b7 o7 v7 b8 o8 v8 b9 o9 v9 (W.setCell ⟨c, i, none⟩ u) := ⟨cell_set_other h.1 h1 u, cell_set_other h.2.1 h2 u, cell_set_other h.2.2.1 h3 u, cell_set_other h.2.2.2.1 h4 u, cell_set_other h.2.2.2.2.1 h5 u, cell_set_other h.2.2.2.2.2.1 h6 u, cell_set_other h.2.2.2.2.2.2.1 h7 u, cell_set_other h.2.2.2.2.2.2.2.1 h8 u, cell_set_other h.2.2.2.2.2.2.2.2 h9 u⟩
end
section
variable {b1 o1 b2 o2 b3 o3 b4 o4 b5 o5 b6 o6 b7 o7 b8 o8 b9 o9 b10 o10 : Nat} {v1 v2 v3 v4 v5 v6 v7 v8 v9 v10 : Value} {W W' : World}
end
end Go.Proofs.YtdnnahdafhddlaaGreatDoor

namespace Go.Proofs.YtdnnahdafhddlaaGreatDoor
open Go.RowKit
set_option maxRecDepth 100000

/-- t2 is the type of slices of t, of k cells and so many bytes. -/
structure Apd (P : Program) (t2 t : TypeId) (k bytes : Nat) : Prop where
  u : P.underlying t2 = some (.slice t)
  i : ∃ i z, P.info? t = some i ∧ i.zero = some z ∧ i.size = k ∧ i.bytes = bytes ∧ z.cells.size = k
theorem apd {P : Program} {t2 t : TypeId} {z : Value} {k bytes : Nat} (hu : P.underlying t2 = some (.slice t)) (hi : (P.info? t).map (fun i => (i.zero, i.size, i.bytes)) = some (some z, k, bytes)) (hz : z.cells.size = k) : Apd P t2 t k bytes := by
  obtain ⟨i, h1, h2, h3, h4⟩ := info_parts hi
  exact ⟨hu, i, z, h1, h2, h3, h4, hz⟩
section
variable {α : Type} {P : Program} {K : Kind α} {t2 t : TypeId} {ts : List TypeId} {B0 B bytes : Nat} {w : World} {v : Value} {l : List α}
theorem wpList_own {ops : Array Oper} {rest : List Oper} {o : Oper} {a : Act} {Q : Exit → Act → World → Prop} (hgd : o.guard = none) (s x : Operand)
    (ho : o.op = .call { callee := .builtin .append, args := #[s, x], argTypes := #[t2, t2] }) (hA : Apd P t2 t K.k bytes) (hk0 : 0 < K.k) (hs : a.eval s = v) (h : Own K t ts B0 B w v l)
    (hl : l.length ≤ 4000000000) (hby : bytes ≤ 1000) (ad : Addr) (c : Nat) (hx : a.eval x = .slice (some ad) 1 c) (e : α) (vs : List Value) (hrep : K.rep (Ty ts B0 B w) w e vs) (hnews : ∀ j u, vs[j]? = some u → w.cell? (ad.add j) = some u)
    (ht : t ∉ ts) (hB0 : B0 ≤ B) (hB : B ≤ w.heap.size)
    (hk : ∀ v' w', Own K t ts B0 B w' v' (l ++ [e]) → w.grownBy w' v.ownBlock → wpList P ops Q rest (a.put o.dst v') w') : wpList P ops Q (o :: rest) a w := by
  obtain ⟨i, z, hi, hz, h1, h2, h3⟩ := hA.i
  obtain ⟨vss, e1, e2, e3⟩ := h
  refine wpList_append_own w hgd s x t2 ho B t i z K.k bytes hA.u hi hz h1 h2 h3 hk0 v l.length vss.flatten hs e2 ad 1 c vs hx (by rw [K.len hrep]; omega) hnews (K.one hrep) (by unfold maxLen; omega) ?_ hB fun v' w' hn hg _ => hk v' w' (Own.snoc vss e1 e2 e3 hrep ht hB0 hg hn) hg
  exact Nat.le_trans (Nat.mul_le_mul (Nat.succ_le_succ hl) hby) (by decide)
theorem Own.lt (h : Own K t ts B0 B w v l) : ∀ x, v.ownBlock = some x → B ≤ x ∧ x < w.heap.size := by obtain ⟨vss, -, h, -⟩ := h; exact h.lt
/-- What was old is as it was when the row is grown. -/
theorem Own.below_grown {w0 w' : World} (h : Own K t ts B0 B w v l) (hb : Below w0.heap.size w0 w) (hB : w0.heap.size ≤ B) (hg : w.grownBy w' v.ownBlock) : Below w0.heap.size w0 w' :=
  Below.grown hb hg hb.size (fun y hy => Nat.le_trans hB (h.lt y hy).1)
end
/-- Strings that were just laid, as data. -/
theorem rep_lit_strs {t : TypeId} {ts : List TypeId} {B0 B g n : Nat} {w : World} {cs : Array Value} (zs : List ByteArray) (h : w.heap[g]? = some (.cells cs t (0, 0))) (hc : cs.toList = zs.map Value.string) (hn : zs.length = n) (hB : B ≤ g) (ht : t ∈ ts) :
    (kSlice kStr).rep (Ty ts B0 B w) w zs [.slice (some ⟨g, 0, none⟩) n n] := by
  subst hn
  refine ⟨some ⟨g, 0, none⟩, zs.length, rfl, Nat.le_refl _, fun _ => ⟨g, 0, rfl, .inr ⟨hB, cs, t, h, ht⟩, blk_lt h, fun j x hx => ⟨[.string x], rfl, fun i u hu => ?_⟩⟩⟩
  match i, hu with
  | 0, hu =>
    simp at hu
    subst hu
    rw [cell_of_row w g _ cs t (0, 0) h]
    have : cs.toList[j]? = some (.string x) := by rw [hc, List.getElem?_map, hx]; rfl
    simpa [kStr] using this
  | i + 1, hu => simp at hu
theorem apd_strs : Apd Tryz.prog 35 9 1 16 := apd Tryz.underlying35 (z := .string ⟨#[]⟩) (by kernel_rfl) rfl
end Go.Proofs.YtdnnahdafhddlaaGreatDoor

namespace Go.Proofs.YtdnnahdafhddlaaGreatDoor
open Go.RowKit
set_option maxRecDepth 100000

set_option maxHeartbeats 4000000 in
theorem r2SameS_walk (A A' : Option Addr) (zs : List ByteArray) (c c' : Nat) (w : World) (hn : zs.length ≤ 9223372036854775807) (h1 : At kStr AnyB w A zs) (h2 : At kStr AnyB w A' zs) :
    Calls Tryz.prog 106 #[.slice A zs.length c, .slice A' zs.length c'] w fun e w' => e = .returned (.bool true) ∧ Below w.heap.size w w' := by
  obtain ⟨n, hnn⟩ : ∃ n, zs.length = n := ⟨_, rfl⟩
  rw [hnn] at hn ⊢
  replace hnn := hide hnn
  go_enter Tryz.func106, Tryz.ntmps106
  go_wp2
  go_loopw [5] (fun i wr => ∃ j : Nat, j ≤ n ∧ i = .int .i64 j ∧ Below w.heap.size w wr) (fun i _ => n - (intOf i).toNat)
  case atStart => exact ⟨0, Nat.zero_le _, rfl, Below.refl _ _⟩
  case round =>
    obtain ⟨j, hj, rfl, hb⟩ := hrel
    by_cases hlt : j < n
    · obtain ⟨z, hz⟩ : ∃ z, zs[j]? = some z := ⟨_, List.getElem?_eq_getElem (by rw [hnn.out]; exact hlt)⟩
      obtain ⟨b1, o1, rfl, -, hb1, a0⟩ := (h1.later hb).str hz
      obtain ⟨b2, o2, rfl, -, hb2, e0⟩ := (h2.later hb).str hz
      have hj0 : (0 : Int) ≤ (j : Int) := by omega
      have hj1 : (j : Int) < (n : Int) := by omega
      clear h1 h2 hz
      go_wp2_with fail
      go_region
      all_goals
        go_wp2
        go_roundw
        case rel => exact ⟨j + 1, by omega, by go_num, by first | exact ext_drew hb | exact hb⟩
        case measure => simp [intOf]; omega
    · obtain rfl : j = n := by omega
      go_wp2
      go_ret
      exact ⟨rfl, hb⟩
-- <sameL>
end Go.Proofs.YtdnnahdafhddlaaGreatDoor
