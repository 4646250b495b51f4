/- Walks of slices.Index and Contains at strings, and timetableref08.place. Conditions: the cells. Walks of package travel: ways, their buildings. Conditions: the cells. -/
import Derived.Test.YtjdhjnciokhbkaaGreatDoorKOwnB
import Derived.Test.YtjdhjnciokhbkaaGreatDoorKAwake9
import Derived.Maps.Range
namespace Go.Proofs.YtjdhjnciokhbkaaGreatDoor
open Go.RowKit
set_option maxRecDepth 100000

/-- The first index of a string, -1 if there is none. -/
def idxFrom (z : ByteArray) : List ByteArray → Int → Int
  | [], _ => -1
  | x :: r, i => if x.toList == z.toList then i else idxFrom z r (i + 1)
def idxS (z : ByteArray) (xs : List ByteArray) : Int := idxFrom z xs 0
theorem idxFrom_miss (z : ByteArray) : ∀ (l r : List ByteArray) (i : Int), (∀ x ∈ l, (x.toList == z.toList) = false) → idxFrom z (l ++ r) i = idxFrom z r (i + l.length)
  | [], r, i, _ => by simp
  | x :: l, r, i, h => by
    rw [List.cons_append, idxFrom, if_neg (by simp [h x (by simp)]), idxFrom_miss z l r (i + 1) (fun y hy => h y (by simp [hy]))]
    congr 1
    simp only [List.length_cons]
    omega
theorem idxS_hit {z x : ByteArray} {xs : List ByteArray} {j : Nat} (hx : xs[j]? = some x) (h0 : ∀ y ∈ xs.take j, (y.toList == z.toList) = false) (h : (x.toList == z.toList) = true) : idxS z xs = j := by
  have hjl := (List.getElem?_eq_some_iff.1 hx).1
  have he : xs = xs.take j ++ x :: xs.drop (j + 1) := by
    conv => lhs; rw [← List.take_append_drop j xs]
    rw [List.drop_eq_getElem_cons hjl]
    congr 2
    have := List.getElem?_eq_getElem hjl
    rw [hx] at this
    exact (Option.some.inj this).symm
  unfold idxS
  rw [he, idxFrom_miss z _ _ _ h0, idxFrom, if_pos h, List.length_take]
  omega
theorem idxS_none {z : ByteArray} {xs : List ByteArray} (h0 : ∀ y ∈ xs, (y.toList == z.toList) = false) : idxS z xs = -1 := by
  have := idxFrom_miss z xs [] 0 h0
  rw [List.append_nil] at this
  exact this
theorem take_miss {z x : ByteArray} {xs : List ByteArray} {j : Nat} (hx : xs[j]? = some x) (h0 : ∀ y ∈ xs.take j, (y.toList == z.toList) = false) (h : (x.toList == z.toList) = false) : ∀ y ∈ xs.take (j + 1), (y.toList == z.toList) = false := by
  intro y hy
  rw [List.take_add_one, hx] at hy
  rcases List.mem_append.1 hy with h1 | h1
  · exact h0 y h1
  · simp at h1; subst h1; exact h
-- <index>
set_option maxHeartbeats 2000000 in
theorem sindex_walk (A : Option Addr) (xs : List ByteArray) (c : Nat) (z : ByteArray) (w : World) (hn : xs.length ≤ 9223372036854775807) (h : At kStr AnyB w A xs) :
    Calls Tryz.prog 89 #[.slice A xs.length c, .string z] w fun e w' => e = .returned (.int .i64 (idxS z xs)) ∧ w = w' := by
  obtain ⟨n, hnn⟩ : ∃ n, xs.length = n := ⟨_, rfl⟩
  rw [hnn] at hn ⊢
  replace hnn := hide hnn
  go_enter Tryz.func89, Tryz.ntmps89
  go_wp2
  go_loop [5, 8] (fun _ i => ∃ j : Nat, j ≤ n ∧ i = .int .i64 j ∧ Hid (∀ y ∈ xs.take j, (y.toList == z.toList) = false)) (fun _ i => n - (intOf i).toNat)
  case atStart => exact ⟨0, Nat.zero_le _, rfl, hide (fun y hy => by simp at hy)⟩
  case round =>
    obtain ⟨j, hj, rfl, ho⟩ := hrel
    by_cases hlt : j < n
    · obtain ⟨x, hx⟩ : ∃ x, xs[j]? = some x := ⟨_, List.getElem?_eq_getElem (by rw [hnn.out]; exact hlt)⟩
      obtain ⟨b, off, rfl, -, hb, k0⟩ := h.str hx
      have hj0 : (0 : Int) ≤ (j : Int) := by omega
      have hj1 : (j : Int) < (n : Int) := by omega
      cases hq : (x.toList == z.toList) with
      | true =>
        have hq' : (z.toList == x.toList) = true := by rw [beq_iff_eq] at hq ⊢; exact hq.symm
        have hit := hide (idxS_hit hx ho.out hq)
        clear hx h ho
        go_wp2
        go_ret
        exact ⟨by rw [hit.out]; rfl, rfl⟩
      | false =>
        have hq' : (z.toList == x.toList) = false := by rw [beq_eq_false_iff_ne] at hq ⊢; exact fun e => hq e.symm
        have miss := hide (take_miss hx ho.out hq)
        clear hx h ho
        go_wp2
        go_round
        case rel => exact ⟨j + 1, by omega, by go_num, miss⟩
        case measure => simp [intOf]; omega
    · obtain rfl : j = n := by omega
      have hall : Hid (idxS z xs = -1) := hide (idxS_none fun y hy => ho.out y (by rw [← hnn.out, List.take_length]; exact hy))
      go_wp2
      go_ret
      exact ⟨by rw [hall.out]; rfl, rfl⟩
-- </index>
theorem scontains_walk (A : Option Addr) (xs : List ByteArray) (c : Nat) (z : ByteArray) (w : World) (hn : xs.length ≤ 9223372036854775807) (h : At kStr AnyB w A xs) :
    Calls Tryz.prog 54 #[.slice A xs.length c, .string z] w fun e w' => e = .returned (.bool (decide (0 ≤ idxS z xs))) ∧ w = w' := by
  go_enter Tryz.func54, Tryz.ntmps54
  go_wp2_with fail
  refine (sindex_walk A xs c z w hn h).mono ?_
  rintro e w' ⟨rfl, rfl⟩
  go_wp2
  go_ret
  exact ⟨rfl, rfl⟩
end Go.Proofs.YtjdhjnciokhbkaaGreatDoor

namespace Go.Proofs.YtjdhjnciokhbkaaGreatDoor
open Go.RowKit
set_option maxRecDepth 100000

/-- A way: two buildings, slots. -/
abbrev Way := ByteArray × ByteArray × Int
def kWay : Kind Way := kPair kStr (kPair kStr kInt)
theorem way_get {S : Nat → Prop} {w : World} {A : Option Addr} {ls : List Way} (h : At kWay S w A ls) {j : Nat} {l : Way} (hj : ls[j]? = some l) :
    ∃ b off, A = some ⟨b, off, none⟩ ∧ S b ∧ b < w.heap.size ∧ w.cell? ⟨b, off + j * 3, none⟩ = some (.string l.1) ∧ w.cell? ⟨b, off + j * 3 + 1, none⟩ = some (.string l.2.1) ∧ w.cell? ⟨b, off + j * 3 + 2, none⟩ = some (.int .i64 l.2.2) := by
  obtain ⟨b, off, vs, e, hs, hlt, ⟨us, ts, rfl, h1, us2, ts2, rfl, h2, h3⟩, hcell⟩ := h.get hj
  rw [rep_str] at h1 h2
  rw [rep_int] at h3
  subst h1 h2 h3
  exact ⟨b, off, e, hs, hlt, hcell 0 _ rfl, hcell 1 _ rfl, hcell 2 _ rfl⟩
/-- Two ways are between the same buildings. -/
def sameW (x y : Way) : Bool := (sameS x.1 y.1 && sameS x.2.1 y.2.1) || (sameS x.1 y.2.1 && sameS x.2.1 y.1)
/-- A building among others. -/
def addS (l : List ByteArray) (z : ByteArray) : List ByteArray := if 0 ≤ idxS z l then l else l ++ [z]
def addV (l : List ByteArray) (x : Way) : List ByteArray := addS (addS l x.1) x.2.1
theorem addS_len (l : List ByteArray) (z : ByteArray) : (addS l z).length ≤ l.length + 1 := by unfold addS; split <;> simp
def AddEnd (B : Nat) (w : World) (v0 : Value) (l : List ByteArray) (x : Way) (e : Ending) (w' : World) : Prop :=
  ∃ A c, e = .returned (.slice A (addV l x).length c) ∧ Own kStr 9 [] 0 B w' (.slice A (addV l x).length c) (addV l x) ∧ w.grownBy w' v0.ownBlock ∧ ∀ y, (Value.slice A (addV l x).length c).ownBlock = some y → v0.ownBlock = some y ∨ w.heap.size ≤ y
/-- What was added of the two. -/
def addTo (l : List ByteArray) (x : Way) : Nat → List ByteArray
  | 0 => l
  | 1 => addS l x.1
  | _ => addV l x
def AddLoop (B gb : Nat) (w : World) (v0 : Value) (l : List ByteArray) (x : Way) (v i : Value) (wr : World) : Prop :=
  ∃ (j : Nat) (A : Option Addr) (c : Nat), j ≤ 2 ∧ i = .int .i64 j ∧ v = .slice A (addTo l x j).length c ∧ Own kStr 9 [] 0 B wr v (addTo l x j) ∧ w.grownBy wr v0.ownBlock ∧ (∀ y, v.ownBlock = some y → v0.ownBlock = some y ∨ gb < y) ∧ wr.cell? ⟨gb, 0, none⟩ = some (.string x.1) ∧ wr.cell? ⟨gb, 1, none⟩ = some (.string x.2.1) ∧ gb < wr.heap.size
theorem addTo_step {l : List ByteArray} {x : Way} {j : Nat} (hj : j < 2) : addTo l x (j + 1) = addS (addTo l x j) (if j = 0 then x.1 else x.2.1) := by
  match j, hj with
  | 0, _ => rfl
  | 1, _ => rfl
theorem addTo_len (l : List ByteArray) (x : Way) (j : Nat) : (addTo l x j).length ≤ l.length + 2 := by
  match j with
  | 0 => exact Nat.le_add_right _ _
  | 1 => have := addS_len l x.1; show (addS l x.1).length ≤ _; omega
  | j + 2 => have h1 := addS_len l x.1; have h2 := addS_len (addS l x.1) x.2.1; show (addS (addS l x.1) x.2.1).length ≤ _; omega
/-- The buildings of ways. -/
def bldV (ws : List Way) : List ByteArray := ws.foldl addV []
theorem bldV_snoc (ws : List Way) (x : Way) : bldV (ws ++ [x]) = addV (bldV ws) x := by unfold bldV; rw [List.foldl_append]; rfl
theorem addV_len (l : List ByteArray) (x : Way) : (addV l x).length ≤ l.length + 2 := addTo_len l x 2
theorem bldV_len : ∀ (n : Nat) (ws : List Way), ws.length = n → (bldV ws).length ≤ 2 * n
  | 0, ws, h => by obtain rfl := List.eq_nil_of_length_eq_zero h; simp [bldV]
  | n + 1, ws, h => by
    have hne : ws ≠ [] := fun e => by subst e; simp at h
    obtain ⟨l, x, rfl⟩ : ∃ l x, ws = l ++ [x] := ⟨ws.dropLast, ws.getLast hne, (List.dropLast_concat_getLast hne).symm⟩
    have ih := bldV_len n l (by simpa using h)
    rw [bldV_snoc]
    have := addV_len (bldV l) x
    omega
def BldEnd (w : World) (ws : List Way) (e : Ending) (w' : World) : Prop :=
  ∃ A c, e = .returned (.slice A (bldV ws).length c) ∧ Own kStr 9 [] 0 w.heap.size w' (.slice A (bldV ws).length c) (bldV ws) ∧ Below w.heap.size w w'
def BldLoop (w : World) (ws : List Way) (v i : Value) (wr : World) : Prop :=
  ∃ (j : Nat) (A : Option Addr) (c : Nat), j ≤ ws.length ∧ i = .int .i64 j ∧ v = .slice A (bldV (ws.take j)).length c ∧ Own kStr 9 [] 0 w.heap.size wr v (bldV (ws.take j)) ∧ Below w.heap.size w wr
end Go.Proofs.YtjdhjnciokhbkaaGreatDoor
