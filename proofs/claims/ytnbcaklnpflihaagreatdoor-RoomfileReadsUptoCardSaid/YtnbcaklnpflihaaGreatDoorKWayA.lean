/- Walks of package travel: ways, their buildings. Conditions: the cells. -/
import Derived.Test.YtnbcaklnpflihaaGreatDoorKIdxS
import Derived.Test.YtnbcaklnpflihaaGreatDoorKStaffB
import Derived.Maps.Range
namespace Go.Proofs.YtnbcaklnpflihaaGreatDoor
open Go.RowKit
set_option maxRecDepth 100000

/-- A way: two buildings, slots. -/
abbrev Way := ByteArray × ByteArray × Int
def kWay : Kind Way := kPair kStr (kPair kStr kInt)
theorem way_get {S : Nat → Prop} {w : World} {A : Option Addr} {ls : List Way} (h : At kWay S w A ls) {j : Nat} {l : Way} (hj : ls[j]? = some l) :
    ∃ b off, A = some ⟨b, off, none⟩ ∧ S b ∧ b < w.heap.size ∧ w.cell? ⟨b, off + j * 3, none⟩ = some (.string l.1) ∧ w.cell? ⟨b, off + j * 3 + 1, none⟩ = some (.string l.2.1) ∧ w.cell? ⟨b, off + j * 3 + 2, none⟩ = some (.int .i64 l.2.2) := by
  obtain ⟨b, off, vs, e, hs, hlt, ⟨us, ts, rfl, h1, us2, ts2, rfl, h2, h3⟩, hcell⟩ := h.get hj
  rw [rep_str] at h1 h2
  rw [rep_int] at h3
  subst h1 h2 h3
  exact ⟨b, off, e, hs, hlt, hcell 0 _ rfl, hcell 1 _ rfl, hcell 2 _ rfl⟩
/-- Two ways are between the same buildings. -/
def sameW (x y : Way) : Bool := (sameS x.1 y.1 && sameS x.2.1 y.2.1) || (sameS x.1 y.2.1 && sameS x.2.1 y.1)
/-- A building among others. -/
def addS (l : List ByteArray) (z : ByteArray) : List ByteArray := if 0 ≤ idxS z l then l else l ++ [z]
def addV (l : List ByteArray) (x : Way) : List ByteArray := addS (addS l x.1) x.2.1
theorem addS_len (l : List ByteArray) (z : ByteArray) : (addS l z).length ≤ l.length + 1 := by unfold addS; split <;> simp
def AddEnd (B : Nat) (w : World) (v0 : Value) (l : List ByteArray) (x : Way) (e : Ending) (w' : World) : Prop :=
  ∃ A c, e = .returned (.slice A (addV l x).length c) ∧ Own kStr 9 [] 0 B w' (.slice A (addV l x).length c) (addV l x) ∧ w.grownBy w' v0.ownBlock ∧ ∀ y, (Value.slice A (addV l x).length c).ownBlock = some y → v0.ownBlock = some y ∨ w.heap.size ≤ y
/-- What was added of the two. -/
def addTo (l : List ByteArray) (x : Way) : Nat → List ByteArray
  | 0 => l
  | 1 => addS l x.1
  | _ => addV l x
def AddLoop (B gb : Nat) (w : World) (v0 : Value) (l : List ByteArray) (x : Way) (v i : Value) (wr : World) : Prop :=
  ∃ (j : Nat) (A : Option Addr) (c : Nat), j ≤ 2 ∧ i = .int .i64 j ∧ v = .slice A (addTo l x j).length c ∧ Own kStr 9 [] 0 B wr v (addTo l x j) ∧ w.grownBy wr v0.ownBlock ∧ (∀ y, v.ownBlock = some y → v0.ownBlock = some y ∨ gb < y) ∧ wr.cell? ⟨gb, 0, none⟩ = some (.string x.1) ∧ wr.cell? ⟨gb, 1, none⟩ = some (.string x.2.1) ∧ gb < wr.heap.size
theorem addTo_step {l : List ByteArray} {x : Way} {j : Nat} (hj : j < 2) : addTo l x (j + 1) = addS (addTo l x j) (if j = 0 then x.1 else x.2.1) := by
  match j, hj with
  | 0, _ => rfl
  | 1, _ => rfl
theorem addTo_len (l : List ByteArray) (x : Way) (j : Nat) : (addTo l x j).length ≤ l.length + 2 := by
  match j with
  | 0 => exact Nat.le_add_right _ _
  | 1 => have := addS_len l x.1; show (addS l x.1).length ≤ _; omega
  | j + 2 => have h1 := addS_len l x.1; have h2 := addS_len (addS l x.1) x.2.1; show (addS (addS l x.1) x.2.1).length ≤ _; omega
/-- The buildings of ways. -/
def bldV (ws : List Way) : List ByteArray := ws.foldl addV []
theorem bldV_snoc (ws : List Way) (x : Way) : bldV (ws ++ [x]) = addV (bldV ws) x := by unfold bldV; rw [List.foldl_append]; rfl
theorem addV_len (l : List ByteArray) (x : Way) : (addV l x).length ≤ l.length + 2 := addTo_len l x 2
theorem bldV_len : ∀ (n : Nat) (ws : List Way), ws.length = n → (bldV ws).length ≤ 2 * n
  | 0, ws, h => by obtain rfl := List.eq_nil_of_length_eq_zero h; simp [bldV]
  | n + 1, ws, h => by
    have hne : ws ≠ [] := fun e => by subst e; simp at h
    obtain ⟨l, x, rfl⟩ : ∃ l x, ws = l ++ [x] := ⟨ws.dropLast, ws.getLast hne, (List.dropLast_concat_getLast hne).symm⟩
    have ih := bldV_len n l (by simpa using h)
    rw [bldV_snoc]
    have := addV_len (bldV l) x
    omega
def BldEnd (w : World) (ws : List Way) (e : Ending) (w' : World) : Prop :=
  ∃ A c, e = .returned (.slice A (bldV ws).length c) ∧ Own kStr 9 [] 0 w.heap.size w' (.slice A (bldV ws).length c) (bldV ws) ∧ Below w.heap.size w w'
def BldLoop (w : World) (ws : List Way) (v i : Value) (wr : World) : Prop :=
  ∃ (j : Nat) (A : Option Addr) (c : Nat), j ≤ ws.length ∧ i = .int .i64 j ∧ v = .slice A (bldV (ws.take j)).length c ∧ Own kStr 9 [] 0 w.heap.size wr v (bldV (ws.take j)) ∧ Below w.heap.size w wr
end Go.Proofs.YtnbcaklnpflihaaGreatDoor
