/- Walks of weekset.Weeks and timetableref05.Weeks, and of SameInts: the weeks of a set. No condition. -/
import Derived.Test.YtgbkochjoaalhaaGreatDoorRuns
import Derived.Test.YtgbkochjoaalhaaGreatDoorTgA
import Derived.Laws.AppendOwn
namespace Go.Proofs.YtgbkochjoaalhaaGreatDoor
open Go.RowKit

theorem infoInt : (Tryz.prog.info? 3).map (fun i => (i.zero, i.size, i.bytes)) = some (some (.int .i64 0), 1, 8) := by kernel_rfl
/-- The numbers of a list, in memory of their own. -/
def IntsAt (B : Nat) (W : World) (v : Value) (xs : List Nat) : Prop := W.ownsRow B 3 1 v xs.length (xs.map fun x : Nat => Value.int .i64 (x : Int))
theorem IntsAt.nil (B : Nat) (W : World) : IntsAt B W (.slice none 0 0) [] := World.ownsRow_nil _ _ _ _
def weeksI (set : Int) : List Nat := if validB set 20 then weeksL set.toNat 20 else []
theorem new_one (w : World) (x : Value) (t : TypeId) : ∀ (j : Nat) (u : Value), [x][j]? = some u → (w.alloc (.cells #[x] t)).cell? ((⟨w.heap.size, 0, none⟩ : Addr).add j) = some u := by
  intro j u hu
  match j, hu with
  | 0, hu => simp at hu; subst hu; simp [Addr.add]
theorem one_int {k : IntKind} {x : Int} : ∀ u ∈ [Value.int k x], u.oneCell' = true := by
  intro u hu; simp at hu; subst hu; rfl
theorem one_str {x : ByteArray} : ∀ u ∈ [Value.string x], u.oneCell' = true := by
  intro u hu; simp at hu; subst hu; rfl
theorem bit_walk (s k : Nat) (hs : s < 1048576) : (bits .and .i64 ((s : Int) / 2 ^ k) 1 == 1) = s.testBit k := by
  have h1 : s >>> k ≤ s := by rw [Nat.shiftRight_eq_div_pow]; exact Nat.div_le_self _ _
  have e : ((s : Int) / 2 ^ k) = ((s >>> k : Nat) : Int) := by rw [Nat.shiftRight_eq_div_pow]; simp
  have h2 : bits .and .i64 ((s >>> k : Nat) : Int) 1 = (((s >>> k) &&& 1 : Nat) : Int) := i64_and_nat _ 1 (by omega) (by omega)
  rw [e, h2, Nat.testBit, Bool.eq_iff_iff]
  have : s >>> k &&& 1 = (s >>> k) % 2 := Nat.and_one_is_mod _
  simp only [beq_iff_eq, bne_iff_ne, Nat.and_comm 1]
  omega
theorem bit_walk0 (s k : Nat) (hs : s < 1048576) : (bits .and .i64 ((s : Int) / 2 ^ k) 1 == 0) = !s.testBit k := by
  have h1 : s >>> k ≤ s := by rw [Nat.shiftRight_eq_div_pow]; exact Nat.div_le_self _ _
  have e : ((s : Int) / 2 ^ k) = ((s >>> k : Nat) : Int) := by rw [Nat.shiftRight_eq_div_pow]; simp
  have h2 : bits .and .i64 ((s >>> k : Nat) : Int) 1 = (((s >>> k) &&& 1 : Nat) : Int) := i64_and_nat _ 1 (by omega) (by omega)
  rw [e, h2, Nat.testBit, Bool.eq_iff_iff]
  have : s >>> k &&& 1 = (s >>> k) % 2 := Nat.and_one_is_mod _
  simp only [beq_iff_eq, Bool.not_eq_true', bne_eq_false_iff_eq, Nat.and_comm 1]
  omega
/-- What a list of numbers in memory is read as. -/
theorem IntsAt.open {B : Nat} {W : World} {v : Value} {xs : List Nat} (h : IntsAt B W v xs) :
    (xs = [] ∧ ∃ A c, v = .slice A 0 c) ∨ ∃ g c, v = .slice (some ⟨g, 0, none⟩) xs.length c ∧ B ≤ g ∧ xs.length ≤ c ∧ c ≤ maxLen ∧ ∀ j, j < xs.length → W.cell? ⟨g, j, none⟩ = some (.int .i64 ((xs.getD j 0 : Nat) : Int)) := by
  obtain ⟨h1, h2⟩ := h
  rcases h2 with ⟨rfl, h0⟩ | ⟨g, cap, cur, rfl, hb, hg, hn, hm, hs, ht⟩
  · exact .inl ⟨List.eq_nil_of_length_eq_zero h0, _, _, rfl⟩
  · refine .inr ⟨g, cap, rfl, hb, hn, hm, fun j hj => ?_⟩
    rw [cell_of_row W g j _ _ _ hg]
    have e : (cur.toList.take (xs.length * 1))[j]? = (xs.map fun x : Nat => Value.int .i64 (x : Int))[j]? := by rw [ht]
    rw [List.getElem?_take, if_pos (by omega), List.getElem?_map] at e
    rw [← Array.getElem?_toList, e, List.getD_eq_getElem?_getD, List.getElem?_eq_getElem hj]
    rfl
theorem IntsAt.later {B : Nat} {W W' : World} {v : Value} {xs : List Nat} (h : IntsAt B W v xs) (hb : Below W.heap.size W W') : IntsAt B W' v xs :=
  World.ownsRow.kept (row := none) h ⟨hb.os, hb.tape, hb.output, hb.size, fun k hk _ => hb.block k hk⟩ (by cases v.ownBlock <;> simp)
end Go.Proofs.YtgbkochjoaalhaaGreatDoor
