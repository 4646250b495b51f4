/- Walks of weekset.Weeks and timetableref05.Weeks, and of SameInts: the weeks of a set. No condition. Walk of weekset.Format. No condition. -/
import Derived.Test.YtonpfohhedcjbaaGreatDoorKRuns
import Derived.Test.YtonpfohhedcjbaaGreatDoorKTgB
import Derived.Laws.AppendOwn
namespace Go.Proofs.YtonpfohhedcjbaaGreatDoor
open Go.RowKit

theorem infoInt : (Tryz.prog.info? 3).map (fun i => (i.zero, i.size, i.bytes)) = some (some (.int .i64 0), 1, 8) := by kernel_rfl
/-- The numbers of a list, in memory of their own. -/
def IntsAt (B : Nat) (W : World) (v : Value) (xs : List Nat) : Prop := W.ownsRow B 3 1 v xs.length (xs.map fun x : Nat => Value.int .i64 (x : Int))
theorem IntsAt.nil (B : Nat) (W : World) : IntsAt B W (.slice none 0 0) [] := World.ownsRow_nil _ _ _ _
def weeksI (set : Int) : List Nat := if validB set 20 then weeksL set.toNat 20 else []
theorem new_one (w : World) (x : Value) (t : TypeId) : ∀ (j : Nat) (u : Value), [x][j]? = some u → (w.alloc (.cells #[x] t)).cell? ((⟨w.heap.size, 0, none⟩ : Addr).add j) = some u := by
  intro j u hu
  match j, hu with
  | 0, hu => simp at hu; subst hu; simp [Addr.add]
theorem one_int {k : IntKind} {x : Int} : ∀ u ∈ [Value.int k x], u.oneCell' = true := by
  intro u hu; simp at hu; subst hu; rfl
theorem one_str {x : ByteArray} : ∀ u ∈ [Value.string x], u.oneCell' = true := by
  intro u hu; simp at hu; subst hu; rfl
theorem bit_walk (s k : Nat) (hs : s < 1048576) : (bits .and .i64 ((s : Int) / 2 ^ k) 1 == 1) = s.testBit k := by
  have h1 : s >>> k ≤ s := by rw [Nat.shiftRight_eq_div_pow]; exact Nat.div_le_self _ _
  have e : ((s : Int) / 2 ^ k) = ((s >>> k : Nat) : Int) := by rw [Nat.shiftRight_eq_div_pow]; simp
  have h2 : bits .and .i64 ((s >>> k : Nat) : Int) 1 = (((s >>> k) &&& 1 : Nat) : Int) := i64_and_nat _ 1 (by omega) (by omega)
  rw [e, h2, Nat.testBit, Bool.eq_iff_iff]
  have : s >>> k &&& 1 = (s >>> k) % 2 := Nat.and_one_is_mod _
  simp only [beq_iff_eq, bne_iff_ne, Nat.and_comm 1]
  omega
theorem bit_walk0 (s k : Nat) (hs : s < 1048576) : (bits .and .i64 ((s : Int) / 2 ^ k) 1 == 0) = !s.testBit k := by
  have h1 : s >>> k ≤ s := by rw [Nat.shiftRight_eq_div_pow]; exact Nat.div_le_self _ _
  have e : ((s : Int) / 2 ^ k) = ((s >>> k : Nat) : Int) := by rw [Nat.shiftRight_eq_div_pow]; simp
  have h2 : bits .and .i64 ((s >>> k : Nat) : Int) 1 = (((s >>> k) &&& 1 : Nat) : Int) := i64_and_nat _ 1 (by omega) (by omega)
  rw [e, h2, Nat.testBit, Bool.eq_iff_iff]
  have : s >>> k &&& 1 = (s >>> k) % 2 := Nat.and_one_is_mod _
  simp only [beq_iff_eq, Bool.not_eq_true', bne_eq_false_iff_eq, Nat.and_comm 1]
  omega
/-- What a list of numbers in memory is read as. -/
theorem IntsAt.open {B : Nat} {W : World} {v : Value} {xs : List Nat} (h : IntsAt B W v xs) :
    (xs = [] ∧ ∃ A c, v = .slice A 0 c) ∨ ∃ g c, v = .slice (some ⟨g, 0, none⟩) xs.length c ∧ B ≤ g ∧ xs.length ≤ c ∧ c ≤ maxLen ∧ ∀ j, j < xs.length → W.cell? ⟨g, j, none⟩ = some (.int .i64 ((xs.getD j 0 : Nat) : Int)) := by
  obtain ⟨h1, h2⟩ := h
  rcases h2 with ⟨rfl, h0⟩ | ⟨g, cap, cur, rfl, hb, hg, hn, hm, hs, ht⟩
  · exact .inl ⟨List.eq_nil_of_length_eq_zero h0, _, _, rfl⟩
  · refine .inr ⟨g, cap, rfl, hb, hn, hm, fun j hj => ?_⟩
    rw [cell_of_row W g j _ _ _ hg]
    have e : (cur.toList.take (xs.length * 1))[j]? = (xs.map fun x : Nat => Value.int .i64 (x : Int))[j]? := by rw [ht]
    rw [List.getElem?_take, if_pos (by omega), List.getElem?_map] at e
    rw [← Array.getElem?_toList, e, List.getD_eq_getElem?_getD, List.getElem?_eq_getElem hj]
    rfl
theorem IntsAt.later {B : Nat} {W W' : World} {v : Value} {xs : List Nat} (h : IntsAt B W v xs) (hb : Below W.heap.size W W') : IntsAt B W' v xs :=
  World.ownsRow.kept (row := none) h ⟨hb.os, hb.tape, hb.output, hb.size, fun k hk _ => hb.block k hk⟩ (by cases v.ownBlock <;> simp)
end Go.Proofs.YtonpfohhedcjbaaGreatDoor

namespace Go.Proofs.YtonpfohhedcjbaaGreatDoor
open Go.RowKit
set_option maxRecDepth 100000

theorem infoStr : (Tryz.prog.info? 9).map (fun i => (i.zero, i.size, i.bytes)) = some (some (.string ⟨#[]⟩), 1, 16) := by kernel_rfl
/-- The texts of a list, in memory of their own. -/
def StrsAt (B : Nat) (W : World) (v : Value) (xs : List (List UInt8)) : Prop := W.ownsRow B 9 1 v xs.length (xs.map fun x => Value.string ⟨x.toArray⟩)
theorem StrsAt.nil (B : Nat) (W : World) : StrsAt B W (.slice none 0 0) [] := World.ownsRow_nil _ _ _ _
theorem join_walk (B : Nat) (w : World) (v : Value) (xs : List (List UInt8)) (h : StrsAt B w v xs) (hl : xs.length ≤ 1000000) (hj : (Lib.join xs [44]).length ≤ 1000000000) :
    Calls Tryz.prog 72 #[v, .string ⟨#[44]⟩] w fun e w' => e = .returned (.string ⟨(Lib.join xs [44]).toArray⟩) ∧ Below w.heap.size w w' := by
  obtain ⟨h1, h2⟩ := h
  have hx : (xs.map fun x => ByteArray.mk x.toArray).map (·.data.toList) = xs := by
    rw [List.map_map]; exact (List.map_congr_left (fun x _ => rfl)).trans (List.map_id xs)
  rcases h2 with ⟨rfl, h0⟩ | ⟨g, cap, cur, rfl, hb, hg, hn, hm, hs, ht⟩
  · obtain rfl := List.eq_nil_of_length_eq_zero h0
    exact (Tryz.strings_Join_none none 0 _ w).mono fun e w' ⟨he, hw⟩ => ⟨he, by rw [hw]; exact Below.refl _ _⟩
  · have h3 := Tryz.strings_Join g 0 cap (xs.map fun x => ByteArray.mk x.toArray) ⟨#[44]⟩ w (by
      intro j x hx
      rw [List.getElem?_map] at hx
      have e : (cur.toList.take (xs.length * 1))[j]? = (xs.map fun x => Value.string ⟨x.toArray⟩)[j]? := by rw [ht]
      cases hj : xs[j]? with
      | none => rw [hj] at hx; simp at hx
      | some y =>
        rw [hj] at hx
        obtain rfl := Option.some.inj hx
        have hjl := (List.getElem?_eq_some_iff.1 hj).1
        rw [List.getElem?_take, if_pos (by omega), List.getElem?_map, hj] at e
        rw [Nat.zero_add, cell_of_row w g j _ _ _ hg, ← Array.getElem?_toList, e]; rfl)
      (Array.getElem?_eq_some_iff.1 hg).1 (by rw [List.length_map]; omega) (by rw [List.length_map]; exact hn) (by rw [hx]; show (Lib.join xs [44]).length ≤ _; omega)
    rw [hx, List.length_map] at h3
    exact h3
theorem itoa_walk (a : Int) (h0 : 0 ≤ a) (h1 : a < 100) (w : World) :
    Calls Tryz.prog 92 #[.int .i64 a] w fun e w' => e = .returned (.string ⟨(dec2 a.toNat).toArray⟩) ∧ w = w' := by
  obtain ⟨n, rfl⟩ := Int.eq_ofNat_of_zero_le h0
  rw [Int.toNat_natCast, ← dec2_eq (by omega)]
  exact (Tryz.strconv_Itoa_small n (by omega) w).mono fun e w' ⟨he, hw⟩ => ⟨he, hw.symm⟩
def fmtV (set n : Int) : List UInt8 × Int := if validB set n then (formatL set.toNat n.toNat, 0) else ([], 1)
theorem ret_fs {a b : List UInt8} {k : IntKind} {c d : Int} (h1 : a = b) (h2 : c = d) : Ending.returned (.tuple #[.string ⟨a.toArray⟩, .int k c]) = .returned (.tuple #[.string ⟨b.toArray⟩, .int k d]) := by rw [h1, h2]
theorem formatL_name {s n k : Nat} (h : nameIdx s n = k) (hk : k < 5) : formatL s n = wordName k := by
  subst h
  unfold formatL itemsT
  rw [if_pos hk, Lib.join_one]
theorem formatL_runs {s n : Nat} (h : nameIdx s n = 5) : formatL s n = Lib.join ((runs s.testBit n 1).map runT) [44] := by
  unfold formatL itemsT
  rw [if_neg (by omega)]

end Go.Proofs.YtonpfohhedcjbaaGreatDoor
