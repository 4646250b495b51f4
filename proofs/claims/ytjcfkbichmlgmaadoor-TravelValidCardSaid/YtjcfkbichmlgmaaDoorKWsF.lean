/- Walks of weekset.Weeks and timetableref05.Weeks, and of SameInts: the weeks of a set. No condition. Walk of weekset.Format. No condition. -/
import Derived.Test.YtjcfkbichmlgmaaDoorKRuns
import Derived.Test.YtjcfkbichmlgmaaDoorKTgB
import Derived.Laws.AppendOwn
namespace Go.Proofs.YtjcfkbichmlgmaaDoor
open Go.RowKit

theorem infoInt : (Tryd.prog.info? 3).map (fun i => (i.zero, i.size, i.bytes)) = some (some (.int .i64 0), 1, 8) := by kernel_rfl
/-- The numbers of a list, in memory of their own. -/
def IntsAt (B : Nat) (W : World) (v : Value) (xs : List Nat) : Prop := W.ownsRow B 3 1 v xs.length (xs.map fun x : Nat => Value.int .i64 (x : Int))
theorem IntsAt.nil (B : Nat) (W : World) : IntsAt B W (.slice none 0 0) [] := World.ownsRow_nil _ _ _ _
def weeksI (set : Int) : List Nat := if validB set 20 then weeksL set.toNat 20 else []
theorem new_one (w : World) (x : Value) (t : TypeId) : ∀ (j : Nat) (u : Value), [x][j]? = some u → (w.alloc (.cells #[x] t)).cell? ((⟨w.heap.size, 0, none⟩ : Addr).add j) = some u := by
  intro j u hu
  match j, hu with
  | 0, hu => simp at hu; subst hu; simp [Addr.add]
theorem one_int {k : IntKind} {x : Int} : ∀ u ∈ [Value.int k x], u.oneCell' = true := by
  intro u hu; simp at hu; subst hu; rfl
theorem one_str {x : ByteArray} : ∀ u ∈ [Value.string x], u.oneCell' = true := by
  intro u hu; simp at hu; subst hu; rfl
theorem bit_walk (s k : Nat) (hs : s < 1048576) : (bits .and .i64 ((s : Int) / 2 ^ k) 1 == 1) = s.testBit k := by
  have h1 : s >>> k ≤ s := by rw [Nat.shiftRight_eq_div_pow]; exact Nat.div_le_self _ _
  have e : ((s : Int) / 2 ^ k) = ((s >>> k : Nat) : Int) := by rw [Nat.shiftRight_eq_div_pow]; simp
  have h2 : bits .and .i64 ((s >>> k : Nat) : Int) 1 = (((s >>> k) &&& 1 : Nat) : Int) := i64_and_nat _ 1 (by omega) (by omega)
  rw [e, h2, Nat.testBit, Bool.eq_iff_iff]
  have : s >>> k &&& 1 = (s >>> k) % 2 := Nat.and_one_is_mod _
  simp only [beq_iff_eq, bne_iff_ne, Nat.and_comm 1]
  omega
theorem bit_walk0 (s k : Nat) (hs : s < 1048576) : (bits .and .i64 ((s : Int) / 2 ^ k) 1 == 0) = !s.testBit k := by
  have h1 : s >>> k ≤ s := by rw [Nat.shiftRight_eq_div_pow]; exact Nat.div_le_self _ _
  have e : ((s : Int) / 2 ^ k) = ((s >>> k : Nat) : Int) := by rw [Nat.shiftRight_eq_div_pow]; simp
  have h2 : bits .and .i64 ((s >>> k : Nat) : Int) 1 = (((s >>> k) &&& 1 : Nat) : Int) := i64_and_nat _ 1 (by omega) (by omega)
  rw [e, h2, Nat.testBit, Bool.eq_iff_iff]
  have : s >>> k &&& 1 = (s >>> k) % 2 := Nat.and_one_is_mod _
  simp only [beq_iff_eq, Bool.not_eq_true', bne_eq_false_iff_eq, Nat.and_comm 1]
  omega
/-- What a list of numbers in memory is read as. -/
theorem IntsAt.open {B : Nat} {W : World} {v : Value} {xs : List Nat} (h : IntsAt B W v xs) :
    (xs = [] ∧ ∃ A c, v = .slice A 0 c) ∨ ∃ g c, v = .slice (some ⟨g, 0, none⟩) xs.length c ∧ B ≤ g ∧ xs.length ≤ c ∧ c ≤ maxLen ∧ ∀ j, j < xs.length → W.cell? ⟨g, j, none⟩ = some (.int .i64 ((xs.getD j 0 : Nat) : Int)) := by
  obtain ⟨h1, h2⟩ := h
  rcases h2 with ⟨rfl, h0⟩ | ⟨g, cap, cur, rfl, hb, hg, hn, hm, hs, ht⟩
  · exact .inl ⟨List.eq_nil_of_length_eq_zero h0, _, _, rfl⟩
  · refine .inr ⟨g, cap, rfl, hb, hn, hm, fun j hj => ?_⟩
    rw [cell_of_row W g j _ _ _ hg]
    have e : (cur.toList.take (xs.length * 1))[j]? = (xs.map fun x : Nat => Value.int .i64 (x : Int))[j]? := by rw [ht]
    rw [List.getElem?_take, if_pos (by omega), List.getElem?_map] at e
    rw [← Array.getElem?_toList, e, List.getD_eq_getElem?_getD, List.getElem?_eq_getElem hj]
    rfl
theorem IntsAt.later {B : Nat} {W W' : World} {v : Value} {xs : List Nat} (h : IntsAt B W v xs) (hb : Below W.heap.size W W') : IntsAt B W' v xs :=
  World.ownsRow.kept (row := none) h ⟨hb.os, hb.tape, hb.output, hb.size, fun k hk _ => hb.block k hk⟩ (by cases v.ownBlock <;> simp)
set_option maxHeartbeats 800000 in
theorem sameInts_walk (v v' : Value) (xs : List Nat) (hl : xs.length ≤ 1000) (B B' : Nat) (w : World) (h : IntsAt B w v xs) (h' : IntsAt B' w v' xs) :
    Calls Tryd.prog 29 #[v, v'] w fun e w' => e = .returned (.bool true) ∧ Below w.heap.size w w' := by
  by_cases h0 : xs.length = 0
  · obtain rfl := List.eq_nil_of_length_eq_zero h0
    have e1 : ∃ A c, v = .slice A 0 c := by
      rcases h.open with ⟨-, h⟩ | ⟨g, c, h, -⟩
      · exact h
      · exact ⟨_, _, h⟩
    have e2 : ∃ A c, v' = .slice A 0 c := by
      rcases h'.open with ⟨-, h⟩ | ⟨g, c, h, -⟩
      · exact h
      · exact ⟨_, _, h⟩
    obtain ⟨A, c, rfl⟩ := e1
    obtain ⟨A', c', rfl⟩ := e2
    clear h h' h0
    go_enter Tryd.func29, Tryd.ntmps29
    go_wp2
    refine wp_loop_rounds 1 ?_
    rw [rounds_succ]
    go_wp2
    go_ret
    exact ⟨rfl, Below.refl _ _⟩
  · have e1 : ∃ g c, v = .slice (some ⟨g, 0, none⟩) xs.length c ∧ xs.length ≤ c ∧ ∀ j, j < xs.length → w.cell? ⟨g, j, none⟩ = some (.int .i64 ((xs.getD j 0 : Nat) : Int)) := by
      rcases h.open with ⟨rfl, -⟩ | ⟨g, c, h1, -, h2, -, h3⟩
      · exact absurd rfl h0
      · exact ⟨g, c, h1, h2, h3⟩
    have e2 : ∃ g c, v' = .slice (some ⟨g, 0, none⟩) xs.length c ∧ xs.length ≤ c ∧ ∀ j, j < xs.length → w.cell? ⟨g, j, none⟩ = some (.int .i64 ((xs.getD j 0 : Nat) : Int)) := by
      rcases h'.open with ⟨rfl, -⟩ | ⟨g, c, h1, -, h2, -, h3⟩
      · exact absurd rfl h0
      · exact ⟨g, c, h1, h2, h3⟩
    obtain ⟨g, c, rfl, hc, hcell⟩ := e1
    obtain ⟨g', c', rfl, hc', hcell'⟩ := e2
    obtain ⟨len, hlen⟩ : ∃ len, xs.length = len := ⟨_, rfl⟩
    rw [hlen] at hl hc hc' hcell hcell'
    rw [hlen]
    have hcell := hide hcell
    have hcell' := hide hcell'
    clear h h' h0 hlen
    go_enter Tryd.func29, Tryd.ntmps29
    go_wp2
    go_loopw [5] (fun i wr => ∃ k : Nat, k ≤ len ∧ i = .int .i64 k ∧ Below w.heap.size w wr) (fun i _ => (len - (intOf i).toNat))
    case atStart => exact ⟨0, by omega, rfl, Below.refl _ _⟩
    case round =>
      obtain ⟨k, hk, rfl, hb⟩ := hrel
      by_cases hlt : k < len
      · have g1 := cell_later hb (hcell.out k hlt)
        have g2 := cell_later hb (hcell'.out k hlt)
        have k0 : (0 : Int) ≤ k := by omega
        have k1 : (k : Int) < len := by omega
        go_wp2
        go_quiet (fail)
        go_wp2
        go_roundw
        case rel => exact ⟨k + 1, by omega, by go_num, (by repeat (first | exact Below.refl _ _ | refine ext_alloc ?_ _ | refine ext_drewN ?_ _ | refine ext_drew ?_ | refine ext_trans ?_ (by assumption)))⟩
        case measure => simp [intOf]; omega
      · go_wp2
        go_ret
        exact ⟨rfl, hb⟩
end Go.Proofs.YtjcfkbichmlgmaaDoor

namespace Go.Proofs.YtjcfkbichmlgmaaDoor
open Go.RowKit
set_option maxRecDepth 100000

theorem infoStr : (Tryd.prog.info? 9).map (fun i => (i.zero, i.size, i.bytes)) = some (some (.string ⟨#[]⟩), 1, 16) := by kernel_rfl
/-- The texts of a list, in memory of their own. -/
def StrsAt (B : Nat) (W : World) (v : Value) (xs : List (List UInt8)) : Prop := W.ownsRow B 9 1 v xs.length (xs.map fun x => Value.string ⟨x.toArray⟩)
theorem StrsAt.nil (B : Nat) (W : World) : StrsAt B W (.slice none 0 0) [] := World.ownsRow_nil _ _ _ _
theorem itoa_walk (a : Int) (h0 : 0 ≤ a) (h1 : a < 100) (w : World) :
    Calls Tryd.prog 17 #[.int .i64 a] w fun e w' => e = .returned (.string ⟨(dec2 a.toNat).toArray⟩) ∧ w = w' := by
  obtain ⟨n, rfl⟩ := Int.eq_ofNat_of_zero_le h0
  rw [Int.toNat_natCast, ← dec2_eq (by omega)]
  exact (Tryd.strconv_Itoa_small n (by omega) w).mono fun e w' ⟨he, hw⟩ => ⟨he, hw.symm⟩
def fmtV (set n : Int) : List UInt8 × Int := if validB set n then (formatL set.toNat n.toNat, 0) else ([], 1)
theorem ret_fs {a b : List UInt8} {k : IntKind} {c d : Int} (h1 : a = b) (h2 : c = d) : Ending.returned (.tuple #[.string ⟨a.toArray⟩, .int k c]) = .returned (.tuple #[.string ⟨b.toArray⟩, .int k d]) := by rw [h1, h2]
theorem formatL_name {s n k : Nat} (h : nameIdx s n = k) (hk : k < 5) : formatL s n = wordName k := by
  subst h
  unfold formatL itemsT
  rw [if_pos hk, Lib.join_one]
theorem formatL_runs {s n : Nat} (h : nameIdx s n = 5) : formatL s n = Lib.join ((runs s.testBit n 1).map runT) [44] := by
  unfold formatL itemsT
  rw [if_neg (by omega)]

end Go.Proofs.YtjcfkbichmlgmaaDoor
