/- Walks of weekset.Weeks and timetableref05.Weeks, and of SameInts: the weeks of a set. No condition. -/
import Derived.Test.YtdnmmkbknicdcaaDoorRuns
import Derived.Test.YtdnmmkbknicdcaaDoorTgA
import Derived.Laws.AppendOwn
namespace Go.Proofs.YtdnmmkbknicdcaaDoor
open Go.RowKit

theorem infoInt : (Tryd.prog.info? 3).map (fun i => (i.zero, i.size, i.bytes)) = some (some (.int .i64 0), 1, 8) := by kernel_rfl
/-- The numbers of a list, in memory of their own. -/
def IntsAt (B : Nat) (W : World) (v : Value) (xs : List Nat) : Prop := W.ownsRow B 3 1 v xs.length (xs.map fun x : Nat => Value.int .i64 (x : Int))
theorem IntsAt.nil (B : Nat) (W : World) : IntsAt B W (.slice none 0 0) [] := World.ownsRow_nil _ _ _ _
def weeksI (set : Int) : List Nat := if validB set 20 then weeksL set.toNat 20 else []
theorem new_one (w : World) (x : Value) (t : TypeId) : ∀ (j : Nat) (u : Value), [x][j]? = some u → (w.alloc (.cells #[x] t)).cell? ((⟨w.heap.size, 0, none⟩ : Addr).add j) = some u := by
  intro j u hu
  match j, hu with
  | 0, hu => simp at hu; subst hu; simp [Addr.add]
theorem one_int {k : IntKind} {x : Int} : ∀ u ∈ [Value.int k x], u.oneCell' = true := by
  intro u hu; simp at hu; subst hu; rfl
theorem one_str {x : ByteArray} : ∀ u ∈ [Value.string x], u.oneCell' = true := by
  intro u hu; simp at hu; subst hu; rfl
theorem bit_walk (s k : Nat) (hs : s < 1048576) : (bits .and .i64 ((s : Int) / 2 ^ k) 1 == 1) = s.testBit k := by
  have h1 : s >>> k ≤ s := by rw [Nat.shiftRight_eq_div_pow]; exact Nat.div_le_self _ _
  have e : ((s : Int) / 2 ^ k) = ((s >>> k : Nat) : Int) := by rw [Nat.shiftRight_eq_div_pow]; simp
  have h2 : bits .and .i64 ((s >>> k : Nat) : Int) 1 = (((s >>> k) &&& 1 : Nat) : Int) := i64_and_nat _ 1 (by omega) (by omega)
  rw [e, h2, Nat.testBit, Bool.eq_iff_iff]
  have : s >>> k &&& 1 = (s >>> k) % 2 := Nat.and_one_is_mod _
  simp only [beq_iff_eq, bne_iff_ne, Nat.and_comm 1]
  omega
theorem bit_walk0 (s k : Nat) (hs : s < 1048576) : (bits .and .i64 ((s : Int) / 2 ^ k) 1 == 0) = !s.testBit k := by
  have h1 : s >>> k ≤ s := by rw [Nat.shiftRight_eq_div_pow]; exact Nat.div_le_self _ _
  have e : ((s : Int) / 2 ^ k) = ((s >>> k : Nat) : Int) := by rw [Nat.shiftRight_eq_div_pow]; simp
  have h2 : bits .and .i64 ((s >>> k : Nat) : Int) 1 = (((s >>> k) &&& 1 : Nat) : Int) := i64_and_nat _ 1 (by omega) (by omega)
  rw [e, h2, Nat.testBit, Bool.eq_iff_iff]
  have : s >>> k &&& 1 = (s >>> k) % 2 := Nat.and_one_is_mod _
  simp only [beq_iff_eq, Bool.not_eq_true', bne_eq_false_iff_eq, Nat.and_comm 1]
  omega
set_option maxRecDepth 100000 in
set_option maxHeartbeats 800000 in
theorem wsWeeks_walk (set : Int) (w : World) :
    Calls Tryd.prog 43 #[.int .i64 set] w fun e w' => ∃ v, e = .returned v ∧ IntsAt w.heap.size w' v (weeksI set) ∧ Below w.heap.size w w' := by
  cases hv : validB set 20
  · rw [show weeksI set = [] from by simp [weeksI, hv]]
    go_enter Tryd.func43, Tryd.ntmps43
    go_wp2_with (go_at_call 40; refine (wsValid_walk _ _ _).mono ?_; rintro e w3 ⟨rfl, rfl⟩)
    go_ret
    exact ⟨_, rfl, IntsAt.nil _ _, Below.refl _ _⟩
  · obtain ⟨-, -, h1, h2⟩ := validB_iff.1 hv
    rw [show weeksI set = weeksL set.toNat 20 from by simp [weeksI, hv]]
    obtain ⟨s, rfl⟩ := Int.eq_ofNat_of_zero_le (by omega : 0 ≤ set)
    have hs : s < 1048576 := by simp at h2; omega
    rw [Int.toNat_natCast]
    clear h2
    have hs := hide hs
    obtain ⟨i0, hi, hz0, hz1, hz2⟩ := info_parts infoInt
    go_enter Tryd.func43, Tryd.ntmps43
    go_wp2_with (go_at_call 40; refine (wsValid_walk _ _ _).mono ?_; rintro e w3 ⟨rfl, rfl⟩)
    go_loopw [3, 8] (fun v i wr => ∃ k : Nat, k ≤ 20 ∧ i = .int .i64 k ∧ IntsAt w.heap.size wr v (weeksL s k) ∧ Below w.heap.size w wr) (fun _ i _ => (20 - intOf i).toNat)
    case atStart => exact ⟨0, by omega, rfl, IntsAt.nil _ _, Below.refl _ _⟩
    case round =>
      obtain ⟨k, hk, rfl, hown, hb⟩ := hrel
      by_cases hlt : k < 20
      · have hl := weeksL_len s k
        unfold IntsAt at hown
        cases hbt : s.testBit k
        · have hbw := (bit_walk s k hs.out).trans hbt
          have HS := hide (weeksL_miss hbt)
          clear hbt
          go_wp2
          go_roundw
          case rel => exact ⟨k + 1, by omega, by go_num, by rw [HS.out]; exact hown, hb⟩
          case measure => simp [intOf]; omega
        · have hbw := (bit_walk s k hs.out).trans hbt
          have HS := hide (weeksL_hit hbt)
          clear hbt
          go_wp2_with (at_builtin; refine wpList_append_own _ rfl _ _ 22 rfl w.heap.size 3 i0 (.int .i64 0) 1 8 Tryd.underlying22 hi hz0 hz1 hz2 rfl (by decide) _ _ _ rfl (hown.alloc _) ⟨wr.heap.size, 0, none⟩ 1 1 [.int .i64 ((k : Int) + 1)] rfl rfl ?c1 ?c2 ?c3 ?c4 ?c5 ?_)
          case c1 =>
            intro j u hu
            match j, hu with
            | 0, hu => simp at hu; subst hu; simp [Addr.add]
          case c2 => intro u hu; simp at hu; subst hu; rfl
          case c3 => unfold maxLen; omega
          case c4 => omega
          case c5 => have := hb.size; rw [World.size_alloc]; omega
          intro v' w1 hown' hgrow _
          have hb1 : Below w.heap.size w w1 := Below.grown (ext_alloc hb _) hgrow (by have := hb.size; rw [World.size_alloc]; omega) (fun j hj => (hown.lt j hj).1)
          clear hbw
          go_wp2
          go_roundw
          case rel => exact ⟨k + 1, by omega, by go_num, by rw [HS.out]; unfold IntsAt; simpa using hown', hb1⟩
          case measure => simp [intOf]; omega
      · obtain rfl : k = 20 := by omega
        go_wp2
        go_ret
        exact ⟨_, rfl, hown, hb⟩

set_option maxRecDepth 100000 in
set_option maxHeartbeats 800000 in
theorem r5Weeks_walk (set : Int) (w : World) :
    Calls Tryd.prog 44 #[.int .i64 set] w fun e w' => ∃ v, e = .returned v ∧ IntsAt w.heap.size w' v (weeksI set) ∧ Below w.heap.size w w' := by
  cases hv : validB set 20
  · rw [show weeksI set = [] from by simp [weeksI, hv]]
    go_enter Tryd.func44, Tryd.ntmps44
    go_wp2_with (go_at_call 41; refine (r5Valid_walk _ _ _).mono ?_; rintro e w3 ⟨rfl, rfl⟩)
    go_ret
    exact ⟨_, rfl, IntsAt.nil _ _, Below.refl _ _⟩
  · obtain ⟨-, -, h1, h2⟩ := validB_iff.1 hv
    rw [show weeksI set = weeksL set.toNat 20 from by simp [weeksI, hv]]
    obtain ⟨s, rfl⟩ := Int.eq_ofNat_of_zero_le (by omega : 0 ≤ set)
    have hs : s < 1048576 := by simp at h2; omega
    rw [Int.toNat_natCast]
    clear h2
    have hs := hide hs
    obtain ⟨i0, hi, hz0, hz1, hz2⟩ := info_parts infoInt
    go_enter Tryd.func44, Tryd.ntmps44
    go_wp2_with (go_at_call 41; refine (r5Valid_walk _ _ _).mono ?_; rintro e w3 ⟨rfl, rfl⟩)
    go_loopw [3, 4] (fun v i wr => ∃ k : Nat, k ≤ 20 ∧ i = .int .i64 ((k : Int) + 1) ∧ IntsAt w.heap.size wr v (weeksL s k) ∧ Below w.heap.size w wr) (fun _ i _ => (21 - intOf i).toNat)
    case atStart => exact ⟨0, by omega, rfl, IntsAt.nil _ _, Below.refl _ _⟩
    case round =>
      obtain ⟨k, hk, rfl, hown, hb⟩ := hrel
      by_cases hlt : k < 20
      · have hl := weeksL_len s k
        unfold IntsAt at hown
        cases hbt : s.testBit k
        · have hbw := (bit_walk s k hs.out).trans hbt
          have HS := hide (weeksL_miss hbt)
          clear hbt
          go_wp2
          go_roundw
          case rel => exact ⟨k + 1, by omega, by go_num, by rw [HS.out]; exact hown, hb⟩
          case measure => simp [intOf]; omega
        · have hbw := (bit_walk s k hs.out).trans hbt
          have HS := hide (weeksL_hit hbt)
          clear hbt
          go_wp2_with (at_builtin; refine wpList_append_own _ rfl _ _ 22 rfl w.heap.size 3 i0 (.int .i64 0) 1 8 Tryd.underlying22 hi hz0 hz1 hz2 rfl (by decide) _ _ _ rfl (hown.alloc _) ⟨wr.heap.size, 0, none⟩ 1 1 [.int .i64 ((k : Int) + 1)] rfl rfl (new_one _ _ _) one_int ?c3 ?c4 ?c5 ?_)
          case c3 => unfold maxLen; omega
          case c4 => omega
          case c5 => have := hb.size; rw [World.size_alloc]; omega
          intro v' w1 hown' hgrow _
          have hb1 : Below w.heap.size w w1 := Below.grown (ext_alloc hb _) hgrow (by have := hb.size; rw [World.size_alloc]; omega) (fun j hj => (hown.lt j hj).1)
          clear hbw
          go_wp2
          go_roundw
          case rel => exact ⟨k + 1, by omega, by go_num, by rw [HS.out]; unfold IntsAt; simpa using hown', hb1⟩
          case measure => simp [intOf]; omega
      · obtain rfl : k = 20 := by omega
        go_wp2
        go_ret
        exact ⟨_, rfl, hown, hb⟩

/-- What a list of numbers in memory is read as. -/
theorem IntsAt.open {B : Nat} {W : World} {v : Value} {xs : List Nat} (h : IntsAt B W v xs) :
    (xs = [] ∧ ∃ A c, v = .slice A 0 c) ∨ ∃ g c, v = .slice (some ⟨g, 0, none⟩) xs.length c ∧ B ≤ g ∧ xs.length ≤ c ∧ c ≤ maxLen ∧ ∀ j, j < xs.length → W.cell? ⟨g, j, none⟩ = some (.int .i64 ((xs.getD j 0 : Nat) : Int)) := by
  obtain ⟨h1, h2⟩ := h
  rcases h2 with ⟨rfl, h0⟩ | ⟨g, cap, cur, rfl, hb, hg, hn, hm, hs, ht⟩
  · exact .inl ⟨List.eq_nil_of_length_eq_zero h0, _, _, rfl⟩
  · refine .inr ⟨g, cap, rfl, hb, hn, hm, fun j hj => ?_⟩
    rw [cell_of_row W g j _ _ _ hg]
    have e : (cur.toList.take (xs.length * 1))[j]? = (xs.map fun x : Nat => Value.int .i64 (x : Int))[j]? := by rw [ht]
    rw [List.getElem?_take, if_pos (by omega), List.getElem?_map] at e
    rw [← Array.getElem?_toList, e, List.getD_eq_getElem?_getD, List.getElem?_eq_getElem hj]
    rfl
theorem IntsAt.later {B : Nat} {W W' : World} {v : Value} {xs : List Nat} (h : IntsAt B W v xs) (hb : Below W.heap.size W W') : IntsAt B W' v xs :=
  World.ownsRow.kept (row := none) h ⟨hb.os, hb.tape, hb.output, hb.size, fun k hk _ => hb.block k hk⟩ (by cases v.ownBlock <;> simp)
set_option maxHeartbeats 800000 in
theorem sameInts_walk (v v' : Value) (xs : List Nat) (hl : xs.length ≤ 1000) (B B' : Nat) (w : World) (h : IntsAt B w v xs) (h' : IntsAt B' w v' xs) :
    Calls Tryd.prog 42 #[v, v'] w fun e w' => e = .returned (.bool true) ∧ Below w.heap.size w w' := by
  by_cases h0 : xs.length = 0
  · obtain rfl := List.eq_nil_of_length_eq_zero h0
    have e1 : ∃ A c, v = .slice A 0 c := by
      rcases h.open with ⟨-, h⟩ | ⟨g, c, h, -⟩
      · exact h
      · exact ⟨_, _, h⟩
    have e2 : ∃ A c, v' = .slice A 0 c := by
      rcases h'.open with ⟨-, h⟩ | ⟨g, c, h, -⟩
      · exact h
      · exact ⟨_, _, h⟩
    obtain ⟨A, c, rfl⟩ := e1
    obtain ⟨A', c', rfl⟩ := e2
    clear h h' h0
    go_enter Tryd.func42, Tryd.ntmps42
    go_wp2
    refine wp_loop_rounds 1 ?_
    rw [rounds_succ]
    go_wp2
    go_ret
    exact ⟨rfl, Below.refl _ _⟩
  · have e1 : ∃ g c, v = .slice (some ⟨g, 0, none⟩) xs.length c ∧ xs.length ≤ c ∧ ∀ j, j < xs.length → w.cell? ⟨g, j, none⟩ = some (.int .i64 ((xs.getD j 0 : Nat) : Int)) := by
      rcases h.open with ⟨rfl, -⟩ | ⟨g, c, h1, -, h2, -, h3⟩
      · exact absurd rfl h0
      · exact ⟨g, c, h1, h2, h3⟩
    have e2 : ∃ g c, v' = .slice (some ⟨g, 0, none⟩) xs.length c ∧ xs.length ≤ c ∧ ∀ j, j < xs.length → w.cell? ⟨g, j, none⟩ = some (.int .i64 ((xs.getD j 0 : Nat) : Int)) := by
      rcases h'.open with ⟨rfl, -⟩ | ⟨g, c, h1, -, h2, -, h3⟩
      · exact absurd rfl h0
      · exact ⟨g, c, h1, h2, h3⟩
    obtain ⟨g, c, rfl, hc, hcell⟩ := e1
    obtain ⟨g', c', rfl, hc', hcell'⟩ := e2
    obtain ⟨len, hlen⟩ : ∃ len, xs.length = len := ⟨_, rfl⟩
    rw [hlen] at hl hc hc' hcell hcell'
    rw [hlen]
    have hcell := hide hcell
    have hcell' := hide hcell'
    clear h h' h0 hlen
    go_enter Tryd.func42, Tryd.ntmps42
    go_wp2
    go_loopw [5] (fun i wr => ∃ k : Nat, k ≤ len ∧ i = .int .i64 k ∧ Below w.heap.size w wr) (fun i _ => (len - (intOf i).toNat))
    case atStart => exact ⟨0, by omega, rfl, Below.refl _ _⟩
    case round =>
      obtain ⟨k, hk, rfl, hb⟩ := hrel
      by_cases hlt : k < len
      · have g1 := cell_later hb (hcell.out k hlt)
        have g2 := cell_later hb (hcell'.out k hlt)
        have k0 : (0 : Int) ≤ k := by omega
        have k1 : (k : Int) < len := by omega
        go_wp2
        go_quiet (fail)
        go_wp2
        go_roundw
        case rel => exact ⟨k + 1, by omega, by go_num, (by repeat (first | exact Below.refl _ _ | refine ext_alloc ?_ _ | refine ext_drewN ?_ _ | refine ext_drew ?_ | refine ext_trans ?_ (by assumption)))⟩
        case measure => simp [intOf]; omega
      · go_wp2
        go_ret
        exact ⟨rfl, hb⟩
end Go.Proofs.YtdnmmkbknicdcaaDoor
