/- Walks of requests.has, with slices.ContainsFunc and IndexFunc at requests, and of timetableref12.find. Conditions: the requests' cells. A map in which texts are counted, as it is read and written. No condition. Walk of requests.students: a map in which each student's requests are counted. Conditions: the requests' cells. -/
import Derived.Test.YthejgholpkeldaaGreatDoorShelfS
import Derived.Test.YthejgholpkeldaaGreatDoorRows
import Derived.WalkKit
import Derived.WalkSpells
import Derived.WalkLawsBesides
import Derived.BigGuardPart
import Derived.Lib.Hide
import Derived.Laws.BitsAllLaws
import Derived.Laws.BitsLemmas
import Derived.Lib.LaidTab
import Derived.Test.YthejgholpkeldaaGreatDoorShelf
import Derived.Lib.ConvBytes
import Derived.Deep.QuietTactic
import Derived.BigQuiet
import Derived.Laws.ResultCell
import Derived.RegionTactic
import Derived.BigRegion
import Derived.Deep.RegionHeld3
import Derived.Deep.DeepCutAuto
import Derived.Lib.SmallJoins
import Derived.Lib.SplitLaws
import Derived.Lib.CountLaws
import Derived.Lib.IndexMore
import Derived.Lib.Split
import Derived.Lib.Join
import Derived.Lib.ItoaNum
import Derived.Laws.AppendOwn
import Derived.Test.YthejgholpkeldaaGreatDoorShelfT
import Derived.Lib.ItoaLen
import Derived.Lib.AppendIntMem
import Derived.Deep.AppendLies
import Derived.Lib.PathFns
import Derived.Maps.Range
import Derived.Lib.OwnBridge
import Derived.Sort.OwnSorted
import Derived.Sort.Walk0
import Derived.Test.YthejgholpkeldaaGreatDoorCards
import Derived.Test.YthejgholpkeldaaGreatDoorTie
import Derived.ProofKit
import Derived.OpenShut
import Derived.LaidMore
import Derived.Lay
import Derived.SevenTiedAt
import Derived.Stop.Joined
import Derived.Stop.LaidErr
import Derived.Deep.DeepHandedRow
import Derived.Lib.LaidU8
import Derived.LaidSub
import Derived.Deep.Slices
import Derived.Deep.Fields
import Derived.ChangeSame
import Derived.Maps.OwnSet
import Derived.Deep.RegionLaw
import Derived.Deep.RegionLawGrows
import Derived.StringKeys
import Derived.Sort.LotA
import Derived.Test.YthejgholpkeldaaGreatDoorYReqOwn
namespace Go.Proofs.YthejgholpkeldaaGreatDoor
open Go.RowKit
set_option maxRecDepth 100000

def isQ (s c : ByteArray) (x : Req) : Bool := decide (x.1 = s ∧ x.2.1 = c)
/-- The place of a request, -1 if there is none. -/
def idxQ (s c : ByteArray) (l : List Req) : Int := if hasQ l s c = true then ((l.findIdx (isQ s c) : Nat) : Int) else -1
theorem hasQ_iff {l : List Req} {s c : ByteArray} : hasQ l s c = true ↔ ∃ x ∈ l, isQ s c x = true := by unfold hasQ isQ; rw [List.any_eq_true]
theorem hasQ_no {l : List Req} {s c : ByteArray} (h : ∀ y ∈ l, isQ s c y = false) : hasQ l s c = false := by
  cases hh : hasQ l s c with
  | false => rfl
  | true => obtain ⟨x, hx, hq⟩ := hasQ_iff.1 hh; rw [h x hx] at hq; cases hq
theorem idxQ_none {l : List Req} {s c : ByteArray} (h : ∀ y ∈ l, isQ s c y = false) : idxQ s c l = -1 := by unfold idxQ; rw [hasQ_no h]; rfl
theorem idxQ_hit {l : List Req} {s c : ByteArray} {j : Nat} {x : Req} (hx : l[j]? = some x) (h : ∀ y ∈ l.take j, isQ s c y = false) (hq : isQ s c x = true) : idxQ s c l = (j : Int) ∧ hasQ l s c = true := by
  obtain ⟨hj, hxe⟩ := List.getElem?_eq_some_iff.1 hx
  have hh : hasQ l s c = true := hasQ_iff.2 ⟨x, List.mem_of_getElem? hx, hq⟩
  refine ⟨?_, hh⟩
  unfold idxQ
  rw [if_pos hh]
  have : l.findIdx (isQ s c) = j := (List.findIdx_eq hj).2 ⟨by rw [hxe]; exact hq, fun i hi => h _ (by
    rw [List.mem_take_iff_getElem]
    exact ⟨i, by omega, rfl⟩)⟩
  rw [this]
theorem takeQ_miss {l : List Req} {s c : ByteArray} {j : Nat} {x : Req} (hx : l[j]? = some x) (h : ∀ y ∈ l.take j, isQ s c y = false) (hq : isQ s c x = false) : ∀ y ∈ l.take (j + 1), isQ s c y = false := by
  intro y hy
  rw [List.take_add_one, hx] at hy
  rcases List.mem_append.1 hy with hy | hy
  · exact h y hy
  · simp at hy; rw [hy]; exact hq
theorem idxQ_pos {l : List Req} {s c : ByteArray} : 0 ≤ idxQ s c l ↔ hasQ l s c = true := by
  unfold idxQ
  split
  · rename_i h; exact ⟨fun _ => h, fun _ => by omega⟩
  · rename_i h; exact ⟨fun h' => by omega, fun h' => absurd h' h⟩
theorem isQ_eq (x : Req) (s c : ByteArray) : isQ s c x = (x.1.toList == s.toList && x.2.1.toList == c.toList) := by
  unfold isQ
  have h : ∀ a b : ByteArray, (a.toList == b.toList) = decide (a = b) := fun a b => by
    by_cases e : a = b
    · subst e; simp
    · rw [decide_eq_false e]
      exact beq_false_of_ne fun h => e (met_inj (by rw [← toList_dataL, ← toList_dataL]; exact h))
  rw [h, h]
  exact Bool.decide_and _ _
-- walks
set_option maxHeartbeats 2000000 in
theorem qhas1_walk (z co s cc : ByteArray) (m : Int) (F : Option Addr) (n c x : Nat) (w : World) (hc0 : w.cell? ⟨x, 0, none⟩ = some (.string s)) (hc1 : w.cell? ⟨x, 1, none⟩ = some (.string cc)) :
    Calls Tryz.prog 86 #[.agg #[.string z, .string co, .int .i64 m, .slice F n c], .pointer (some ⟨x, 0, none⟩)] w fun e w' => e = .returned (.bool (z.toList == s.toList && co.toList == cc.toList)) ∧ Below w.heap.size w w' := by
  have hlt := World.block_lt_of_cell? _ _ hc0
  cases h1 : (z.toList == s.toList)
  all_goals
    cases h2 : (co.toList == cc.toList)
    all_goals
      go_enter Tryz.func86, Tryz.ntmps86
      go_wp2
      go_ret
      exact ⟨rfl, (by repeat (first | exact Below.refl _ _ | refine ext_alloc ?_ _ | refine ext_drewN ?_ _ | refine ext_drew ?_ | refine ext_trans ?_ (by assumption)))⟩
set_option maxHeartbeats 4000000 in
theorem qidx_walk (A : Option Addr) (l : List Req) (c g : Nat) (s cc : ByteArray) (w : World) (hn : l.length ≤ 9223372036854775807) (h : At kReq AnyB w A l) (hc0 : w.cell? ⟨g, 0, none⟩ = some (.string s)) (hc1 : w.cell? ⟨g, 1, none⟩ = some (.string cc)) :
    Calls Tryz.prog 115 #[.slice A l.length c, .func (.func 86) #[] #[.pointer (some ⟨g, 0, none⟩)]] w fun e w' => e = .returned (.int .i64 (idxQ s cc l)) ∧ Below w.heap.size w w' := by
  have eg : ∀ args w, (callFunc 86 args).run Tryz.prog w = .ok (.enter 86 args) w := enters_of Tryz.func86 (by kernel_rfl) rfl
  obtain ⟨N, hnn⟩ : ∃ N, l.length = N := ⟨_, rfl⟩
  rw [hnn] at hn ⊢
  replace hnn := hide hnn
  go_enter Tryz.func115, Tryz.ntmps115
  go_wp2
  go_loopw [5, 8] (fun _ i wr => ∃ j : Nat, j ≤ N ∧ i = .int .i64 j ∧ Hid (∀ y ∈ l.take j, isQ s cc y = false) ∧ Below w.heap.size w wr) (fun _ i _ => N - (intOf i).toNat)
  case atStart => exact ⟨0, Nat.zero_le _, rfl, hide (fun y hy => by simp at hy), Below.refl _ _⟩
  case round =>
    obtain ⟨j, hj, rfl, ho, hb⟩ := hrel
    by_cases hlt : j < N
    · obtain ⟨x, hx⟩ : ∃ x, l[j]? = some x := ⟨_, List.getElem?_eq_getElem (by rw [hnn.out]; exact hlt)⟩
      obtain ⟨b, off, F, cF, rfl, -, hbb, ⟨q0, q1, q2, q3⟩, -, -⟩ := (h.later hb).req hx
      have hcall := qhas1_walk x.1 x.2.1 s cc x.2.2.1 F x.2.2.2.length cF g wr (cell_later hb hc0) (cell_later hb hc1)
      rw [← isQ_eq] at hcall
      obtain ⟨z, co, m, ts⟩ := x
      dsimp only at q0 q1 q2 q3 hcall
      obtain ⟨nt, hnt⟩ : ∃ nt, ts.length = nt := ⟨_, rfl⟩
      rw [hnt] at q3 hcall
      have hj0 : (0 : Int) ≤ (j : Int) := by omega
      have hj1 : (j : Int) < (N : Int) := by omega
      cases hq : isQ s cc (z, co, m, ts) with
      | true =>
        have hit := hide (idxQ_hit hx ho.out hq).1
        rw [hq] at hcall
        clear hx h ho hq hc0 hc1 hnt
        go_wp2_with (go_at_fn 86; refine hcall.mono ?_; rintro e w' ⟨rfl, hb2⟩)
        go_ret
        exact ⟨by rw [hit.out]; rfl, ext_trans hb hb2⟩
      | false =>
        have miss := hide (takeQ_miss hx ho.out hq)
        rw [hq] at hcall
        clear hx h ho hq hc0 hc1 hnt
        go_wp2_with (go_at_fn 86; refine hcall.mono ?_; rintro e w' ⟨rfl, hb2⟩)
        go_roundw
        case rel => exact ⟨j + 1, by omega, by go_num, miss, ext_trans hb hb2⟩
        case measure => simp [intOf]; omega
    · obtain rfl : j = N := by omega
      have hall : Hid (idxQ s cc l = -1) := hide (idxQ_none fun y hy => ho.out y (by rw [List.take_of_length_le (by rw [hnn.out]; exact Nat.le_refl _)]; exact hy))
      clear h
      go_wp2
      go_ret
      exact ⟨by rw [hall.out]; rfl, hb⟩
set_option maxHeartbeats 2000000 in
theorem qcon_walk (A : Option Addr) (l : List Req) (c g : Nat) (s cc : ByteArray) (w : World) (hn : l.length ≤ 9223372036854775807) (h : At kReq AnyB w A l) (hc0 : w.cell? ⟨g, 0, none⟩ = some (.string s)) (hc1 : w.cell? ⟨g, 1, none⟩ = some (.string cc)) :
    Calls Tryz.prog 85 #[.slice A l.length c, .func (.func 86) #[] #[.pointer (some ⟨g, 0, none⟩)]] w fun e w' => e = .returned (.bool (hasQ l s cc)) ∧ Below w.heap.size w w' := by
  have hcall := qidx_walk A l c g s cc w hn h hc0 hc1
  have hp : decide (0 ≤ idxQ s cc l) = hasQ l s cc := by
    cases hh : hasQ l s cc with
    | true => exact decide_eq_true (idxQ_pos.2 hh)
    | false => exact decide_eq_false (fun h => by rw [idxQ_pos.1 h] at hh; cases hh)
  rw [← hp]
  clear h hp
  go_enter Tryz.func85, Tryz.ntmps85
  go_wp2_with fail
  refine hcall.mono ?_
  rintro e w' ⟨rfl, hb⟩
  go_wp2
  go_ret
  exact ⟨rfl, hb⟩
set_option maxHeartbeats 2000000 in
theorem qhas_walk (A : Option Addr) (l : List Req) (c : Nat) (z co : ByteArray) (m : Int) (F : Option Addr) (n cF : Nat) (w : World) (hn : l.length ≤ 9223372036854775807) (h : At kReq AnyB w A l) :
    Calls Tryz.prog 59 #[.slice A l.length c, .agg #[.string z, .string co, .int .i64 m, .slice F n cF]] w fun e w' => e = .returned (.bool (hasQ l z co)) ∧ Below w.heap.size w w' := by
  have hb0 : Below w.heap.size w (w.alloc (.cells #[.string z, .string co, .int .i64 m, .slice F n cF] 53)) := ext_alloc (Below.refl _ _) _
  have hcall := qcon_walk A l c w.heap.size z co _ hn (h.later hb0) (by simp) (by simp)
  clear h
  go_enter Tryz.func59, Tryz.ntmps59
  go_wp2_with fail
  refine hcall.mono ?_
  rintro e w' ⟨rfl, hb⟩
  go_wp2
  go_ret
  exact ⟨rfl, ext_trans hb0 hb⟩
end Go.Proofs.YthejgholpkeldaaGreatDoor

namespace Go.Proofs.YthejgholpkeldaaGreatDoor
open Go.RowKit
set_option maxRecDepth 100000

/-- How often a text stands in a list. -/
def countS (z : ByteArray) (l : List ByteArray) : Nat := (l.filter fun y => decide (y = z)).length
theorem countS_snoc (z y : ByteArray) (l : List ByteArray) : countS z (l ++ [y]) = countS z l + if y = z then 1 else 0 := by
  unfold countS
  rw [List.filter_append, List.length_append]
  by_cases e : y = z
  · simp [e]
  · simp [e]
theorem countS_le (z : ByteArray) (l : List ByteArray) : countS z l ≤ l.length := List.length_filter_le _ _
theorem countS_zero (z : ByteArray) (l : List ByteArray) : countS z l = 0 ↔ ¬ 0 ≤ idxS z l := by
  rw [idx_memS]
  unfold countS
  rw [List.length_eq_zero_iff, List.filter_eq_nil_iff]
  constructor
  · intro h hm
    exact h z hm (by simp)
  · intro h y hy e
    have e : y = z := by simpa using e
    exact h (e ▸ hy)
/-- Block b is a map in which each text is counted as often as it stands in the list. -/
def CntAt (w : World) (b : Nat) (ss : List ByteArray) : Prop :=
  ∃ D : DataW Unit, w.ownsMap Tryz.prog 9 (plainElem Tryz.prog 3) b ss.length D ∧ (∀ z : ByteArray, D.atKey (.string z.data.toList) (.lit (.int .i64 0)) = .lit (.int .i64 (countS z ss : Nat))) ∧ (∀ z : ByteArray, Maps.has D (.string z.data.toList) = decide (0 ≤ idxS z ss)) ∧ Maps.size D = (freshS ss).length
theorem cnt_made (w : World) : CntAt (w.alloc (.map #[] 0)) w.heap.size [] := ⟨.map [], World.ownsMap_made _ _ _ _, fun _ => rfl, fun z => (decide_eq_false (fun h => absurd (idx_memS.1 h) (by simp))).symm, rfl⟩
theorem CntAt.lt {w : World} {b : Nat} {ss : List ByteArray} (h : CntAt w b ss) : b < w.heap.size := by obtain ⟨D, h, -⟩ := h; exact h.lt
theorem CntAt.later {w w' : World} {b : Nat} {ss : List ByteArray} (h : CntAt w b ss) (hb : Below w.heap.size w w') : CntAt w' b ss := by
  have hlt := h.lt
  obtain ⟨D, ⟨es, clock, h1, h2⟩, h3⟩ := h
  exact ⟨D, ⟨es, clock, (hb.block b hlt).trans h1, h2⟩, h3⟩
theorem cnt_look {w : World} {b : Nat} {ss : List ByteArray} (h : CntAt w b ss) (z : ByteArray) (hz : z.size ≤ 9223372036854775807) :
    (Instr.lookup 84 (.map (some b)) (.string z) false).run Tryz.prog w = .ok (.int .i64 (countS z ss : Nat)) w := by
  obtain ⟨D, h1, h2, -⟩ := h
  obtain ⟨c, hrun, hc, -⟩ := h1.lookup_int (t := 84) (e := 3) (q := .i64) (Maps.string_keyed Tryz.underlying9) Tryz.underlying84 Tryz.underlying3 (Tryz.zeroValue3 w) (key := .string z) (WideMaps.keyOf_string_mk Tryz.underlying9 (by unfold maxLen; omega))
  rw [h2 z] at hc
  injection hc with hc
  injection hc with _ hc
  rw [hrun, ← hc]
theorem cnt_len {w : World} {b : Nat} {ss : List ByteArray} (h : CntAt w b ss) (ty : TypeId) : (Builtin.len_ #[84] ty #[.map (some b)]).run Tryz.prog w = .ok (.int .i64 ((freshS ss).length : Nat)) w := by
  obtain ⟨D, h1, -, -, h4⟩ := h
  rw [h1.len Tryz.underlying84 ty, h4]
theorem wpList_cnt {w : World} {ops : Array Oper} {rest : List Oper} {o : Oper} {a : Act} {Q : Exit → Act → World → Prop} (hg : o.guard = none) (m x v : Operand) (hop : o.op = Op.mapUpdate 84 m x v) {b : Nat} {ss : List ByteArray} {z : ByteArray}
    (hm : a.eval m = .map (some b)) (h : CntAt w b ss) (hn : ss.length ≤ 4000000000000000000) (hx : a.eval x = .string z) (hz : z.size ≤ 9223372036854775807) (hv : a.eval v = .int .i64 ((countS z ss : Nat) + 1))
    (hk : ∀ w', CntAt w' b (ss ++ [z]) → w.grownBy w' (some b) → wpList Tryz.prog ops Q rest (a.put o.dst undef) w') : wpList Tryz.prog ops Q (o :: rest) a w := by
  obtain ⟨D, h1, h2, h3, h4⟩ := h
  have hcl := countS_le z ss
  have hT := h1.tidy (Maps.string_keyed Tryz.underlying9)
  refine wpList_mapUpdate_own w hg m x v 84 hop 9 3 (Maps.string_keyed Tryz.underlying9) Tryz.underlying84 _ b ss.length D hm h1 (by unfold maxLen; omega) (.string z) (.int .i64 ((countS z ss : Nat) + 1)) (.string z.data.toList) hx hv (WideMaps.keyOf_string_mk Tryz.underlying9 (by unfold maxLen; omega)) (.lit (.int .i64 ((countS z ss : Nat) + 1))) [] (plainElem_int Tryz.underlying3 (WalkArith.wf_i64 (by omega))) fun w' h5 h6 => hk w' ⟨_, by rw [List.length_append]; exact h5, fun y => ?_, fun y => ?_, ?_⟩ h6
  · rw [countS_snoc]
    by_cases e : z = y
    · subst e
      rw [Maps.atKey_put_same h1.isMap (show WideAt.IsKeyLit (.string z.data.toList) from trivial), if_pos rfl]; rfl
    · rw [Maps.atKey_put_other (fun h => e (met_inj (by injection h with h; exact h.symm))), h2 y, if_neg e]; rfl
  · by_cases e : y = z
    · subst e
      rw [Maps.has_put_same h1.isMap (show WideAt.IsKeyLit (.string y.data.toList) from trivial)]
      exact (decide_eq_true (idx_memS.2 (by simp))).symm
    · rw [Maps.has_put_other (fun h => e (met_inj (by injection h))), h3 y]
      exact decide_eq_decide.2 (by rw [idx_memS, idx_memS]; simp [e])
  · rw [Maps.size_put hT, h3 z, h4, freshS_snoc]
    by_cases e : z ∈ ss
    · rw [decide_eq_true (idx_memS.2 e), if_pos rfl, if_pos (idx_memS.2 ((mem_fresh _ _).2 e))]
    · rw [decide_eq_false (fun h => e (idx_memS.1 h)), if_neg (by simp), if_neg (fun h => e ((mem_fresh _ _).1 (idx_memS.1 h)))]; simp
end Go.Proofs.YthejgholpkeldaaGreatDoor

namespace Go.Proofs.YthejgholpkeldaaGreatDoor
open Go.RowKit
set_option maxRecDepth 100000

theorem studs_take {l : List Req} {j : Nat} {x : Req} (hx : l[j]? = some x) : (studs l).take (j + 1) = (studs l).take j ++ [x.1] := by
  have e : (studs l)[j]? = some x.1 := by unfold studs; rw [List.getElem?_map, hx]; rfl
  rw [List.take_add_one, e]; rfl
def StudsGives (l : List Req) (w : World) (e : Ending) (w' : World) : Prop := ∃ b, e = .returned (.map (some b)) ∧ w.heap.size ≤ b ∧ CntAt w' b (studs l) ∧ Below w.heap.size w w'
set_option maxHeartbeats 4000000 in
theorem students_walk (A : Option Addr) (l : List Req) (c : Nat) (w : World) (hn : l.length ≤ 4000000000000000000) (hz : ∀ x ∈ l, x.1.size ≤ 9223372036854775807) (h : At kReq AnyB w A l) :
    Calls Tryz.prog 41 #[.slice A l.length c] w fun e w' => StudsGives l w e w' := by
  obtain ⟨N, hN⟩ : ∃ N, l.length = N := ⟨_, rfl⟩
  have hsl : Hid ((studs l).length = N) := hide (by rw [← hN]; exact List.length_map _)
  rw [hN] at hn ⊢
  replace hN := hide hN
  replace hz := hide hz
  have hmm := @run_makeMap Tryz.prog
  go_enter Tryz.func41, Tryz.ntmps41
  go_wp2
  have hm0 := cnt_made w
  have hb0 : Below w.heap.size w (w.alloc (.map #[] 0)) := ext_alloc (Below.refl _ _) _
  clear hmm
  go_loopw [9] (fun i wr => ∃ j : Nat, j ≤ N ∧ i = .int .i64 j ∧ CntAt wr w.heap.size ((studs l).take j) ∧ Below w.heap.size w wr) (fun i _ => N - (intOf i).toNat)
  case atStart => exact ⟨0, Nat.zero_le _, rfl, hm0, hb0⟩
  case round =>
    clear hm0 hb0
    obtain ⟨j, hj, rfl, hmet, hb⟩ := hrel
    by_cases hlt : j < N
    · obtain ⟨x, hx⟩ : ∃ x, l[j]? = some x := ⟨_, List.getElem?_eq_getElem (by rw [hN.out]; exact hlt)⟩
      have hxz := hz.out x (List.mem_of_getElem? hx)
      have hsn := studs_take hx
      obtain ⟨rb, off, F, cF, rfl, -, hrb, ⟨q0, q1, q2, q3⟩, -, -⟩ := (h.later hb).req hx
      obtain ⟨z, co, m, ts⟩ := x
      dsimp only at q0 q1 q2 q3 hsn hxz
      obtain ⟨nt, hnt⟩ : ∃ nt, ts.length = nt := ⟨_, rfl⟩
      rw [hnt] at q3
      have hj0 : (0 : Int) ≤ (j : Int) := by omega
      have hj1 : (j : Int) < (N : Int) := by omega
      have hb1 : Below wr.heap.size wr (wr.alloc (.cells #[.string z, .string co, .int .i64 m, .slice F nt cF] 53)) := ext_alloc (Below.refl _ _) _
      have hm1 := hmet.later hb1
      have hlk := cnt_look hm1 z hxz
      have hml : ((studs l).take j).length ≤ 4000000000000000000 := by rw [List.length_take, hsl.out]; omega
      have hcl := countS_le z ((studs l).take j)
      have hwc : IntKind.i64.wrap (((countS z ((studs l).take j) : Nat) : Int) + 1) = ((countS z ((studs l).take j) : Nat) : Int) + 1 := IntWalk.i64_in _ (by omega)
      have hbw := ext_trans hb hb1
      replace hsn := hide hsn
      obtain ⟨ss, hss⟩ : ∃ ss, (studs l).take j = ss := ⟨_, rfl⟩
      rw [hss] at hm1 hlk hml hcl hwc
      replace hss := hide hss
      clear hx hmet hnt hb1 hb hcl
      go_wp2_with (at_mapUpdate; refine wpList_cnt rfl _ _ _ rfl rfl hm1 hml rfl hxz rfl ?_; intro w10 hm10 hg10)
      have hb10 : Below w.heap.size w w10 := Below.grown hbw hg10 hbw.size (fun y e => by injection e with e; omega)
      rw [← hss.out, ← hsn.out] at hm10
      go_roundw
      case rel => exact ⟨j + 1, by omega, by go_num, hm10, hb10⟩
      case measure => first | (simp [intOf]; done) | (simp [intOf]; omega)
    · obtain rfl : j = N := by omega
      have hall : Hid ((studs l).take j = studs l) := hide (List.take_of_length_le (by rw [hsl.out]; exact Nat.le_refl _))
      rw [hall.out] at hmet
      go_wp2
      go_ret
      exact ⟨_, rfl, Nat.le_refl _, hmet, hb⟩
end Go.Proofs.YthejgholpkeldaaGreatDoor
