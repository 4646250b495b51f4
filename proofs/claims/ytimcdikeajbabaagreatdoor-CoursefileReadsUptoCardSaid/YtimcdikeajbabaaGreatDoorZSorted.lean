/- Plain: texts put in order one by one are the texts sorted; ascending texts. No walk. Walks of slices.Values, AppendSeq, Collect, Sorted at texts. Conditions: the cells; at most 1000 texts. -/
import Derived.Test.YtimcdikeajbabaaGreatDoorShelfS
import Derived.Test.YtimcdikeajbabaaGreatDoorRows
import Derived.WalkKit
import Derived.WalkSpells
import Derived.WalkLawsBesides
import Derived.BigGuardPart
import Derived.Lib.Hide
import Derived.Laws.BitsAllLaws
import Derived.Laws.BitsLemmas
import Derived.Lib.LaidTab
import Derived.Test.YtimcdikeajbabaaGreatDoorShelf
import Derived.Lib.ConvBytes
import Derived.Deep.QuietTactic
import Derived.BigQuiet
import Derived.Laws.ResultCell
import Derived.RegionTactic
import Derived.BigRegion
import Derived.Deep.RegionHeld3
import Derived.Deep.DeepCutAuto
import Derived.Lib.SmallJoins
import Derived.Lib.SplitLaws
import Derived.Lib.CountLaws
import Derived.Lib.IndexMore
import Derived.Lib.Split
import Derived.Lib.Join
import Derived.Lib.ItoaNum
import Derived.Laws.AppendOwn
import Derived.Test.YtimcdikeajbabaaGreatDoorShelfT
import Derived.Lib.ItoaLen
import Derived.Lib.AppendIntMem
import Derived.Deep.AppendLies
import Derived.Lib.PathFns
import Derived.Maps.Range
import Derived.Lib.OwnBridge
import Derived.Sort.OwnSorted
import Derived.Sort.Walk0
import Derived.Test.YtimcdikeajbabaaGreatDoorZSameL
import Derived.RangeFuncNested
import Derived.RangeFuncBound
import Derived.RangeFuncCalls
import Derived.RangeFuncLeaves
import Derived.RangeFuncBox
import Derived.RangeFuncWrites
import Derived.Shelf.Abstract
import Derived.Shelf.RegionOpen
import Derived.OwnWalkIn
import Derived.TacticsInMore
import Derived.LoopNIn
import Derived.LoopIn
import Derived.Maps.AppendAt
import Derived.Deep.RegionLaw
import Derived.Deep.RegionLawGrows
namespace Go.Proofs.YtimcdikeajbabaaGreatDoor
open Go.RowKit
set_option maxRecDepth 100000

/-- x comes before y. -/
def lessS (x y : ByteArray) : Bool := Op.bytesLess x.toList y.toList
theorem lessS_iff (x y : ByteArray) : lessS x y = true ↔ x.data.toList < y.data.toList := by
  unfold lessS
  rw [bytesLess_eq, Lib.toList_data, Lib.toList_data]
  simp
theorem lessS_not {x y : ByteArray} (h : lessS x y = false) : y.data.toList ≤ x.data.toList := by
  refine List.not_lt.1 fun h2 => ?_
  rw [(lessS_iff x y).2 h2] at h
  cases h
/-- Where x goes among the first k. -/
def posS (x : ByteArray) (out : List ByteArray) : Nat → Nat
  | 0 => 0
  | k + 1 => if lessS x (out.getD k ⟨#[]⟩) = true then posS x out k else k + 1
theorem posS_le (x : ByteArray) (out : List ByteArray) : ∀ k, posS x out k ≤ k
  | 0 => Nat.le_refl _
  | k + 1 => by rw [posS]; split; exact Nat.le_trans (posS_le x out k) (Nat.le_succ k); exact Nat.le_refl _
theorem posS_above (x : ByteArray) (out : List ByteArray) : ∀ k j, posS x out k ≤ j → j < k → lessS x (out.getD j ⟨#[]⟩) = true
  | 0, j, _, h => by omega
  | k + 1, j, h1, h2 => by
    rw [posS] at h1
    by_cases hl : lessS x (out.getD k ⟨#[]⟩) = true
    · rw [if_pos hl] at h1
      by_cases e : j = k
      · rw [e]; exact hl
      · exact posS_above x out k j h1 (by omega)
    · rw [if_neg hl] at h1; omega
theorem posS_below (x : ByteArray) (out : List ByteArray) : ∀ k, 0 < posS x out k → lessS x (out.getD (posS x out k - 1) ⟨#[]⟩) = false
  | 0, h => by simp [posS] at h
  | k + 1, h => by
    rw [posS] at h ⊢
    by_cases hl : lessS x (out.getD k ⟨#[]⟩) = true
    · rw [if_pos hl] at h ⊢; exact posS_below x out k h
    · rw [if_neg hl] at h ⊢; simpa using hl
def insS (out : List ByteArray) (x : ByteArray) : List ByteArray := out.take (posS x out out.length) ++ x :: out.drop (posS x out out.length)
def ascS (zs : List ByteArray) : List ByteArray := zs.foldl insS []
theorem insS_len (out : List ByteArray) (x : ByteArray) : (insS out x).length = out.length + 1 := by
  unfold insS
  have := posS_le x out out.length
  simp only [List.length_append, List.length_take, List.length_cons, List.length_drop]
  omega
theorem ascS_len (zs : List ByteArray) : (ascS zs).length = zs.length := by
  unfold ascS
  have key : ∀ (zs out : List ByteArray), (zs.foldl insS out).length = out.length + zs.length := by
    intro zs
    induction zs with
    | nil => intro out; rfl
    | cons z zs ih => intro out; rw [List.foldl_cons, ih, insS_len, List.length_cons]; omega
  simpa using key zs []
abbrev LeS (x y : ByteArray) : Prop := x.data.toList ≤ y.data.toList
theorem insS_perm (out : List ByteArray) (x : ByteArray) : (insS out x).Perm (x :: out) := by
  unfold insS
  refine List.perm_middle.trans ?_
  rw [List.take_append_drop]
theorem getD_at {out : List ByteArray} {j : Nat} (h : j < out.length) : out.getD j ⟨#[]⟩ = out[j] := by rw [List.getD_eq_getElem?_getD, List.getElem?_eq_getElem h]; rfl
theorem insS_sorted {out : List ByteArray} {x : ByteArray} (h : out.Pairwise LeS) : (insS out x).Pairwise LeS := by
  obtain ⟨k, hk⟩ : ∃ k, posS x out out.length = k := ⟨_, rfl⟩
  have hkl : k ≤ out.length := by rw [← hk]; exact posS_le _ _ _
  unfold insS
  rw [hk, List.pairwise_append, List.pairwise_cons]
  have hlow : ∀ y ∈ out.take k, LeS y x := by
    intro y hy
    obtain ⟨j, hj⟩ := List.getElem?_of_mem hy
    rw [List.getElem?_take] at hj
    split at hj
    · rename_i hjk
      obtain ⟨hjl, e⟩ := List.getElem?_eq_some_iff.1 hj
      have hb := posS_below x out out.length (by rw [hk]; omega)
      rw [hk, getD_at (by omega)] at hb
      have h2 := lessS_not hb
      by_cases e2 : j = k - 1
      · subst e2; rw [← e]; exact h2
      · refine List.le_trans (?_ : y.data.toList ≤ _) h2
        rw [← e]
        exact List.pairwise_iff_getElem.1 h j (k - 1) hjl (by omega) (by omega)
    · cases hj
  refine ⟨h.sublist (List.take_sublist _ _), ⟨fun y hy => ?_, h.sublist (List.drop_sublist _ _)⟩, fun a ha b hb => ?_⟩
  · obtain ⟨j, hj⟩ := List.getElem?_of_mem hy
    rw [List.getElem?_drop] at hj
    obtain ⟨hjl, e⟩ := List.getElem?_eq_some_iff.1 hj
    have ha := posS_above x out out.length (k + j) (by rw [hk]; omega) hjl
    rw [getD_at hjl, e] at ha
    exact List.le_of_lt ((lessS_iff x y).1 ha)
  · rcases List.mem_cons.1 hb with rfl | hb
    · exact hlow a ha
    · rw [← List.take_append_drop k out, List.pairwise_append] at h
      exact h.2.2 a ha b hb
theorem ascS_spec (zs : List ByteArray) : (ascS zs).Perm zs ∧ (ascS zs).Pairwise LeS := by
  have key : ∀ (zs out : List ByteArray), out.Pairwise LeS → (zs.foldl insS out).Perm (zs ++ out) ∧ (zs.foldl insS out).Pairwise LeS := by
    intro zs
    induction zs with
    | nil => intro out h; exact ⟨List.Perm.refl _, h⟩
    | cons z zs ih =>
      intro out h
      rw [List.foldl_cons]
      obtain ⟨h1, h2⟩ := ih _ (insS_sorted (x := z) h)
      refine ⟨h1.trans ?_, h2⟩
      exact ((insS_perm out z).append_left zs).trans List.perm_middle
  obtain ⟨h1, h2⟩ := key zs [] .nil
  rw [List.append_nil] at h1
  exact ⟨h1, h2⟩
theorem asc_eq (zs : List ByteArray) : (ascS zs).map (·.data.toList) = (zs.map (·.data.toList)).mergeSort fun x y => decide (x ≤ y) := by
  obtain ⟨h1, h2⟩ := ascS_spec zs
  refine List.Perm.eq_of_pairwise (le := fun x y => x ≤ y) (fun a b _ _ h3 h4 => List.le_antisymm h3 h4) ?_ ?_ ?_
  · exact List.pairwise_map.2 h2
  · have := List.pairwise_mergeSort (le := fun x y : List UInt8 => decide (x ≤ y)) (fun a b c h3 h4 => by simp only [decide_eq_true_eq] at h3 h4 ⊢; exact List.le_trans h3 h4) (fun a b => by simp only [Bool.or_eq_true, decide_eq_true_eq]; exact List.le_total a b) (zs.map (·.data.toList))
    exact this.imp fun h => by simpa using h
  · exact (h1.map _).trans (List.mergeSort_perm _ _).symm
end Go.Proofs.YtimcdikeajbabaaGreatDoor

namespace Go.Proofs.YtimcdikeajbabaaGreatDoor
open Go.RowKit Go.Shelf
set_option maxRecDepth 100000
attribute [local go_sem] Oper.semAt_some

set_option maxHeartbeats 2000000 in
/-- The closure of slices.Values, whatever its loop's body does but to turn what lay below. -/
theorem vals1_in (n : Nat) (hn : 1 ≤ n) (l Bs n₀ b off len cap : Nat) (zs : List ByteArray) (hlen : zs.length = len) (hl : len ≤ 1000000) (hb : b < n₀) (J Jx : List ByteArray → World → Prop)
    (hY : ∀ pre x W, J pre W → pre.length < len → YieldAt Fence.wide (n - 1) Tryz.prog l #[.string x] W fun e W' => (e = .returned (.bool true) ∧ J (pre ++ [x]) W' ∧ Below n₀ W W') ∨ (e = .returned (.bool false) ∧ Jx (pre ++ [x]) W'))
    (W : World) (hBs : W.cell? ⟨Bs, 0, none⟩ = some (.slice (some ⟨b, off, none⟩) len cap)) (hc : ∀ j x, zs[j]? = some x → W.cell? ⟨b, off + j, none⟩ = some (.string x)) (h0 : J [] W) :
    CallsIn Fence.wide n Tryz.prog 146 #[.func (.yield l) #[] #[], .pointer (some ⟨Bs, 0, none⟩)] W fun e W' => (∃ v, e = .returned v) ∧ ((∃ ys, ys = zs ∧ J ys W') ∨ (∃ pre, pre <+: zs ∧ Jx pre W')) := by
  refine callsIn_of_wp Tryz.func146 rfl trivial ?_ rfl
  simp only [Tryz.ntmps146, List.size_toArray, List.length_cons, List.length_nil, Nat.reduceAdd, Nat.reduceSub, Array.replicate_succ, Array.replicate_zero, List.push_toArray, List.append_toArray, List.nil_append, List.cons_append]
  gi_wp2
  gi_loopw [7] (fun i wr => ∃ k : Nat, k ≤ len ∧ i = .int .i64 k ∧ J (zs.take k) wr ∧ Below n₀ W wr) (fun i _ => len - (intOf i).toNat)
  case atStart => exact ⟨0, Nat.zero_le _, rfl, h0, Below.refl _ _⟩
  case round =>
    obtain ⟨k, hk, rfl, hJs, hnx⟩ := hrel
    by_cases hlt : k < len
    · obtain ⟨x, hx⟩ : ∃ x, zs[k]? = some x := ⟨_, List.getElem?_eq_getElem (by rw [hlen]; exact hlt)⟩
      obtain ⟨fn, tmps, assign, body, hy, hR⟩ := hY _ x wr hJs (by rw [List.length_take, hlen]; omega)
      have hcx : wr.cell? ⟨b, off + k, none⟩ = some (.string x) := (hnx.cell (p := ⟨b, off + k, none⟩) hb).trans (hc k x hx)
      have htk : zs.take (k + 1) = zs.take k ++ [x] := by rw [List.take_add_one, hx]; rfl
      replace htk := hide htk
      gi_wp2
      refine hR.mono ?_
      rintro e W3 (⟨rfl, hJ3, hk3⟩ | ⟨rfl, hJx3⟩)
      · gi_wp2
        go_roundw
        case rel => exact ⟨k + 1, by omega, by simp, by rw [htk.out]; exact hJ3, hnx.trans hk3⟩
        case measure => simp [intOf]; omega
      · gi_wp2
        refine bodyPost_ret (results_none rfl _ _ _) rfl ?_
        exact ⟨⟨_, rfl⟩, .inr ⟨_, by rw [← htk.out]; exact List.take_prefix _ _, hJx3⟩⟩
    · obtain rfl : k = len := by omega
      gi_wp2
      go_end0
      exact ⟨⟨_, rfl⟩, .inl ⟨_, by rw [← hlen, List.take_length], hJs⟩⟩
theorem vals_stops (n : Nat) (hn : 1 ≤ n) (Bs b off len cap : Nat) (n₀ : Nat) (zs : List ByteArray) (hlen : zs.length = len) (hl : len ≤ 1000000) (hb : b < n₀) (w : World) (hn₀ : n₀ ≤ w.heap.size) (hBl : Bs < n₀)
    (hBs : w.cell? ⟨Bs, 0, none⟩ = some (.slice (some ⟨b, off, none⟩) len cap)) (hc : ∀ j x, zs[j]? = some x → w.cell? ⟨b, off + j, none⟩ = some (.string x)) :
    SeqStopsK Fence.wide n Tryz.prog 146 #[.pointer (some ⟨Bs, 0, none⟩)] (fun x : ByteArray => #[Value.string x]) (Below n₀) (fun ys => ys = zs) (fun pre => pre <+: zs) len w := fun l J Jx W hW _ _ hY h0 =>
  vals1_in n hn l Bs n₀ b off len cap zs hlen hl hb J Jx hY W ((hW.cell (p := ⟨Bs, 0, none⟩) (by show Bs < w.heap.size; omega)).trans hBs) (fun j x hx => (hW.cell (p := ⟨b, off + j, none⟩) (by show b < w.heap.size; omega)).trans (hc j x hx)) h0
/-- slices.Values. -/
theorem values_walk (A : Option Addr) (n c : Nat) (w : World) :
    Calls Tryz.prog 107 #[.slice A n c] w fun e w' => e = .returned (.func (.func 146) #[] #[.pointer (some ⟨w.heap.size, 0, none⟩)]) ∧ w' = w.alloc (.cells #[.slice A n c] 44) := by
  go_enter Tryz.func107, Tryz.ntmps107
  go_wp2
  go_ret
  exact ⟨rfl, rfl⟩
theorem infoStrS : (Tryz.prog.info? 9).map (fun i => (i.zero, i.size, i.bytes)) = some (some (.string ⟨#[]⟩), 1, 16) := by kernel_rfl
set_option maxHeartbeats 4000000 in
theorem apseq_in (n : Nat) (hn : 3 ≤ n) (Bs len : Nat) (zs : List ByteArray) (hlen : zs.length = len) (hl : len ≤ 1000000) (w : World) (hst : ∀ W : World, Below w.heap.size w W → SeqStopsK Fence.wide (n - 1) Tryz.prog 146 #[.pointer (some ⟨Bs, 0, none⟩)] (fun x : ByteArray => #[Value.string x]) (Below w.heap.size) (fun ys => ys = zs) (fun pre => pre <+: zs) len W) :
    CallsIn Fence.wide n Tryz.prog 183 #[.slice none 0 0, .func (.func 146) #[] #[.pointer (some ⟨Bs, 0, none⟩)]] w fun e w' => ∃ v, e = .returned v ∧ w'.ownsRow w.heap.size 9 1 v len (zs.map Value.string) ∧ Below w.heap.size w w' := by
  have h1 : 1 ≤ n := by omega
  obtain ⟨i0, hi, hz0, hz1, hz2⟩ := info_parts infoStrS
  refine callsIn_of_wp_marks Tryz.func183 rfl trivial ?_ rfl
  simp only [Tryz.ntmps183, List.size_toArray, List.length_cons, List.length_nil, Nat.reduceAdd, Nat.reduceSub, Array.replicate_succ, Array.replicate_zero, List.push_toArray, List.append_toArray, List.nil_append, List.cons_append]
  gi_wp2
  have bO := Boxed.new w 44 (.slice none 0 0)
  have hB0 : Below w.heap.size w (w.alloc (.cells #[.slice none 0 0] 44)) := (Below.refl _ w).alloc (Nat.le_refl _) _
  refine wpIn_rangeFunc_ownG rfl h1 (gf := 146) (lb := #[.pointer (some ⟨Bs, 0, none⟩)]) rfl trivial (enters_of Tryz.func146 (by kernel_rfl) rfl)
    (hst _ hB0) belowK_t (belowK_b (by simp)) (Below.refl _ _) (fun _ => rfl)
    (fun pre W => (∃ v, Boxed W w.heap.size 44 v ∧ W.ownsRow w.heap.size 9 1 v pre.length (pre.map Value.string) ∧ True) ∧ Below w.heap.size w W)
    (fun _ _ _ => False)
    (OwnFrom.and (Own.from (holdsRow_own w.heap.size w.heap.size 44 9 1 (fun pre => pre.length) (fun pre : List ByteArray => pre.map Value.string) (fun pre v => True)) _) (ownFrom_below (Nat.le_refl _) (by simp)))
    (fun _ _ _ _ _ hs _ _ => hs)
    ⟨⟨_, bO, World.ownsRow_nil _ _ _ _, trivial⟩, hB0⟩
    (fun x => { tmps := #[.slice none 0 0, .func (.func 146) #[] #[.pointer (some ⟨Bs, 0, none⟩)], .pointer (some ⟨w.heap.size, 0, none⟩), undef, .slice none 0 0, .string x, .func (.func 146) #[] #[.pointer (some ⟨Bs, 0, none⟩)], .string x, undef, undef, undef, undef, undef], defers := [] }) ?assign ?body ?done ?stop
  case assign =>
    intro l x W K hK
    gi_wp2
    exact hK
  case body =>
    rintro l pre x W ⟨⟨v, hv, hrow, -⟩, hB⟩ hlt
    have hcv := hv.cell
    gi_wp2_with (gi_at_builtin; refine wpListIn_append_own _ rfl _ _ 44 rfl w.heap.size 9 i0 (.string ⟨#[]⟩) 1 16 Tryz.underlying44 hi hz0 hz1 hz2 rfl (by decide) _ _ _ rfl (hrow.alloc _) ⟨W.heap.size, 0, none⟩ 1 1 [.string x] rfl rfl (cell_one_new _ _ _) (by simp [Value.oneCell']) (by unfold maxLen; omega) (by omega) (by have := hB.size; simp; omega) ?_; intro v' w1 hown' hgrow _; obtain ⟨g', cap', rfl⟩ := ownsRow_succ hown'; obtain ⟨hv1, hv2, hr2, hk2, hb2⟩ := hv.appended (by decide) hrow hB.size (Nat.le_refl _) hown' hgrow; have hc1 := hv1.cell; have hf1 := hv1.frozen)
    exact ⟨hk2.from _, hb2, ⟨_, hv2, by simpa using hr2, trivial⟩, hB.trans hb2⟩
  case done =>
    rintro D ys W hD rfl ⟨⟨v, hv, hrow, -⟩, hB⟩ hK
    have hcv := hv.cell
    gi_wp2
    refine ⟨by simp, .inl ⟨_, _, rfl, run_takeDeferred hK, ?_⟩⟩
    rw [hlen] at hrow
    exact ⟨_, results_tmp rfl _ _ _, v, rfl, ownsRow_putObj hrow _ hK rfl, hB.trans (belowK_b (w := w) (Nat.le_refl _) W D _ _ (by simp at hD; omega) hK rfl rfl)⟩
  case stop =>
    rintro D c pre W _ _ h _
    exact h.elim
/-- .. over no text. -/
theorem vals_nil (n : Nat) (l Bs c : Nat) (A : Option Addr) (J : List ByteArray → World → Prop) (W : World) (hBs : W.cell? ⟨Bs, 0, none⟩ = some (.slice A 0 c)) (h0 : J [] W) :
    CallsIn Fence.wide n Tryz.prog 146 #[.func (.yield l) #[] #[], .pointer (some ⟨Bs, 0, none⟩)] W fun e W' => (∃ v, e = .returned v) ∧ J [] W' := by
  refine callsIn_of_wp Tryz.func146 rfl trivial ?_ rfl
  simp only [Tryz.ntmps146, List.size_toArray, List.length_cons, List.length_nil, Nat.reduceAdd, Nat.reduceSub, Array.replicate_succ, Array.replicate_zero, List.push_toArray, List.append_toArray, List.nil_append, List.cons_append]
  gi_wp2
  gi_loopw [7] (fun i wr => i = .int .i64 0 ∧ J [] wr) (fun _ _ => 0)
  case atStart => exact ⟨rfl, h0⟩
  case round =>
    obtain ⟨rfl, hJs⟩ := hrel
    gi_wp2
    go_end0
    exact ⟨⟨_, rfl⟩, hJs⟩
theorem vals_stops0 (n : Nat) (Bs c : Nat) (A : Option Addr) (n₀ : Nat) (w : World) (hn₀ : n₀ ≤ w.heap.size) (hBl : Bs < n₀) (hBs : w.cell? ⟨Bs, 0, none⟩ = some (.slice A 0 c)) :
    SeqStopsK Fence.wide n Tryz.prog 146 #[.pointer (some ⟨Bs, 0, none⟩)] (fun x : ByteArray => #[Value.string x]) (Below n₀) (fun ys => ys = []) (fun pre => pre <+: []) 0 w := fun l J Jx W hW _ _ hY h0 =>
  (vals_nil n l Bs c A J W ((hW.cell (p := ⟨Bs, 0, none⟩) (by show Bs < w.heap.size; omega)).trans hBs) h0).mono fun e W' ⟨he, hj⟩ => ⟨he, .inl ⟨_, rfl, hj⟩⟩
theorem seq_of_at {A : Option Addr} {zs : List ByteArray} {len c Bs : Nat} {w : World} (hlen : zs.length = len) (hl : len ≤ 1000000) (hBl : Bs < w.heap.size) (hBs : w.cell? ⟨Bs, 0, none⟩ = some (.slice A len c)) (h : At kStr AnyB w A zs) (n : Nat) (hn : 1 ≤ n) :
    ∀ W : World, Below w.heap.size w W → SeqStopsK Fence.wide n Tryz.prog 146 #[.pointer (some ⟨Bs, 0, none⟩)] (fun x : ByteArray => #[Value.string x]) (Below w.heap.size) (fun ys => ys = zs) (fun pre => pre <+: zs) len W := by
  intro W hW
  by_cases h0 : len = 0
  · subst h0
    obtain rfl := List.eq_nil_of_length_eq_zero hlen
    exact vals_stops0 n Bs c A w.heap.size W hW.size hBl ((hW.cell (p := ⟨Bs, 0, none⟩) hBl).trans hBs)
  · obtain ⟨b, off, rfl, -, hb, -⟩ := h (by omega)
    have hc : ∀ j x, zs[j]? = some x → w.cell? ⟨b, off + j, none⟩ = some (.string x) := fun j x hx => by
      obtain ⟨b', off', e, -, -, hz⟩ := h.str hx
      injection e with e
      injection e with e1 e2
      subst e1 e2
      exact hz
    exact vals_stops n hn Bs b off len c w.heap.size zs hlen hl hb W hW.size hBl ((hW.cell (p := ⟨Bs, 0, none⟩) hBl).trans hBs) (fun j x hx => (hW.cell (p := ⟨b, off + j, none⟩) hb).trans (hc j x hx))
def CollOf (zs : List ByteArray) (w : World) (e : Ending) (w' : World) : Prop := ∃ v, e = .returned v ∧ w'.ownsRow w.heap.size 9 1 v zs.length (zs.map Value.string) ∧ Below w.heap.size w w'
theorem collect_walk (A : Option Addr) (zs : List ByteArray) (len c Bs : Nat) (w : World) (hlen : zs.length = len) (hl : len ≤ 1000000) (hBl : Bs < w.heap.size) (hBs : w.cell? ⟨Bs, 0, none⟩ = some (.slice A len c)) (h : At kStr AnyB w A zs) :
    Calls Tryz.prog 144 #[.func (.func 146) #[] #[.pointer (some ⟨Bs, 0, none⟩)]] w fun e w' => CollOf zs w e w' := by
  have ha := callsIn_wide.1 (apseq_in 9 (by omega) Bs len zs hlen hl w (seq_of_at hlen hl hBl hBs h (9 - 1) (by omega)))
  go_enter Tryz.func144, Tryz.ntmps144
  go_wp2_with fail
  refine ha.mono ?_
  clear ha
  rintro e w1 ⟨v, rfl, hown, hb⟩
  go_wp2
  go_ret
  exact ⟨v, rfl, by rw [hlen]; exact hown, hb⟩
theorem flat_strsS : ∀ zs : List ByteArray, (zs.map fun z => [Value.string z]).flatten = zs.map Value.string
  | [] => rfl
  | z :: r => by rw [List.map_cons, List.flatten_cons, flat_strsS r]; rfl
theorem own_strsS {B : Nat} {w : World} {v : Value} {zs : List ByteArray} (h : w.ownsRow B 9 1 v zs.length (zs.map Value.string)) : Own kStr 9 [] 0 B w v zs := by
  refine ⟨zs.map fun z => [.string z], by simp, ?_, fun j x vs hj hv => ?_⟩
  · rw [flat_strsS]; exact h
  · rw [List.getElem?_map, hj] at hv
    exact (Option.some.inj hv).symm
def AscOf (zs : List ByteArray) (w : World) (e : Ending) (w' : World) : Prop := ∃ v, e = .returned v ∧ Own kStr 9 [] 0 w.heap.size w' v (ascS zs) ∧ Below w.heap.size w w'
theorem sorted_walk (A : Option Addr) (zs : List ByteArray) (len c Bs : Nat) (w : World) (hlen : zs.length = len) (hl : len ≤ 1000000) (hBl : Bs < w.heap.size) (hBs : w.cell? ⟨Bs, 0, none⟩ = some (.slice A len c)) (h : At kStr AnyB w A zs) :
    Calls Tryz.prog 106 #[.func (.func 146) #[] #[.pointer (some ⟨Bs, 0, none⟩)]] w fun e w' => AscOf zs w e w' := by
  have ha := collect_walk A zs len c Bs w hlen hl hBl hBs h
  have hal := ascS_len zs
  have hae := asc_eq zs
  obtain ⟨srt, has⟩ : ∃ srt, ascS zs = srt := ⟨_, rfl⟩
  have hfin : Hid (∀ e w', (∃ v, e = .returned v ∧ Own kStr 9 [] 0 w.heap.size w' v srt ∧ Below w.heap.size w w') → AscOf zs w e w') := hide (fun e w' h => by rw [← has] at h; exact h)
  rw [has] at hal hae
  obtain ⟨ss, hss⟩ : ∃ ss, zs.map (·.data.toList) = ss := ⟨_, rfl⟩
  have hsl : ss.length = len := by rw [← hss, List.length_map, hlen]
  have hzz : zs.map Value.string = ss.map encStr := by rw [← hss, Lib.map_encStr]
  rw [hss] at hae
  unfold CollOf at ha
  rw [hlen, hzz] at ha
  rw [hlen] at hal
  replace hae := hide hae
  clear hBs h hss hzz has hlen
  go_enter Tryz.func106, Tryz.ntmps106
  go_wp2_with fail
  refine ha.mono ?_
  clear ha
  rintro e w1 ⟨v, rfl, hown, hb1⟩
  rcases hown.2 with ⟨rfl, h0⟩ | ⟨g, cap, cur, rfl, hbase, hgb, r1, r2, r3, r4⟩
  · subst h0
    have hs := Tryz.slices_Sort_string_none none 0 w1
    obtain rfl := List.eq_nil_of_length_eq_zero hal
    go_wp2_with fail
    refine hs.mono ?_
    rintro e w2 ⟨rfl, rfl⟩
    go_wp2
    go_ret
    exact hfin.out _ _ ⟨_, rfl, Own.nil, hb1⟩
  · have hH : Sort.Holds encStr w1 g 0 ss.toArray := holds_of_block hgb (by rw [hsl]; simpa using r4)
    have hso := Tryz.slices_Sort_string g 0 cap ss w1 hH (blk_lt hgb) (by omega)
    rw [hsl, ← hae.out] at hso
    go_wp2_with fail
    refine hso.mono ?_
    clear hso
    rintro e w2 ⟨rfl, q, os, rfl⟩
    have hr := ownsRow_sorted (n := q) (os := os) (ss := ss) (ts := srt.map (·.data.toList)) (by rw [List.length_map, hal, hsl]) hbase hgb (by rw [hsl]; exact r1) r2 r3
    rw [Lib.map_encStr, hsl, ← hal] at hr
    have hb2 := Below.grown hb1 (grownBy_sorted (os := os) (n := q) (srt.map (·.data.toList)).toArray) hb1.size (fun y hy => by cases hy; exact hbase)
    have hO := own_strsS hr
    rw [hal] at hO
    replace hO := hide hO
    replace hb2 := hide hb2
    go_wp2
    go_ret
    exact hfin.out _ _ ⟨_, rfl, hO.out, hb2.out⟩
theorem fsorted_walk (A : Option Addr) (zs : List ByteArray) (c : Nat) (w : World) (hl : zs.length ≤ 1000000) (h : At kStr AnyB w A zs) :
    Calls Tryz.prog 70 #[.slice A zs.length c] w fun e w' => AscOf zs w e w' := by
  have hb := ext_alloc (Below.refl w.heap.size w) (.cells #[.slice A zs.length c] 44)
  have hs := sorted_walk A zs zs.length c w.heap.size (w.alloc (.cells #[.slice A zs.length c] 44)) rfl hl (by simp) (by simp) (h.later hb)
  have hv := values_walk A zs.length c w
  obtain ⟨n, hn⟩ : ∃ n, zs.length = n := ⟨_, rfl⟩
  rw [hn] at hs hv hb ⊢
  clear hl h hn
  go_enter Tryz.func70, Tryz.ntmps70
  go_wp2_with fail
  refine hv.mono ?_
  clear hv
  rintro e w1 ⟨rfl, rfl⟩
  go_wp2_with fail
  refine hs.mono ?_
  clear hs
  rintro e w2 ⟨v, rfl, hown, hb2⟩
  go_wp2
  go_ret
  exact ⟨v, rfl, hown.lower (by simp), ext_trans hb hb2⟩
end Go.Proofs.YtimcdikeajbabaaGreatDoor
