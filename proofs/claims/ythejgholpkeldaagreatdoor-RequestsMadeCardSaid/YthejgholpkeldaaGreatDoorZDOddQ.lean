/- Requests in rows of their own, and in boxes. No condition. Walks of requests.has, with slices.ContainsFunc and IndexFunc at requests, and of timetableref12.find. Conditions: the requests' cells. A map in which texts are counted, as it is read and written. No condition. Walk of requests.students: a map in which each student's requests are counted. Conditions: the requests' cells. Walks of requests.request and requests.Valid. Conditions: the requests' cells; the lists are no longer than lists can be. Walk of requests.Write. Conditions: the requests' cells; what the program's variables hold. Walk of Dice.OddRequests. Conditions: the dice's cells; the requests in memory of their own. -/
import Derived.Test.YthejgholpkeldaaGreatDoorShelfS
import Derived.Test.YthejgholpkeldaaGreatDoorRows
import Derived.WalkKit
import Derived.WalkSpells
import Derived.WalkLawsBesides
import Derived.BigGuardPart
import Derived.Lib.Hide
import Derived.Laws.BitsAllLaws
import Derived.Laws.BitsLemmas
import Derived.Lib.LaidTab
import Derived.Test.YthejgholpkeldaaGreatDoorShelf
import Derived.Lib.ConvBytes
import Derived.Deep.QuietTactic
import Derived.BigQuiet
import Derived.Laws.ResultCell
import Derived.RegionTactic
import Derived.BigRegion
import Derived.Deep.RegionHeld3
import Derived.Deep.DeepCutAuto
import Derived.Lib.SmallJoins
import Derived.Lib.SplitLaws
import Derived.Lib.CountLaws
import Derived.Lib.IndexMore
import Derived.Lib.Split
import Derived.Lib.Join
import Derived.Lib.ItoaNum
import Derived.Laws.AppendOwn
import Derived.Test.YthejgholpkeldaaGreatDoorShelfT
import Derived.Lib.ItoaLen
import Derived.Lib.AppendIntMem
import Derived.Deep.AppendLies
import Derived.Lib.PathFns
import Derived.Maps.Range
import Derived.Lib.OwnBridge
import Derived.Sort.OwnSorted
import Derived.Sort.Walk0
import Derived.Test.YthejgholpkeldaaGreatDoorCards
import Derived.Test.YthejgholpkeldaaGreatDoorTie
import Derived.ProofKit
import Derived.OpenShut
import Derived.LaidMore
import Derived.Lay
import Derived.SevenTiedAt
import Derived.Stop.Joined
import Derived.Stop.LaidErr
import Derived.Deep.DeepHandedRow
import Derived.Lib.LaidU8
import Derived.LaidSub
import Derived.Deep.Slices
import Derived.Deep.Fields
import Derived.ChangeSame
import Derived.Maps.OwnSet
import Derived.Deep.RegionLaw
import Derived.Deep.RegionLawGrows
import Derived.StringKeys
import Derived.Sort.LotA
import Derived.Test.YthejgholpkeldaaGreatDoorZReqP
import Derived.Test.YthejgholpkeldaaGreatDoorZPairs
import Derived.Test.YthejgholpkeldaaGreatDoorZDecN
import Derived.Test.YthejgholpkeldaaGreatDoorZShort
import Derived.Test.YthejgholpkeldaaGreatDoorZShortP
import Derived.Test.YthejgholpkeldaaGreatDoorZMetP
namespace Go.Proofs.YthejgholpkeldaaGreatDoor
open Go.RowKit
set_option maxRecDepth 100000

theorem apd_reqs : Apd Tryz.prog 27 53 4 64 := apd Tryz.underlying27 (z := .agg #[.string ⟨#[]⟩, .string ⟨#[]⟩, .int .i64 0, .slice none 0 0]) (by kernel_rfl) rfl
/-- A request whose courses instead are known. -/
theorem req_rep {S : Nat → Prop} {W : World} {z co : ByteArray} {m : Int} {F : Option Addr} {n c : Nat} {l : List ByteArray} (h : (kSlice kStr).rep S W l [.slice F n c]) : kReq.rep S W (z, co, m, l) [.string z, .string co, .int .i64 m, .slice F n c] :=
  ⟨[_], _, rfl, rfl, [_], _, rfl, rfl, [_], _, rfl, rfl, h⟩
theorem req_unrep {S : Nat → Prop} {W : World} {x : Req} {vs : List Value} (h : kReq.rep S W x vs) : ∃ F c, vs = [.string x.1, .string x.2.1, .int .i64 x.2.2.1, .slice F x.2.2.2.length c] ∧ (kSlice kStr).rep S W x.2.2.2 [.slice F x.2.2.2.length c] := by
  obtain ⟨u0, r0, e0, h0, hr⟩ := h
  obtain ⟨u1, r1, e1, h1, hr⟩ := hr
  obtain ⟨u2, u3, e2, h2, h3⟩ := hr
  have k3 := h3
  obtain ⟨F, c, rfl, -, -⟩ := h3
  have h0 : u0 = [.string x.1] := h0
  have h1 : u1 = [.string x.2.1] := h1
  have h2 : u2 = [.int .i64 x.2.2.1] := h2
  subst h0 h1 h2 e2 e1 e0
  exact ⟨F, c, rfl, k3⟩
theorem load4q (w : World) (g : Nat) (a b c d : Value) (h0 : w.cell? ⟨g, 0, none⟩ = some a) (h1 : w.cell? ⟨g, 1, none⟩ = some b) (h2 : w.cell? ⟨g, 2, none⟩ = some c) (h3 : w.cell? ⟨g, 3, none⟩ = some d) :
    (loadVar 53 ⟨g, 0, none⟩).run Tryz.prog w = .ok (.agg #[a, b, c, d]) w := by
  simp [go_sem, h0, h1, h2, h3]
theorem end_req {fn : Func} {p : Tmp} (hr : fn.results = #[.cell p 53]) {Q : Ending → World → Prop} {act : Act} {w : World} (g : Nat) (a b c d : Value) (hd : act.defers = [])
    (hp : act.tmps.getD p undef = .pointer (some ⟨g, 0, none⟩))
    (h0 : w.cell? ⟨g, 0, none⟩ = some a) (h1 : w.cell? ⟨g, 1, none⟩ = some b) (h2 : w.cell? ⟨g, 2, none⟩ = some c) (h3 : w.cell? ⟨g, 3, none⟩ = some d)
    (hQ : Q (.returned (.agg #[a, b, c, d])) w) : bodyPost Tryz.prog fn Q .ret act w := by
  refine bodyPost_ret (v := .agg #[a, b, c, d]) ?_ hd hQ
  simp only [results, hr]
  simp [Sem.run_bind, Result.andThen, -Array.getD_eq_getD_getElem?]
  rw [hp]
  simp only [asAddr, Sem.run_pure]
  rw [load4q w g a b c d h0 h1 h2 h3]
end Go.Proofs.YthejgholpkeldaaGreatDoor

namespace Go.Proofs.YthejgholpkeldaaGreatDoor
open Go.RowKit
set_option maxRecDepth 100000

def isQ (s c : ByteArray) (x : Req) : Bool := decide (x.1 = s ∧ x.2.1 = c)
/-- The place of a request, -1 if there is none. -/
def idxQ (s c : ByteArray) (l : List Req) : Int := if hasQ l s c = true then ((l.findIdx (isQ s c) : Nat) : Int) else -1
theorem hasQ_iff {l : List Req} {s c : ByteArray} : hasQ l s c = true ↔ ∃ x ∈ l, isQ s c x = true := by unfold hasQ isQ; rw [List.any_eq_true]
theorem hasQ_no {l : List Req} {s c : ByteArray} (h : ∀ y ∈ l, isQ s c y = false) : hasQ l s c = false := by
  cases hh : hasQ l s c with
  | false => rfl
  | true => obtain ⟨x, hx, hq⟩ := hasQ_iff.1 hh; rw [h x hx] at hq; cases hq
theorem idxQ_none {l : List Req} {s c : ByteArray} (h : ∀ y ∈ l, isQ s c y = false) : idxQ s c l = -1 := by unfold idxQ; rw [hasQ_no h]; rfl
theorem idxQ_hit {l : List Req} {s c : ByteArray} {j : Nat} {x : Req} (hx : l[j]? = some x) (h : ∀ y ∈ l.take j, isQ s c y = false) (hq : isQ s c x = true) : idxQ s c l = (j : Int) ∧ hasQ l s c = true := by
  obtain ⟨hj, hxe⟩ := List.getElem?_eq_some_iff.1 hx
  have hh : hasQ l s c = true := hasQ_iff.2 ⟨x, List.mem_of_getElem? hx, hq⟩
  refine ⟨?_, hh⟩
  unfold idxQ
  rw [if_pos hh]
  have : l.findIdx (isQ s c) = j := (List.findIdx_eq hj).2 ⟨by rw [hxe]; exact hq, fun i hi => h _ (by
    rw [List.mem_take_iff_getElem]
    exact ⟨i, by omega, rfl⟩)⟩
  rw [this]
theorem takeQ_miss {l : List Req} {s c : ByteArray} {j : Nat} {x : Req} (hx : l[j]? = some x) (h : ∀ y ∈ l.take j, isQ s c y = false) (hq : isQ s c x = false) : ∀ y ∈ l.take (j + 1), isQ s c y = false := by
  intro y hy
  rw [List.take_add_one, hx] at hy
  rcases List.mem_append.1 hy with hy | hy
  · exact h y hy
  · simp at hy; rw [hy]; exact hq
theorem idxQ_pos {l : List Req} {s c : ByteArray} : 0 ≤ idxQ s c l ↔ hasQ l s c = true := by
  unfold idxQ
  split
  · rename_i h; exact ⟨fun _ => h, fun _ => by omega⟩
  · rename_i h; exact ⟨fun h' => by omega, fun h' => absurd h' h⟩
/-- A request's own place: an earlier one is there just if it stands among those ahead. -/
theorem idxQ_lt {l : List Req} {i : Nat} {x : Req} (hx : l[i]? = some x) : idxQ x.1 x.2.1 l < (i : Int) ↔ hasQ (l.take i) x.1 x.2.1 = true := by
  by_cases hh : ∀ y ∈ l.take i, isQ x.1 x.2.1 y = false
  · have hq : isQ x.1 x.2.1 x = true := by simp [isQ]
    rw [(idxQ_hit hx hh hq).1, hasQ_no hh]
    constructor
    · intro h; omega
    · intro h; cases h
  · have hex : ∃ y ∈ l.take i, isQ x.1 x.2.1 y = true := by
      apply Classical.byContradiction
      intro hn
      exact hh fun y hy => by cases h : isQ x.1 x.2.1 y with
        | false => rfl
        | true => exact absurd ⟨y, hy, h⟩ hn
    refine ⟨fun _ => hasQ_iff.2 hex, fun _ => ?_⟩
    obtain ⟨y, hy, hq⟩ := hex
    obtain ⟨j, hj, rfl⟩ := List.mem_take_iff_getElem.1 hy
    have hall : hasQ l x.1 x.2.1 = true := hasQ_iff.2 ⟨_, List.getElem_mem _, hq⟩
    unfold idxQ
    rw [if_pos hall]
    have hle : l.findIdx (isQ x.1 x.2.1) ≤ j := by
      apply Classical.byContradiction
      intro hn
      have := List.not_of_lt_findIdx (p := isQ x.1 x.2.1) (xs := l) (i := j) (by omega)
      rw [hq] at this; cases this
    omega
theorem isQ_eq (x : Req) (s c : ByteArray) : isQ s c x = (x.1.toList == s.toList && x.2.1.toList == c.toList) := by
  unfold isQ
  have h : ∀ a b : ByteArray, (a.toList == b.toList) = decide (a = b) := fun a b => by
    by_cases e : a = b
    · subst e; simp
    · rw [decide_eq_false e]
      exact beq_false_of_ne fun h => e (met_inj (by rw [← toList_dataL, ← toList_dataL]; exact h))
  rw [h, h]
  exact Bool.decide_and _ _
-- walks
set_option maxHeartbeats 2000000 in
theorem qhas1_walk (z co s cc : ByteArray) (m : Int) (F : Option Addr) (n c x : Nat) (w : World) (hc0 : w.cell? ⟨x, 0, none⟩ = some (.string s)) (hc1 : w.cell? ⟨x, 1, none⟩ = some (.string cc)) :
    Calls Tryz.prog 86 #[.agg #[.string z, .string co, .int .i64 m, .slice F n c], .pointer (some ⟨x, 0, none⟩)] w fun e w' => e = .returned (.bool (z.toList == s.toList && co.toList == cc.toList)) ∧ Below w.heap.size w w' := by
  have hlt := World.block_lt_of_cell? _ _ hc0
  cases h1 : (z.toList == s.toList)
  all_goals
    cases h2 : (co.toList == cc.toList)
    all_goals
      go_enter Tryz.func86, Tryz.ntmps86
      go_wp2
      go_ret
      exact ⟨rfl, (by repeat (first | exact Below.refl _ _ | refine ext_alloc ?_ _ | refine ext_drewN ?_ _ | refine ext_drew ?_ | refine ext_trans ?_ (by assumption)))⟩
set_option maxHeartbeats 4000000 in
theorem qidx_walk (A : Option Addr) (l : List Req) (c g : Nat) (s cc : ByteArray) (w : World) (hn : l.length ≤ 9223372036854775807) (h : At kReq AnyB w A l) (hc0 : w.cell? ⟨g, 0, none⟩ = some (.string s)) (hc1 : w.cell? ⟨g, 1, none⟩ = some (.string cc)) :
    Calls Tryz.prog 115 #[.slice A l.length c, .func (.func 86) #[] #[.pointer (some ⟨g, 0, none⟩)]] w fun e w' => e = .returned (.int .i64 (idxQ s cc l)) ∧ Below w.heap.size w w' := by
  have eg : ∀ args w, (callFunc 86 args).run Tryz.prog w = .ok (.enter 86 args) w := enters_of Tryz.func86 (by kernel_rfl) rfl
  obtain ⟨N, hnn⟩ : ∃ N, l.length = N := ⟨_, rfl⟩
  rw [hnn] at hn ⊢
  replace hnn := hide hnn
  go_enter Tryz.func115, Tryz.ntmps115
  go_wp2
  go_loopw [5, 8] (fun _ i wr => ∃ j : Nat, j ≤ N ∧ i = .int .i64 j ∧ Hid (∀ y ∈ l.take j, isQ s cc y = false) ∧ Below w.heap.size w wr) (fun _ i _ => N - (intOf i).toNat)
  case atStart => exact ⟨0, Nat.zero_le _, rfl, hide (fun y hy => by simp at hy), Below.refl _ _⟩
  case round =>
    obtain ⟨j, hj, rfl, ho, hb⟩ := hrel
    by_cases hlt : j < N
    · obtain ⟨x, hx⟩ : ∃ x, l[j]? = some x := ⟨_, List.getElem?_eq_getElem (by rw [hnn.out]; exact hlt)⟩
      obtain ⟨b, off, F, cF, rfl, -, hbb, ⟨q0, q1, q2, q3⟩, -, -⟩ := (h.later hb).req hx
      have hcall := qhas1_walk x.1 x.2.1 s cc x.2.2.1 F x.2.2.2.length cF g wr (cell_later hb hc0) (cell_later hb hc1)
      rw [← isQ_eq] at hcall
      obtain ⟨z, co, m, ts⟩ := x
      dsimp only at q0 q1 q2 q3 hcall
      obtain ⟨nt, hnt⟩ : ∃ nt, ts.length = nt := ⟨_, rfl⟩
      rw [hnt] at q3 hcall
      have hj0 : (0 : Int) ≤ (j : Int) := by omega
      have hj1 : (j : Int) < (N : Int) := by omega
      cases hq : isQ s cc (z, co, m, ts) with
      | true =>
        have hit := hide (idxQ_hit hx ho.out hq).1
        rw [hq] at hcall
        clear hx h ho hq hc0 hc1 hnt
        go_wp2_with (go_at_fn 86; refine hcall.mono ?_; rintro e w' ⟨rfl, hb2⟩)
        go_ret
        exact ⟨by rw [hit.out]; rfl, ext_trans hb hb2⟩
      | false =>
        have miss := hide (takeQ_miss hx ho.out hq)
        rw [hq] at hcall
        clear hx h ho hq hc0 hc1 hnt
        go_wp2_with (go_at_fn 86; refine hcall.mono ?_; rintro e w' ⟨rfl, hb2⟩)
        go_roundw
        case rel => exact ⟨j + 1, by omega, by go_num, miss, ext_trans hb hb2⟩
        case measure => simp [intOf]; omega
    · obtain rfl : j = N := by omega
      have hall : Hid (idxQ s cc l = -1) := hide (idxQ_none fun y hy => ho.out y (by rw [List.take_of_length_le (by rw [hnn.out]; exact Nat.le_refl _)]; exact hy))
      clear h
      go_wp2
      go_ret
      exact ⟨by rw [hall.out]; rfl, hb⟩
set_option maxHeartbeats 2000000 in
theorem qcon_walk (A : Option Addr) (l : List Req) (c g : Nat) (s cc : ByteArray) (w : World) (hn : l.length ≤ 9223372036854775807) (h : At kReq AnyB w A l) (hc0 : w.cell? ⟨g, 0, none⟩ = some (.string s)) (hc1 : w.cell? ⟨g, 1, none⟩ = some (.string cc)) :
    Calls Tryz.prog 85 #[.slice A l.length c, .func (.func 86) #[] #[.pointer (some ⟨g, 0, none⟩)]] w fun e w' => e = .returned (.bool (hasQ l s cc)) ∧ Below w.heap.size w w' := by
  have hcall := qidx_walk A l c g s cc w hn h hc0 hc1
  have hp : decide (0 ≤ idxQ s cc l) = hasQ l s cc := by
    cases hh : hasQ l s cc with
    | true => exact decide_eq_true (idxQ_pos.2 hh)
    | false => exact decide_eq_false (fun h => by rw [idxQ_pos.1 h] at hh; cases hh)
  rw [← hp]
  clear h hp
  go_enter Tryz.func85, Tryz.ntmps85
  go_wp2_with fail
  refine hcall.mono ?_
  rintro e w' ⟨rfl, hb⟩
  go_wp2
  go_ret
  exact ⟨rfl, hb⟩
set_option maxHeartbeats 2000000 in
theorem qhas_walk (A : Option Addr) (l : List Req) (c : Nat) (z co : ByteArray) (m : Int) (F : Option Addr) (n cF : Nat) (w : World) (hn : l.length ≤ 9223372036854775807) (h : At kReq AnyB w A l) :
    Calls Tryz.prog 59 #[.slice A l.length c, .agg #[.string z, .string co, .int .i64 m, .slice F n cF]] w fun e w' => e = .returned (.bool (hasQ l z co)) ∧ Below w.heap.size w w' := by
  have hb0 : Below w.heap.size w (w.alloc (.cells #[.string z, .string co, .int .i64 m, .slice F n cF] 53)) := ext_alloc (Below.refl _ _) _
  have hcall := qcon_walk A l c w.heap.size z co _ hn (h.later hb0) (by simp) (by simp)
  clear h
  go_enter Tryz.func59, Tryz.ntmps59
  go_wp2_with fail
  refine hcall.mono ?_
  rintro e w' ⟨rfl, hb⟩
  go_wp2
  go_ret
  exact ⟨rfl, ext_trans hb0 hb⟩
set_option maxHeartbeats 4000000 in
theorem r12find_walk (A : Option Addr) (l : List Req) (c : Nat) (s cc : ByteArray) (w : World) (hn : l.length ≤ 9223372036854775807) (h : At kReq AnyB w A l) :
    Calls Tryz.prog 54 #[.slice A l.length c, .string s, .string cc] w fun e w' => e = .returned (.int .i64 (idxQ s cc l)) ∧ w = w' := by
  obtain ⟨N, hnn⟩ : ∃ N, l.length = N := ⟨_, rfl⟩
  rw [hnn] at hn ⊢
  replace hnn := hide hnn
  go_enter Tryz.func54, Tryz.ntmps54
  go_wp2
  go_loop [7] (fun i => ∃ j : Nat, j ≤ N ∧ i = .int .i64 j ∧ Hid (∀ y ∈ l.take j, isQ s cc y = false)) (fun i => N - (intOf i).toNat)
  case atStart => exact ⟨0, Nat.zero_le _, rfl, hide (fun y hy => by simp at hy)⟩
  case round =>
    obtain ⟨j, hj, rfl, ho⟩ := hrel
    by_cases hlt : j < N
    · obtain ⟨x, hx⟩ : ∃ x, l[j]? = some x := ⟨_, List.getElem?_eq_getElem (by rw [hnn.out]; exact hlt)⟩
      obtain ⟨b, off, F, cF, rfl, -, hbb, ⟨q0, q1, -, -⟩, -, -⟩ := h.req hx
      have hq := isQ_eq x s cc
      have hj0 : (0 : Int) ≤ (j : Int) := by omega
      have hj1 : (j : Int) < (N : Int) := by omega
      cases h1 : (x.1.toList == s.toList) <;> cases h2 : (x.2.1.toList == cc.toList)
      case true.true =>
        rw [h1, h2] at hq
        have hit := hide (idxQ_hit hx ho.out hq).1
        clear hx h ho hq
        go_wp2
        go_ret
        exact ⟨by rw [hit.out]; rfl, rfl⟩
      all_goals
        rw [h1, h2] at hq
        have miss := hide (takeQ_miss hx ho.out hq)
        clear hx h ho hq
        go_wp2
        go_round
        case rel => exact ⟨j + 1, by omega, by go_num, miss⟩
        case measure => simp [intOf]; omega
    · obtain rfl : j = N := by omega
      have hall : Hid (idxQ s cc l = -1) := hide (idxQ_none fun y hy => ho.out y (by rw [List.take_of_length_le (by rw [hnn.out]; exact Nat.le_refl _)]; exact hy))
      clear h
      go_wp2
      go_ret
      exact ⟨by rw [hall.out]; rfl, rfl⟩
end Go.Proofs.YthejgholpkeldaaGreatDoor

namespace Go.Proofs.YthejgholpkeldaaGreatDoor
open Go.RowKit
set_option maxRecDepth 100000

/-- How often a text stands in a list. -/
def countS (z : ByteArray) (l : List ByteArray) : Nat := (l.filter fun y => decide (y = z)).length
theorem countS_snoc (z y : ByteArray) (l : List ByteArray) : countS z (l ++ [y]) = countS z l + if y = z then 1 else 0 := by
  unfold countS
  rw [List.filter_append, List.length_append]
  by_cases e : y = z
  · simp [e]
  · simp [e]
theorem countS_le (z : ByteArray) (l : List ByteArray) : countS z l ≤ l.length := List.length_filter_le _ _
theorem countS_zero (z : ByteArray) (l : List ByteArray) : countS z l = 0 ↔ ¬ 0 ≤ idxS z l := by
  rw [idx_memS]
  unfold countS
  rw [List.length_eq_zero_iff, List.filter_eq_nil_iff]
  constructor
  · intro h hm
    exact h z hm (by simp)
  · intro h y hy e
    have e : y = z := by simpa using e
    exact h (e ▸ hy)
/-- Block b is a map in which each text is counted as often as it stands in the list. -/
def CntAt (w : World) (b : Nat) (ss : List ByteArray) : Prop :=
  ∃ D : DataW Unit, w.ownsMap Tryz.prog 9 (plainElem Tryz.prog 3) b ss.length D ∧ (∀ z : ByteArray, D.atKey (.string z.data.toList) (.lit (.int .i64 0)) = .lit (.int .i64 (countS z ss : Nat))) ∧ (∀ z : ByteArray, Maps.has D (.string z.data.toList) = decide (0 ≤ idxS z ss)) ∧ Maps.size D = (freshS ss).length
theorem cnt_made (w : World) : CntAt (w.alloc (.map #[] 0)) w.heap.size [] := ⟨.map [], World.ownsMap_made _ _ _ _, fun _ => rfl, fun z => (decide_eq_false (fun h => absurd (idx_memS.1 h) (by simp))).symm, rfl⟩
theorem CntAt.lt {w : World} {b : Nat} {ss : List ByteArray} (h : CntAt w b ss) : b < w.heap.size := by obtain ⟨D, h, -⟩ := h; exact h.lt
theorem CntAt.later {w w' : World} {b : Nat} {ss : List ByteArray} (h : CntAt w b ss) (hb : Below w.heap.size w w') : CntAt w' b ss := by
  have hlt := h.lt
  obtain ⟨D, ⟨es, clock, h1, h2⟩, h3⟩ := h
  exact ⟨D, ⟨es, clock, (hb.block b hlt).trans h1, h2⟩, h3⟩
theorem cnt_look {w : World} {b : Nat} {ss : List ByteArray} (h : CntAt w b ss) (z : ByteArray) (hz : z.size ≤ 9223372036854775807) :
    (Instr.lookup 84 (.map (some b)) (.string z) false).run Tryz.prog w = .ok (.int .i64 (countS z ss : Nat)) w := by
  obtain ⟨D, h1, h2, -⟩ := h
  obtain ⟨c, hrun, hc, -⟩ := h1.lookup_int (t := 84) (e := 3) (q := .i64) (Maps.string_keyed Tryz.underlying9) Tryz.underlying84 Tryz.underlying3 (Tryz.zeroValue3 w) (key := .string z) (WideMaps.keyOf_string_mk Tryz.underlying9 (by unfold maxLen; omega))
  rw [h2 z] at hc
  injection hc with hc
  injection hc with _ hc
  rw [hrun, ← hc]
theorem cnt_len {w : World} {b : Nat} {ss : List ByteArray} (h : CntAt w b ss) (ty : TypeId) : (Builtin.len_ #[84] ty #[.map (some b)]).run Tryz.prog w = .ok (.int .i64 ((freshS ss).length : Nat)) w := by
  obtain ⟨D, h1, -, -, h4⟩ := h
  rw [h1.len Tryz.underlying84 ty, h4]
theorem wpList_cnt {w : World} {ops : Array Oper} {rest : List Oper} {o : Oper} {a : Act} {Q : Exit → Act → World → Prop} (hg : o.guard = none) (m x v : Operand) (hop : o.op = Op.mapUpdate 84 m x v) {b : Nat} {ss : List ByteArray} {z : ByteArray}
    (hm : a.eval m = .map (some b)) (h : CntAt w b ss) (hn : ss.length ≤ 4000000000000000000) (hx : a.eval x = .string z) (hz : z.size ≤ 9223372036854775807) (hv : a.eval v = .int .i64 ((countS z ss : Nat) + 1))
    (hk : ∀ w', CntAt w' b (ss ++ [z]) → w.grownBy w' (some b) → wpList Tryz.prog ops Q rest (a.put o.dst undef) w') : wpList Tryz.prog ops Q (o :: rest) a w := by
  obtain ⟨D, h1, h2, h3, h4⟩ := h
  have hcl := countS_le z ss
  have hT := h1.tidy (Maps.string_keyed Tryz.underlying9)
  refine wpList_mapUpdate_own w hg m x v 84 hop 9 3 (Maps.string_keyed Tryz.underlying9) Tryz.underlying84 _ b ss.length D hm h1 (by unfold maxLen; omega) (.string z) (.int .i64 ((countS z ss : Nat) + 1)) (.string z.data.toList) hx hv (WideMaps.keyOf_string_mk Tryz.underlying9 (by unfold maxLen; omega)) (.lit (.int .i64 ((countS z ss : Nat) + 1))) [] (plainElem_int Tryz.underlying3 (WalkArith.wf_i64 (by omega))) fun w' h5 h6 => hk w' ⟨_, by rw [List.length_append]; exact h5, fun y => ?_, fun y => ?_, ?_⟩ h6
  · rw [countS_snoc]
    by_cases e : z = y
    · subst e
      rw [Maps.atKey_put_same h1.isMap (show WideAt.IsKeyLit (.string z.data.toList) from trivial), if_pos rfl]; rfl
    · rw [Maps.atKey_put_other (fun h => e (met_inj (by injection h with h; exact h.symm))), h2 y, if_neg e]; rfl
  · by_cases e : y = z
    · subst e
      rw [Maps.has_put_same h1.isMap (show WideAt.IsKeyLit (.string y.data.toList) from trivial)]
      exact (decide_eq_true (idx_memS.2 (by simp))).symm
    · rw [Maps.has_put_other (fun h => e (met_inj (by injection h))), h3 y]
      exact decide_eq_decide.2 (by rw [idx_memS, idx_memS]; simp [e])
  · rw [Maps.size_put hT, h3 z, h4, freshS_snoc]
    by_cases e : z ∈ ss
    · rw [decide_eq_true (idx_memS.2 e), if_pos rfl, if_pos (idx_memS.2 ((mem_fresh _ _).2 e))]
    · rw [decide_eq_false (fun h => e (idx_memS.1 h)), if_neg (by simp), if_neg (fun h => e ((mem_fresh _ _).1 (idx_memS.1 h)))]; simp
end Go.Proofs.YthejgholpkeldaaGreatDoor

namespace Go.Proofs.YthejgholpkeldaaGreatDoor
open Go.RowKit
set_option maxRecDepth 100000

theorem studs_take {l : List Req} {j : Nat} {x : Req} (hx : l[j]? = some x) : (studs l).take (j + 1) = (studs l).take j ++ [x.1] := by
  have e : (studs l)[j]? = some x.1 := by unfold studs; rw [List.getElem?_map, hx]; rfl
  rw [List.take_add_one, e]; rfl
def StudsGives (l : List Req) (w : World) (e : Ending) (w' : World) : Prop := ∃ b, e = .returned (.map (some b)) ∧ w.heap.size ≤ b ∧ CntAt w' b (studs l) ∧ Below w.heap.size w w'
set_option maxHeartbeats 4000000 in
theorem students_walk (A : Option Addr) (l : List Req) (c : Nat) (w : World) (hn : l.length ≤ 4000000000000000000) (hz : ∀ x ∈ l, x.1.size ≤ 9223372036854775807) (h : At kReq AnyB w A l) :
    Calls Tryz.prog 41 #[.slice A l.length c] w fun e w' => StudsGives l w e w' := by
  obtain ⟨N, hN⟩ : ∃ N, l.length = N := ⟨_, rfl⟩
  have hsl : Hid ((studs l).length = N) := hide (by rw [← hN]; exact List.length_map _)
  rw [hN] at hn ⊢
  replace hN := hide hN
  replace hz := hide hz
  have hmm := @run_makeMap Tryz.prog
  go_enter Tryz.func41, Tryz.ntmps41
  go_wp2
  have hm0 := cnt_made w
  have hb0 : Below w.heap.size w (w.alloc (.map #[] 0)) := ext_alloc (Below.refl _ _) _
  clear hmm
  go_loopw [9] (fun i wr => ∃ j : Nat, j ≤ N ∧ i = .int .i64 j ∧ CntAt wr w.heap.size ((studs l).take j) ∧ Below w.heap.size w wr) (fun i _ => N - (intOf i).toNat)
  case atStart => exact ⟨0, Nat.zero_le _, rfl, hm0, hb0⟩
  case round =>
    clear hm0 hb0
    obtain ⟨j, hj, rfl, hmet, hb⟩ := hrel
    by_cases hlt : j < N
    · obtain ⟨x, hx⟩ : ∃ x, l[j]? = some x := ⟨_, List.getElem?_eq_getElem (by rw [hN.out]; exact hlt)⟩
      have hxz := hz.out x (List.mem_of_getElem? hx)
      have hsn := studs_take hx
      obtain ⟨rb, off, F, cF, rfl, -, hrb, ⟨q0, q1, q2, q3⟩, -, -⟩ := (h.later hb).req hx
      obtain ⟨z, co, m, ts⟩ := x
      dsimp only at q0 q1 q2 q3 hsn hxz
      obtain ⟨nt, hnt⟩ : ∃ nt, ts.length = nt := ⟨_, rfl⟩
      rw [hnt] at q3
      have hj0 : (0 : Int) ≤ (j : Int) := by omega
      have hj1 : (j : Int) < (N : Int) := by omega
      have hb1 : Below wr.heap.size wr (wr.alloc (.cells #[.string z, .string co, .int .i64 m, .slice F nt cF] 53)) := ext_alloc (Below.refl _ _) _
      have hm1 := hmet.later hb1
      have hlk := cnt_look hm1 z hxz
      have hml : ((studs l).take j).length ≤ 4000000000000000000 := by rw [List.length_take, hsl.out]; omega
      have hcl := countS_le z ((studs l).take j)
      have hwc : IntKind.i64.wrap (((countS z ((studs l).take j) : Nat) : Int) + 1) = ((countS z ((studs l).take j) : Nat) : Int) + 1 := IntWalk.i64_in _ (by omega)
      have hbw := ext_trans hb hb1
      replace hsn := hide hsn
      obtain ⟨ss, hss⟩ : ∃ ss, (studs l).take j = ss := ⟨_, rfl⟩
      rw [hss] at hm1 hlk hml hcl hwc
      replace hss := hide hss
      clear hx hmet hnt hb1 hb hcl
      go_wp2_with (at_mapUpdate; refine wpList_cnt rfl _ _ _ rfl rfl hm1 hml rfl hxz rfl ?_; intro w10 hm10 hg10)
      have hb10 : Below w.heap.size w w10 := Below.grown hbw hg10 hbw.size (fun y e => by injection e with e; omega)
      rw [← hss.out, ← hsn.out] at hm10
      go_roundw
      case rel => exact ⟨j + 1, by omega, by go_num, hm10, hb10⟩
      case measure => first | (simp [intOf]; done) | (simp [intOf]; omega)
    · obtain rfl : j = N := by omega
      have hall : Hid ((studs l).take j = studs l) := hide (List.take_of_length_le (by rw [hsl.out]; exact Nat.le_refl _))
      rw [hall.out] at hmet
      go_wp2
      go_ret
      exact ⟨_, rfl, Nat.le_refl _, hmet, hb⟩
end Go.Proofs.YthejgholpkeldaaGreatDoor

namespace Go.Proofs.YthejgholpkeldaaGreatDoor
open Go.RowKit
set_option maxRecDepth 100000

theorem insE_next {co : ByteArray} {l : List ByteArray} {j : Nat} {y : ByteArray} (hy : l[j]? = some y) (h0 : insE co l j = 0) : insE co l (j + 1) = if codeB y = false then 10 else if y = co ∨ 0 ≤ idxS y (l.take j) then 11 else 0 := by
  rw [insE, if_neg (by rw [h0]; simp)]
  have : l.getD j ⟨#[]⟩ = y := by rw [List.getD_eq_getElem?_getD, hy]; rfl
  rw [this]
theorem toList_eqD (a b : ByteArray) : (a.toList == b.toList) = decide (a = b) := by
  by_cases e : a = b
  · subst e; simp
  · rw [decide_eq_false e]
    exact beq_false_of_ne fun h => e (met_inj (by rw [← toList_dataL, ← toList_dataL]; exact h))
set_option maxHeartbeats 8000000 in
theorem request_walk (z co : ByteArray) (m : Int) (F : Option Addr) (l : List ByteArray) (c : Nat) (w : World) (hl : l.length ≤ 9223372036854775807) (hlc : l.length ≤ c) (h : At kStr AnyB w F l) :
    Calls Tryz.prog 58 #[.agg #[.string z, .string co, .int .i64 m, .slice F l.length c]] w fun e w' => e = .returned (.int .i64 (reqEx (z, co, m, l) : Nat)) ∧ Below w.heap.size w w' := by
  obtain ⟨V, hV⟩ : ∃ V, reqEx (z, co, m, l) = V := ⟨_, rfl⟩
  rw [hV]
  unfold reqEx at hV
  dsimp only at hV
  have hbn : Below w.heap.size w (w.alloc (.cells #[.string z, .string co, .int .i64 m, .slice F l.length c] 53)) := ext_alloc (Below.refl _ _) _
  have q0 : (w.alloc (.cells #[.string z, .string co, .int .i64 m, .slice F l.length c] 53)).cell? ⟨w.heap.size, 0, none⟩ = some (.string z) := by simp
  have q1 : (w.alloc (.cells #[.string z, .string co, .int .i64 m, .slice F l.length c] 53)).cell? ⟨w.heap.size, 1, none⟩ = some (.string co) := by simp
  have q2 : (w.alloc (.cells #[.string z, .string co, .int .i64 m, .slice F l.length c] 53)).cell? ⟨w.heap.size, 2, none⟩ = some (.int .i64 m) := by simp
  have q3 : (w.alloc (.cells #[.string z, .string co, .int .i64 m, .slice F l.length c] 53)).cell? ⟨w.heap.size, 3, none⟩ = some (.slice F l.length c) := by simp
  have hF := h.later hbn
  obtain ⟨M, hM⟩ : ∃ M, l.length = M := ⟨_, rfl⟩
  rw [hM] at hl hlc hbn q0 q1 q2 q3 hF hV ⊢
  clear h
  obtain ⟨W, hW⟩ : ∃ W, w.alloc (.cells #[.string z, .string co, .int .i64 m, .slice F M c] 53) = W := ⟨_, rfl⟩
  obtain ⟨x, hx⟩ : ∃ x, w.heap.size = x := ⟨_, rfl⟩
  rw [hW] at hbn q0 q1 q2 q3 hF
  rw [hx] at q0 q1 q2 q3
  have hxl := World.block_lt_of_cell? _ _ q0
  have hcz := hide (fun (U : World) => cvalid_walk z U)
  have hcc := hide (fun (U : World) => cvalid_walk co U)
  replace hM := hide hM
  replace hW := hide hW
  replace hx := hide hx
  go_enter Tryz.func58, Tryz.ntmps58
  go_upto_region 1 with fail
  rw [hW.out, hx.out]
  cases hv : codeB z with
  | false =>
    rw [if_pos hv] at hV
    rw [hv] at hcz
    subst hV
    clear hF hv hcc
    go_wp2_with (go_at_call 84; refine (hcz.out _).mono ?_; rintro e w4 ⟨rfl, rfl⟩)
    go_ret
    exact ⟨rfl, hbn⟩
  | true =>
    rw [if_neg (by rw [hv]; simp)] at hV
    rw [hv] at hcz
    cases hv2 : codeB co with
    | false =>
      rw [if_pos hv2] at hV
      rw [hv2] at hcc
      subst hV
      clear hF hv hv2
      go_wp2_with (first | (go_at_call 84; with_reducible refine (hcz.out _).mono ?_; rintro e w4 ⟨rfl, rfl⟩) | (go_at_call 84; with_reducible refine (hcc.out _).mono ?_; rintro e w4 ⟨rfl, rfl⟩))
      go_ret
      exact ⟨rfl, hbn⟩
    | true =>
      rw [if_neg (by rw [hv2]; simp)] at hV
      rw [hv2] at hcc
      clear hv hv2
      go_upto_region 3 with (first | (go_at_call 84; with_reducible refine (hcz.out _).mono ?_; rintro e w4 ⟨rfl, rfl⟩) | (go_at_call 84; with_reducible refine (hcc.out _).mono ?_; rintro e w4 ⟨rfl, rfl⟩))
      clear hcz hcc q0
      by_cases h1 : m < 1
      · rw [if_pos h1] at hV
        subst hV
        clear hF
        go_wp2_with fail
        go_ret
        exact ⟨rfl, hbn⟩
      · rw [if_neg h1] at hV
        by_cases h9 : 9 < m
        · rw [if_pos h9] at hV
          subst hV
          clear hF
          go_wp2_with fail
          go_ret
          exact ⟨rfl, hbn⟩
        · rw [if_neg h9] at hV
          go_upto_region 5 with fail
          clear q2 h1 h9
          by_cases h8 : 8 < M
          · rw [if_pos h8] at hV
            have h8i : (8 : Int) < (M : Int) := by omega
            subst hV
            clear hF
            go_wp2_with fail
            go_ret
            exact ⟨rfl, hbn⟩
          · rw [if_neg h8] at hV
            have h8i : ¬ (8 : Int) < (M : Int) := by omega
            replace hV := hide hV
            go_wp2_with fail
            go_loop [33] (fun v => ∃ j : Nat, j ≤ M ∧ v = .int .i64 j ∧ Hid (insE co l j = 0)) (fun v => M - (intOf v).toNat)
            case atStart => exact ⟨0, Nat.zero_le _, rfl, hide rfl⟩
            case round =>
              obtain ⟨j, hj, rfl, hoj⟩ := hrel
              by_cases hjl : j < M
              · obtain ⟨y, hy⟩ : ∃ y, l[j]? = some y := ⟨_, List.getElem?_eq_getElem (by rw [hM.out]; exact hjl)⟩
                obtain ⟨fb, fo, rfl, -, hfb, ky⟩ := hF.str hy
                have hj0 : (0 : Int) ≤ (j : Int) := by omega
                have hj1 : (j : Int) < (M : Int) := by omega
                have hjc : (j : Int) ≤ (c : Int) := by omega
                have hcy := hide (fun (U : World) => cvalid_walk y U)
                have hEj := insE_next hy hoj.out
                have hcon := scontains_walk (some ⟨fb, fo, none⟩) (l.take j) c y W (by rw [List.length_take]; omega) hF.take.any
                rw [List.length_take, hM.out, Nat.min_eq_left hj] at hcon
                have hhit : ∀ e, e ≠ 0 → insE co l (j + 1) = e → Hid (V = e) := fun e he h2 => hide (by rw [← hV.out, insE_hit (by rw [h2]; exact he) M hjl, h2])
                have heq := toList_eqD y co
                cases hvy : codeB y with
                | false =>
                  have hend := hhit 10 (by decide) (by rw [hEj, hvy]; rfl)
                  rw [hvy] at hcy
                  clear hhit hEj hvy hcon hy hF heq
                  go_wp2_with (go_at_call 84; refine (hcy.out _).mono ?_; rintro e w4 ⟨rfl, rfl⟩)
                  go_ret
                  exact ⟨by rw [hend.out]; rfl, hbn⟩
                | true =>
                  rw [hvy] at hcy hEj
                  rw [if_neg (by simp)] at hEj
                  by_cases hyc : y = co
                  · have hend := hhit 11 (by decide) (by rw [hEj, if_pos (Or.inl hyc)])
                    rw [decide_eq_true hyc] at heq
                    clear hhit hEj hvy hcon hy hF hyc
                    go_wp2_with (go_at_call 84; refine (hcy.out _).mono ?_; rintro e w4 ⟨rfl, rfl⟩)
                    go_ret
                    exact ⟨by rw [hend.out]; rfl, hbn⟩
                  · rw [decide_eq_false hyc] at heq
                    cases hd : decide (0 ≤ idxS y (l.take j)) with
                    | true =>
                      have hend := hhit 11 (by decide) (by rw [hEj, if_pos (Or.inr (of_decide_eq_true hd))])
                      rw [hd] at hcon
                      clear hhit hEj hvy hy hF hyc hd
                      go_wp2_with (first | (go_at_call 84; refine (hcy.out _).mono ?_; rintro e w4 ⟨rfl, rfl⟩) | (go_at_call 67; refine hcon.mono ?_; rintro e w4 ⟨rfl, rfl⟩))
                      go_ret
                      exact ⟨by rw [hend.out]; rfl, hbn⟩
                    | false =>
                      have hnx : Hid (insE co l (j + 1) = 0) := hide (by rw [hEj, if_neg (fun h => h.elim hyc (of_decide_eq_false hd))])
                      rw [hd] at hcon
                      clear hhit hEj hvy hy hF hyc hd
                      go_wp2_with (first | (go_at_call 84; refine (hcy.out _).mono ?_; rintro e w4 ⟨rfl, rfl⟩) | (go_at_call 67; refine hcon.mono ?_; rintro e w4 ⟨rfl, rfl⟩))
                      go_round
                      case rel => exact ⟨j + 1, by omega, by go_num, hnx⟩
                      case measure => simp [intOf]; omega
              · obtain rfl : j = M := by omega
                have hVV : Hid (V = 0) := hide (by rw [← hV.out]; exact hoj.out)
                clear hF
                go_wp2_with fail
                go_ret
                exact ⟨by rw [hVV.out]; rfl, hbn⟩
/-- The requests' lists and texts are no longer than they can be. -/
def ReqShort (l : List Req) : Prop := ∀ x ∈ l, x.1.size ≤ 9223372036854775807 ∧ x.2.2.2.length ≤ 9223372036854775807
set_option maxHeartbeats 8000000 in
theorem qval_walk (A : Option Addr) (l : List Req) (c : Nat) (w : World) (hlc : l.length ≤ c) (hc : l.length ≤ 9223372036854775807) (hm : ReqShort l) (h : At kReq AnyB w A l) :
    Calls Tryz.prog 32 #[.slice A l.length c] w fun e w' => e = .returned (.int .i64 (validQ l : Nat)) ∧ Below w.heap.size w w' := by
  obtain ⟨N, hN⟩ : ∃ N, l.length = N := ⟨_, rfl⟩
  obtain ⟨V, hV⟩ : ∃ V, validQ l = V := ⟨_, rfl⟩
  have hsl : Hid ((studs l).length = N) := hide (by rw [← hN]; exact List.length_map _)
  rw [hV]
  unfold validQ at hV
  rw [hN] at hlc hc hV ⊢
  by_cases h4 : 400 < N
  · rw [if_pos h4] at hV
    subst hV
    have h4i : (400 : Int) < (N : Int) := by omega
    clear h hm hN hsl h4
    go_enter Tryz.func32, Tryz.ntmps32
    go_wp2_with fail
    go_ret
    exact ⟨rfl, Below.refl _ _⟩
  · rw [if_neg h4] at hV
    have h4i : ¬ (400 : Int) < (N : Int) := by omega
    have hN4 : N ≤ 400 := by omega
    have hb0 : Below w.heap.size w (w.alloc (.map #[] 0)) := ext_alloc (Below.refl _ _) _
    have hm0 := cnt_made w
    have hmm := @run_makeMap Tryz.prog
    have hL := h.lo
    obtain ⟨W, hW⟩ : ∃ W, w.alloc (.map #[] 0) = W := ⟨_, rfl⟩
    obtain ⟨mb, hmb⟩ : ∃ mb, w.heap.size = mb := ⟨_, rfl⟩
    rw [hW, hmb] at hm0
    rw [hW] at hb0
    have hmW := hm0.lt
    have hWz : W.heap.size = mb + 1 := by rw [← hW, World.size_alloc, hmb]
    replace hV := hide hV
    replace hN := hide hN
    replace hm := hide hm
    replace hW := hide hW
    replace hmb := hide hmb
    clear h h4
    go_enter Tryz.func32, Tryz.ntmps32
    go_upto_region 4 with fail
    rw [hW.out, hmb.out]
    clear hmm
    go_wp2_with fail
    go_loopw [13] (fun v wr => ∃ i : Nat, i ≤ N ∧ v = .int .i64 i ∧ Hid (reqErr l i = 0) ∧ CntAt wr mb ((studs l).take i) ∧ Below mb W wr) (fun v _ => N - (intOf v).toNat)
    case atStart => exact ⟨0, Nat.zero_le _, rfl, hide rfl, hm0, Below.refl _ _⟩
    case round =>
      obtain ⟨i, hi, rfl, ho, hcn, hbr⟩ := hrel
      have hbw : Below w.heap.size w wr := hb0.trans (by rw [hmb.out]; exact hbr)
      by_cases hlt : i < N
      · obtain ⟨x0, hx0⟩ : ∃ x, l[i]? = some x := ⟨_, List.getElem?_eq_getElem (by rw [hN.out]; exact hlt)⟩
        have hat := hL.below hbw
        obtain ⟨kb, off, F, c3, rfl, hkb', hkb, ⟨q0, q1, q2, q3⟩, l3, a3⟩ := hat.req hx0
        obtain ⟨m1, m3⟩ := hm.out x0 (List.mem_of_getElem? hx0)
        have hsn := studs_take hx0
        obtain ⟨z, co, m, ts⟩ := x0
        dsimp only at q0 q1 q2 q3 l3 a3 m1 m3 hsn
        obtain ⟨nt, hnt⟩ : ∃ nt, ts.length = nt := ⟨_, rfl⟩
        have hbn : Below wr.heap.size wr (wr.alloc (.cells #[.string z, .string co, .int .i64 m, .slice F ts.length c3] 53)) := ext_alloc (Below.refl _ _) _
        have hreq := request_walk z co m F ts c3 (wr.alloc (.cells #[.string z, .string co, .int .i64 m, .slice F ts.length c3] 53)) m3 l3 (a3.any.later hbn)
        have y0 : (wr.alloc (.cells #[.string z, .string co, .int .i64 m, .slice F ts.length c3] 53)).cell? ⟨wr.heap.size, 0, none⟩ = some (.string z) := by simp
        have y1 : (wr.alloc (.cells #[.string z, .string co, .int .i64 m, .slice F ts.length c3] 53)).cell? ⟨wr.heap.size, 1, none⟩ = some (.string co) := by simp
        have y2 : (wr.alloc (.cells #[.string z, .string co, .int .i64 m, .slice F ts.length c3] 53)).cell? ⟨wr.heap.size, 2, none⟩ = some (.int .i64 m) := by simp
        have y3 : (wr.alloc (.cells #[.string z, .string co, .int .i64 m, .slice F ts.length c3] 53)).cell? ⟨wr.heap.size, 3, none⟩ = some (.slice F ts.length c3) := by simp
        have hcn5 := hcn.later hbn
        rw [hnt] at q3 hbn hreq y0 y1 y2 y3 hcn5
        obtain ⟨ce, hce⟩ : ∃ ce, reqEx (z, co, m, ts) = ce := ⟨_, rfl⟩
        rw [hce] at hreq
        have hi0 : (0 : Int) ≤ (i : Int) := by omega
        have hi1 : (i : Int) < (N : Int) := by omega
        have hbw5 := ext_trans hbw hbn
        have hbr5 : Below mb W (wr.alloc (.cells #[.string z, .string co, .int .i64 m, .slice F nt c3] 53)) := hbr.trans (hbn.mono (Nat.le_trans (Nat.le_of_lt hmW) hbr.size))
        have hxm : mb < wr.heap.size := Nat.lt_of_lt_of_le hmW hbr.size
        clear hat a3 hbn l3 m3 hcn
        go_upto_region 7 with fail
        clear q0 q1 q2 q3
        obtain ⟨x, hxx⟩ : ∃ x, wr.heap.size = x := ⟨_, rfl⟩
        obtain ⟨W5, hW5⟩ : ∃ W5, wr.alloc (.cells #[.string z, .string co, .int .i64 m, .slice F nt c3] 53) = W5 := ⟨_, rfl⟩
        rw [hxx] at y0 y1 y2 y3 hxm hkb ⊢
        rw [hW5] at y0 y1 y2 y3 hreq hcn5 hbw5 hbr5 ⊢
        replace hxx := hide hxx
        replace hW5 := hide hW5
        have hxl := World.block_lt_of_cell? _ _ y0
        by_cases hce0 : ce = 0
        · subst hce0
          go_wp2_with fail
          refine hreq.mono ?_
          clear hreq
          rintro e w6 ⟨rfl, hb6⟩
          replace y0 := cell_later hb6 y0
          replace y1 := cell_later hb6 y1
          replace y2 := cell_later hb6 y2
          replace y3 := cell_later hb6 y3
          have hcn6 := hcn5.later hb6
          have hbw6 := ext_trans hbw5 hb6
          have hbr6 : Below mb W w6 := hbr5.trans (hb6.mono (by omega))
          have hxl6 := World.block_lt_of_cell? _ _ y0
          have hlk := cnt_look hcn6 z m1
          have hml : ((studs l).take i).length ≤ 4000000000000000000 := by rw [List.length_take, hsl.out]; omega
          have hcl := countS_le z ((studs l).take i)
          have hwc : IntKind.i64.wrap (((countS z ((studs l).take i) : Nat) : Int) + 1) = ((countS z ((studs l).take i) : Nat) : Int) + 1 := IntWalk.i64_in _ (by omega)
          have hsn' : Hid ((studs l).take (i + 1) = (studs l).take i ++ [z]) := hide hsn
          obtain ⟨ss, hss⟩ : ∃ ss, (studs l).take i = ss := ⟨_, rfl⟩
          rw [hss] at hcn6 hlk hml hcl hwc hsn'
          have hmx : mb ≠ x := by omega
          clear hcn5 hbw5 hbr5 hb6 hsn hcl
          go_upto_region 11 with (at_mapUpdate; refine wpList_cnt rfl _ _ _ rfl rfl hcn6 hml rfl m1 rfl ?_; intro w10 hm10 hg10)
          have hb10 : Below w.heap.size w w10 := Below.grown hbw6 hg10 hbw6.size (fun y e => by injection e with e; rw [hmb.out]; omega)
          have hbr10 : Below mb W w10 := Below.grown hbr6 hg10 (by omega) (fun y e => by injection e with e; omega)
          replace y0 := hg10.cell y0 (fun e => hmx (by injection e with e; exact e.symm))
          replace y1 := hg10.cell y1 (fun e => hmx (by injection e with e; exact e.symm))
          replace y2 := hg10.cell y2 (fun e => hmx (by injection e with e; exact e.symm))
          replace y3 := hg10.cell y3 (fun e => hmx (by injection e with e; exact e.symm))
          have hlen10 := hg10.size
          have hx10 := World.block_lt_of_cell? _ _ y0
          rw [← hsn'.out] at hm10
          have hE : reqE (z, co, m, ts) (l.take i) = if hasQ (l.take i) z co = true then 11 else if 64 < (freshS ((studs l).take (i + 1))).length then 2 else 0 := by
            unfold reqE
            rw [hce, if_neg (by simp)]
            have : studs (l.take i ++ [(z, co, m, ts)]) = (studs l).take (i + 1) := by rw [studs_snoc, hsn'.out, ← hss]; unfold studs; rw [List.map_take]
            rw [this]
          clear hlk hwc hml hcn6 hbw6 hbr6 hg10 hss hce
          have hat10 := hL.below hb10
          have hic : (i : Int) ≤ (c : Int) := by omega
          have hlt2 : (l.take i).length = i := by rw [List.length_take, hN.out]; omega
          obtain ⟨dd, hd⟩ : ∃ dd, hasQ (l.take i) z co = dd := ⟨_, rfl⟩
          rw [hd] at hE
          have hcall := hide (fun (v : Later w10) => calls_later (v := .bool dd) (n := v) (by
            have := qhas_walk (some ⟨kb, off, none⟩) (l.take i) c z co m F nt c3 v.val (by rw [hlt2]; omega) ((hat10.any.take).later v.keeps)
            rw [hlt2, hd] at this
            exact this))
          have g0 : ∀ v : Later w10, v.val.cell? ⟨x, 0, none⟩ = some (.string z) := fun v => cell_later v.keeps y0
          have g1 : ∀ v : Later w10, v.val.cell? ⟨x, 1, none⟩ = some (.string co) := fun v => cell_later v.keeps y1
          have g2 : ∀ v : Later w10, v.val.cell? ⟨x, 2, none⟩ = some (.int .i64 m) := fun v => cell_later v.keeps y2
          have g3 : ∀ v : Later w10, v.val.cell? ⟨x, 3, none⟩ = some (.slice F nt c3) := fun v => cell_later v.keeps y3
          have hany := later_any w10
          clear hat10 hlt2 hd y0 y1 y2 y3
          go_frame
          refine wp_region_later (by kernel_rfl) (by kernel_rfl) ?_
          repeat (go_big_quiet_step ((go_at_call 59; with_reducible exact hcall.out _)))
          refine wpQuiet_nil ?_
          clear hcall g0 g1 g2 g3 hany
          rintro _ ⟨n8, rfl⟩
          have hb8 := n8.keeps
          generalize n8.val = w8 at *
          have hbw8 := ext_trans hb10 hb8
          have hbr8 : Below mb W w8 := hbr10.trans (hb8.mono (by omega))
          have hm8 := hm10.later hb8
          clear hb10 hbr10 hb8 hm10
          cases dd with
          | true =>
            have hend : Hid (V = 11) := hide (by
              rw [← hV.out]
              exact req_end hx0 ho.out (by rw [hE]; rfl) (by decide) hlt)
            clear hx0 hE ho
            go_wp2_with fail
            go_ret
            exact ⟨by rw [hend.out]; rfl, hbw8⟩
          | false =>
            rw [if_neg (by simp)] at hE
            obtain ⟨q, hq⟩ : ∃ q, (freshS ((studs l).take (i + 1))).length = q := ⟨_, rfl⟩
            rw [hq] at hE
            have hlen : ∀ ty, (Builtin.len_ #[84] ty #[.map (some mb)]).run Tryz.prog w8 = .ok (.int .i64 (q : Nat)) w8 := fun ty => by have := cnt_len hm8 ty; rw [hq] at this; exact this
            clear hq
            by_cases h64 : 64 < q
            · have h64i : (64 : Int) < (q : Int) := by omega
              have hend : Hid (V = 2) := hide (by
                rw [← hV.out]
                exact req_end hx0 ho.out (by rw [hE, if_pos h64]) (by decide) hlt)
              clear hx0 hE ho hm8
              go_wp2_with fail
              go_ret
              exact ⟨by rw [hend.out]; rfl, hbw8⟩
            · have h64i : ¬ (64 : Int) < (q : Int) := by omega
              have hnx : Hid (reqErr l (i + 1) = 0) := hide (req_on hx0 ho.out (by rw [hE, if_neg h64]))
              clear hx0 hE ho
              go_wp2_with fail
              go_roundw
              case rel => exact ⟨i + 1, by omega, by go_num, hnx, hm8, hbr8⟩
              case measure => first | (simp [intOf]; done) | (simp [intOf]; omega)
        · have hend : Hid (V = ce) := hide (by
            rw [← hV.out]
            exact req_end hx0 ho.out (by unfold reqE; rw [hce, if_pos hce0]) hce0 hlt)
          have hci : ¬ (ce : Int) = 0 := by omega
          clear hx0 hce ho hce0 hcn5
          go_wp2_with fail
          refine hreq.mono ?_
          clear hreq
          rintro e w6 ⟨rfl, hb6⟩
          have hbw6 := ext_trans hbw5 hb6
          clear y0 y1 y2 y3 hbw5 hbr5 hb6
          go_wp2_with fail
          go_ret
          exact ⟨by rw [hend.out]; rfl, hbw6⟩
      · obtain rfl : i = N := by omega
        have hVV : Hid (V = 0) := hide (by rw [← hV.out]; exact ho.out)
        have hii : ¬ (i : Int) < (i : Int) := by omega
        clear hL hcn
        go_wp2_with fail
        go_ret
        exact ⟨by rw [hVV.out]; rfl, hbw⟩
end Go.Proofs.YthejgholpkeldaaGreatDoor

namespace Go.Proofs.YthejgholpkeldaaGreatDoor
open Go.RowKit
set_option maxRecDepth 100000

/-- The record of a request. -/
def rowQ (x : Req) : List ByteArray := [x.1, x.2.1, decB x.2.2.1.toNat, (joinV x.2.2.2).2]
def rowsQ (l : List Req) : List (List ByteArray) := if validQ l = 0 then l.map rowQ else []
def QWriteIs (l : List Req) (w : World) (e : Ending) (w' : World) : Prop :=
  ∃ v, e = .returned (.tuple #[v, .int .i64 (validQ l : Nat)]) ∧ Own (kSlice kStr) 41 [9] 0 w.heap.size w' v (rowsQ l) ∧ Below w.heap.size w w'
theorem reqEx_parts {x : Req} (h : reqEx x = 0) : codeB x.1 = true ∧ codeB x.2.1 = true ∧ 1 ≤ x.2.2.1 ∧ x.2.2.1 ≤ 9 ∧ x.2.2.2.length ≤ 8 ∧ insE x.2.1 x.2.2.2 x.2.2.2.length = 0 := by
  unfold reqEx at h
  repeat' split at h
  all_goals first | omega | skip
  refine ⟨by simp_all, by simp_all, by omega, by omega, by omega, h⟩
theorem reqE_parts {x : Req} {prev : List Req} (h : reqE x prev = 0) : reqEx x = 0 ∧ hasQ prev x.1 x.2.1 = false ∧ (freshS (studs (prev ++ [x]))).length ≤ 64 := by
  unfold reqE at h
  split at h
  · omega
  · split at h
    · omega
    · split at h
      · omega
      · rename_i h1 h2 h3
        exact ⟨by omega, by cases hh : hasQ prev x.1 x.2.1 with | false => rfl | true => exact absurd hh h2, by omega⟩
theorem reqErr_all {l : List Req} {N : Nat} (h : reqErr l N = 0) : ∀ j, j < N → reqEi l j = 0 := by
  intro j
  induction N with
  | zero => intro hj; omega
  | succ N ih =>
    intro hj
    by_cases h0 : reqErr l N = 0
    · rw [reqErr, if_neg (by rw [h0]; simp)] at h
      by_cases e : j = N
      · rw [e]; exact h
      · exact ih h0 (by omega)
    · rw [reqErr, if_pos h0] at h
      exact absurd h h0
theorem validQ_parts {l : List Req} (h : validQ l = 0) : l.length ≤ 400 ∧ ∀ (j : Nat) (x : Req), l[j]? = some x → reqE x (l.take j) = 0 := by
  unfold validQ at h
  by_cases h4 : 400 < l.length
  · rw [if_pos h4] at h; omega
  · rw [if_neg h4] at h
    refine ⟨by omega, fun j x hx => ?_⟩
    have hj := (List.getElem?_eq_some_iff.1 hx).1
    have := reqErr_all h j hj
    unfold reqEi at this
    rw [hx] at this
    exact this
set_option maxHeartbeats 8000000 in
theorem qWrite_walk (A : Option Addr) (l : List Req) (cap : Nat) (w : World) (hS : Std w) (hlc : l.length ≤ cap) (hc : l.length ≤ 9223372036854775807) (hm : ReqShort l) (hL : At kReq AnyB w A l) :
    Calls Tryz.prog 18 #[.slice A l.length cap] w fun e w' => QWriteIs l w e w' := by
  have hval := qval_walk A l cap w hlc hc hm hL
  by_cases hv : validQ l = 0
  · obtain ⟨h16, hpart⟩ := validQ_parts hv
    have hr : Hid (rowsQ l = l.map rowQ) := hide (if_pos hv)
    obtain ⟨N, hN⟩ : ∃ N, l.length = N := ⟨_, rfl⟩
    rw [hv] at hval
    rw [hN] at hval h16 hlc hc ⊢
    replace hN := hide hN
    replace hpart := hide hpart
    replace hv := hide hv
    clear hm
    go_enter Tryz.func18, Tryz.ntmps18
    go_wp2_with fail
    refine hval.mono ?_
    rintro e w1 ⟨rfl, hbw⟩
    have hL1 := hL.later hbw
    have hS1 := hS.after hbw
    clear hval hL
    go_wp2_with fail
    go_loopw [5, 15] (fun v i wr => ∃ j : Nat, j ≤ N ∧ i = .int .i64 j ∧ Own (kSlice kStr) 41 [9] 0 w1.heap.size wr v ((l.take j).map rowQ) ∧ Below w1.heap.size w1 wr) (fun _ i _ => N - (intOf i).toNat)
    case atStart => exact ⟨0, Nat.zero_le _, rfl, Own.nil, Below.refl _ _⟩
    case round =>
      obtain ⟨j, hj, rfl, hown, hb⟩ := hrel
      by_cases hlt : j < N
      · obtain ⟨x, hx⟩ : ∃ x, l[j]? = some x := ⟨_, List.getElem?_eq_getElem (by rw [hN.out]; exact hlt)⟩
        obtain ⟨-, -, hs1, hs2, hf8, -⟩ := reqEx_parts (reqE_parts (hpart.out j x hx)).1
        obtain ⟨rb, off, A3, c3, rfl, -, hrb, ⟨q0, q1, q2, q3⟩, l3, a3⟩ := (hL1.later hb).req hx
        have hsn : Hid ((l.take (j + 1)).map rowQ = (l.take j).map rowQ ++ [rowQ x]) := by
          refine hide ?_
          rw [List.take_add_one, hx]; simp
        have hl9 : ((l.take j).map rowQ).length ≤ 4000000000 := by rw [List.length_map, List.length_take]; omega
        obtain ⟨lists, hlists⟩ : ∃ lists, (l.take j).map rowQ = lists := ⟨_, rfl⟩
        rw [hlists] at hown hsn hl9
        obtain ⟨z, bl, sn, fs⟩ := x
        dsimp only at q0 q1 q2 q3 l3 a3 hs1 hs2 hf8
        have hz := hb.size
        have hu9 : Hid (∀ y, u5.ownBlock = some y → w1.heap.size ≤ y ∧ y < wr.heap.size) := hide hown.lt
        have hcI := fun (V : World) (hV : Below wr.heap.size wr V) => itoaD_walk sn (by omega) (by omega) V (hS1.after (ext_trans hb hV))
        have hcC := fun (V : World) (hV : Below wr.heap.size wr V) => fcodesU_walk A3 fs c3 V (hS1.after (ext_trans hb hV)) (a3.later hV).any (by omega) l3
        obtain ⟨dn, hdn⟩ : ∃ dn, decB sn.toNat = dn := ⟨_, rfl⟩
        obtain ⟨tf, htf⟩ : ∃ tf, (joinV fs).2 = tf := ⟨_, rfl⟩
        have hrow : Hid (rowQ (z, bl, sn, fs) = [z, bl, dn, tf]) := by rw [← hdn, ← htf]; exact hide rfl
        rw [hdn] at hcI
        rw [htf] at hcC
        obtain ⟨nf, hnf⟩ : ∃ nf, fs.length = nf := ⟨_, rfl⟩
        rw [hnf] at hcC q3
        replace hcI := hide hcI
        replace hcC := hide hcC
        have hxx : Below wr.heap.size wr (wr.alloc (.cells #[.string z, .string bl, .int .i64 sn, .slice A3 nf c3] 53)) := ext_alloc (Below.refl _ _) _
        have hC : Cn4 wr.heap.size 0 (.string z) wr.heap.size 1 (.string bl) wr.heap.size 2 (.int .i64 sn) wr.heap.size 3 (.slice A3 nf c3) (wr.alloc (.cells #[.string z, .string bl, .int .i64 sn, .slice A3 nf c3] 53)) := ⟨by simp, by simp, by simp, by simp⟩
        have hownx := hown.alloc (.cells #[.string z, .string bl, .int .i64 sn, .slice A3 nf c3] 53)
        have hj0 : (0 : Int) ≤ (j : Int) := by omega
        have hj1 : (j : Int) < (N : Int) := by omega
        clear hx hlists hown hdn htf hnf a3 l3
        go_upto_region 8 with fail
        obtain ⟨Wx, hWx⟩ : ∃ Wx, wr.alloc (.cells #[.string z, .string bl, .int .i64 sn, .slice A3 nf c3] 53) = Wx := ⟨_, rfl⟩
        obtain ⟨xb, hxb⟩ : ∃ xb, wr.heap.size = xb := ⟨_, rfl⟩
        have hxl : xb < Wx.heap.size := by rw [← hWx, World.size_alloc]; omega
        rw [hWx] at hC hownx hxx
        have hbx : Below w1.heap.size w1 Wx := ext_trans hb hxx
        have hI := hide (fun (V : World) (hV : Below Wx.heap.size Wx V) => (hcI.out V (ext_trans hxx hV)).mono fun _ _ ⟨he, hb⟩ => (⟨he, ext_trans hV hb, hC.later (ext_trans hV hb), hownx.later (ext_trans hV hb), ext_trans hbx (ext_trans hV hb)⟩ : _ = Ending.returned (.string dn) ∧ Below Wx.heap.size Wx _ ∧ Cn4 wr.heap.size 0 (.string z) wr.heap.size 1 (.string bl) wr.heap.size 2 (.int .i64 sn) wr.heap.size 3 (.slice A3 nf c3) _ ∧ Own (kSlice kStr) 41 [9] 0 w1.heap.size _ u5 lists ∧ Below w1.heap.size w1 _))
        have hF := hide (fun (V : World) (hV : Below Wx.heap.size Wx V) => (hcC.out V (ext_trans hxx hV)).mono fun _ _ ⟨he, hb⟩ => (⟨he, ext_trans hV hb, hC.later (ext_trans hV hb), hownx.later (ext_trans hV hb), ext_trans hbx (ext_trans hV hb)⟩ : _ = Ending.returned (.string tf) ∧ Below Wx.heap.size Wx _ ∧ Cn4 wr.heap.size 0 (.string z) wr.heap.size 1 (.string bl) wr.heap.size 2 (.int .i64 sn) wr.heap.size 3 (.slice A3 nf c3) _ ∧ Own (kSlice kStr) 41 [9] 0 w1.heap.size _ u5 lists ∧ Below w1.heap.size w1 _))
        rw [hxb] at hC hI hF hu9
        rw [hWx, hxb]
        have nx : Hid (some xb ≠ u5.ownBlock) := hide fun e => by have := (hu9.out xb e.symm).2; omega
        obtain ⟨p0, p1, p2, p3⟩ := id hC
        have hCd := hC.drew
        have hrefl := Below.refl Wx.heap.size Wx
        clear hcI hcC hWx hxb hxx q0 q1 q2 q3
        go_region_held3 (fun W' => W'.cell? ⟨xb, 0, none⟩ = some (.string z) ∧ W'.cell? ⟨xb, 1, none⟩ = some (.string bl) ∧ W'.cell? ⟨xb, 2, none⟩ = some (.int .i64 sn) ∧ W'.cell? ⟨xb, 3, none⟩ = some (.slice A3 nf c3)) (first | ((repeat (first | (with_reducible assumption) | (with_reducible refine Cn4.alloc ?_ _) | (with_reducible refine Cn4.drew ?_) | (with_reducible refine Cn4.set ?_ ?_ ?_ ?_ ?_ _) | omega)); done)) (first | (go_at_call 38; refine (hI.out _ (by repeat (first | (with_reducible assumption) | (with_reducible refine ext_alloc ?_ _) | (with_reducible refine ext_drew ?_)))).mono ?_; rintro e w2 ⟨rfl, hb2, hx2, ho2, hbw2⟩) | (go_at_call 39; refine (hF.out _ (by repeat (first | (with_reducible assumption) | (with_reducible refine ext_alloc ?_ _) | (with_reducible refine ext_drew ?_)))).mono ?_; rintro e w3 ⟨rfl, hb3, hx3, ho3, hbw3⟩) | (refine step_own (S := Cn4 xb 0 (.string z) xb 1 (.string bl) xb 2 (.int .i64 sn) xb 3 (.slice A3 nf c3)) (K := kSlice kStr) (t := 41) (ts := [9]) (B0 := 0) (B := w1.heap.size) (v := u5) (l := lists) rfl (.tmp 19) (.tmp 31) rfl apd_lists (by decide) (by rfl) (by repeat (first | (with_reducible assumption) | (with_reducible refine Own.alloc ?_ _) | (with_reducible refine Own.drew ?_))) hl9 (by decide) _ _ (by rfl) [z, bl, dn, tf] [.slice (some ⟨_, 0, none⟩) 4 4] (rep_lit_strs (cs := #[.string z, .string bl, .string dn, .string tf]) (t := 9) [z, bl, dn, tf] (by first | exact heap_alloc_new _ _ | exact block_after (heap_alloc_new _ _) | exact block_after (block_after (heap_alloc_new _ _))) rfl rfl (Below.size (w := w1) (by repeat (first | (with_reducible assumption) | (with_reducible refine ext_alloc ?_ _) | (with_reducible refine ext_drew ?_)))) (by decide)) (World.news_of_block (cs := #[.slice (some ⟨_, 0, none⟩) 4 4]) (t := 41) (fr := (0, 0)) (by first | exact heap_alloc_new _ _ | exact heap_new2 _ _ _)) (by decide) (Nat.zero_le _) (Below.size (w := w1) (by repeat (first | (with_reducible assumption) | (with_reducible refine ext_alloc ?_ _) | (with_reducible refine ext_drew ?_)))) (fun W' hg => Cn4.grown (by repeat (first | (with_reducible assumption) | (with_reducible refine Cn4.alloc ?_ _) | (with_reducible refine Cn4.drew ?_))) hg nx.out nx.out nx.out nx.out) ?_; intro gA capA w5 ho5 hg5 hs5))
        all_goals
          have hb5 : Below w1.heap.size w1 w5 := below_grown (by repeat (first | (with_reducible assumption) | (with_reducible refine ext_alloc ?_ _) | (with_reducible refine ext_drew ?_))) hg5 (fun y hy => (hu9.out y hy).1)
          clear hI hF hC hCd hrefl hg5 hs5
          go_wp2
          go_roundw
          case rel => exact ⟨j + 1, by omega, by go_num, by rw [hsn.out, hrow.out]; exact ho5, hb5⟩
          case measure => simp [intOf]; omega
      · obtain rfl : j = N := by omega
        have hall : Hid (l.take j = l) := hide (by rw [← hN.out]; exact List.take_length)
        rw [hall.out] at hown
        have hfin := hide (hown.lower hbw.size)
        have hbn := ext_trans hbw hb
        clear hall hown
        go_wp2
        go_ret2
        exact ⟨u5, by rw [hv.out]; rfl, by rw [hr.out]; exact hfin.out, hbn⟩
  · have hr : Hid (rowsQ l = []) := hide (if_neg hv)
    obtain ⟨V, hV⟩ : ∃ V, validQ l = V := ⟨_, rfl⟩
    rw [hV] at hval hv
    have hv2 : ((V : Int) != 0) = true := by simp; omega
    have hvi : ¬ (V : Int) = 0 := by omega
    replace hV := hide hV
    obtain ⟨N, hN⟩ : ∃ N, l.length = N := ⟨_, rfl⟩
    rw [hN] at hval ⊢
    clear hv hN hL hlc hc hm
    go_enter Tryz.func18, Tryz.ntmps18
    go_wp2_with fail
    refine hval.mono ?_
    rintro e w1 ⟨rfl, hb1⟩
    clear hval
    go_wp2
    go_ret2
    exact ⟨_, by rw [hV.out]; rfl, by rw [hr.out]; exact Own.nil, hb1⟩
end Go.Proofs.YthejgholpkeldaaGreatDoor

namespace Go.Proofs.YthejgholpkeldaaGreatDoor
open Go.RowKit
set_option maxRecDepth 100000

theorem Own.req_at {t : TypeId} {ts : List TypeId} {B0 B n c k : Nat} {w : World} {A : Option Addr} {ls : List Req} {l : Req} (h : Own kReq t ts B0 B w (.slice A n c) ls) (hk : ls[k]? = some l) :
    ∃ g F cF, A = some ⟨g, 0, none⟩ ∧ B ≤ g ∧ g < w.heap.size ∧ w.cell? ⟨g, k * 4, none⟩ = some (.string l.1) ∧ w.cell? ⟨g, k * 4 + 1, none⟩ = some (.string l.2.1) ∧ w.cell? ⟨g, k * 4 + 2, none⟩ = some (.int .i64 l.2.2.1) ∧ w.cell? ⟨g, k * 4 + 3, none⟩ = some (.slice F l.2.2.2.length cF) ∧ (∀ j, w.frozen? ⟨g, j, none⟩ = false) ∧ (kSlice kStr).rep (Ty ts B0 B w) w l.2.2.2 [.slice F l.2.2.2.length cF] := by
  obtain ⟨vss, e1, e2, e3⟩ := h
  have hkl := (List.getElem?_eq_some_iff.1 hk).1
  have hv : vss[k]? = some (vss[k]'(by omega)) := List.getElem?_eq_getElem (by omega)
  have hr := e3 k l _ hk hv
  obtain ⟨F, cF, hvs, h3⟩ := req_unrep hr
  have hall : ∀ vs ∈ vss, vs.length = 4 := by
    intro vs hvm
    obtain ⟨j, hj⟩ := List.getElem?_of_mem hvm
    have hjl := (List.getElem?_eq_some_iff.1 hj).1
    exact kReq.len (e3 j _ vs (List.getElem?_eq_getElem (by omega)) hj)
  rcases e2.2 with ⟨h4, h0⟩ | ⟨g, cap, cur, h4, hB, hg, _, _, _, htake⟩
  · injection h4; omega
  · injection h4 with h4 h5 h6
    subst h4
    have cc : ∀ i u, i < 4 → (vss[k]'(by omega))[i]? = some u → w.cell? ⟨g, k * 4 + i, none⟩ = some u := fun i u hi hu => by
      have := e2.cells (g := g) rfl (k * 4 + i) u ((flatten_at vss hall k i _ hv hi).trans hu)
      rw [show (⟨g, 0, none⟩ : Addr).add (k * 4 + i) = ⟨g, k * 4 + i, none⟩ from by rw [Addr.add_lit]; simp] at this
      exact this
    exact ⟨g, F, cF, rfl, hB, blk_lt hg, cc 0 _ (by omega) (by rw [hvs]; rfl), cc 1 _ (by omega) (by rw [hvs]; rfl), cc 2 _ (by omega) (by rw [hvs]; rfl), cc 3 _ (by omega) (by rw [hvs]; rfl), fun j => by simp [World.frozen?, hg], h3⟩
theorem Kind.tyM {α : Type} (K : Kind α) {ts : List TypeId} {B0 B : Nat} {w w' : World} {a : α} {vs : List Value} (h : K.rep (Ty ts B0 B w) w a vs) (hb : Below w.heap.size w w') : K.rep (Ty ts B0 B w') w' a vs :=
  K.kept h fun b hs hlt => ⟨by
    rcases hs with hs | ⟨hs, cs, t, hc, ht⟩
    · exact .inl hs
    · exact .inr ⟨hs, cs, t, (hb.block b hlt).trans hc, ht⟩, Nat.lt_of_lt_of_le hlt hb.size, hb.block b hlt⟩
theorem load4at (w : World) (g o : Nat) (a b c d : Value) (h0 : w.cell? ⟨g, o, none⟩ = some a) (h1 : w.cell? ⟨g, o + 1, none⟩ = some b) (h2 : w.cell? ⟨g, o + 2, none⟩ = some c) (h3 : w.cell? ⟨g, o + 3, none⟩ = some d) :
    (loadVar 53 ⟨g, o, none⟩).run Tryz.prog w = .ok (.agg #[a, b, c, d]) w := by
  simp [go_sem, h0, h1, h2, h3]
def ReqFew (l : Req) : Prop := l.1.size ≤ 100 ∧ l.2.2.2.length ≤ 1
def DOddQ (B C : Nat) (w : World) (g : Nat) (e : Ending) (w' : World) : Prop :=
  ∃ v ls', e = .returned v ∧ ls'.length ≤ 16 ∧ (∀ l ∈ ls', ReqFew l) ∧ Own kReq 53 [9] C C w' v ls' ∧ Thrown B w g w'
set_option maxHeartbeats 8000000 in
theorem oddReq_walk (B g : Nat) (A : Option Addr) (ls : List Req) (c : Nat) (w : World) (h : DiceOk B w g) (hl : ls.length ≤ 15) (hts : ∀ l ∈ ls, ReqFew l) (hat : At kReq (fun b => b ≠ g) w A ls) :
    Calls Tryz.prog 15 #[.pointer (some ⟨g, 0, none⟩), .slice A ls.length c] w fun e w' => DOddQ B w.heap.size w g e w' := by
  have hlt := h.lt
  obtain ⟨C, hC⟩ : ∃ C, w.heap.size = C := ⟨_, rfl⟩
  have hgC : g < C := by omega
  have hatC : At kReq (fun b => b ≠ g ∧ b < C) w A ls := hat.kept fun b h1 h2 => ⟨⟨h1, by omega⟩, h2, rfl⟩
  have hSg : ∀ x, (x ≠ g ∧ x < C) → x ≠ g := fun x h => h.1
  have hSC : ∀ x, (x ≠ g ∧ x < C) → x < C := fun x h => h.2
  replace hSg := hide hSg
  replace hSC := hide hSC
  replace hC := hide hC
  clear hat
  go_enter Tryz.func15, Tryz.ntmps15
  go_wp2_with (at_builtin; refine wpList_at_copy rfl _ _ rfl apd_reqs (by decide) rfl rfl rfl hatC (by omega) (by decide) ?_)
  intro v' w1 hown1 hhigh hgrow
  rw [hC.out] at hown1 hhigh
  have hb1 : Below w.heap.size w w1 := Below.grown (Below.refl _ _) hgrow (Nat.le_refl _) (fun y e => by cases e)
  have D1 := h.later hb1
  have hz1 := hb1.size
  obtain ⟨A1, c1, rfl⟩ := hown1.form
  clear hgrow h hatC
  by_cases hn : ls.length = 0
  · obtain rfl := List.eq_nil_of_length_eq_zero hn
    clear hn hown1 hhigh hts
    go_wp2_with fail
    refine (next_walk B g 11 (by omega) w1 D1).mono ?_
    rintro e w2 ⟨v, rfl, p1, q1, -, T1, -⟩
    have TT : Thrown B w g w2 := ⟨hlt, T1.dice, (only_of_below hb1 _).trans T1.only⟩
    have hz2 := TT.size
    have hfin : DOddQ B C w g (.returned (.slice (some ⟨w2.heap.size, 0, none⟩) 1 1)) (w2.alloc (.cells #[.string ⟨#[115]⟩, .string ⟨#[120]⟩, .int .i64 v, .slice none 0 0] 53)) := by
      refine ⟨_, [(⟨#[115]⟩, ⟨#[120]⟩, v, [])], rfl, by simp, fun l hl => by simp at hl; subst hl; exact ⟨(by show (1 : Nat) ≤ 100; omega), by simp⟩, ?_, TT.alloc _⟩
      exact Own.lit (K := kReq) (heap_alloc_new _ _) [(⟨#[115]⟩, ⟨#[120]⟩, v, [])] [[.string ⟨#[115]⟩, .string ⟨#[120]⟩, .int .i64 v, .slice none 0 0]] rfl rfl (by simp) (fun j x vs hj hv => by
        match j, hj, hv with
        | 0, hj, hv => simp at hj hv; subst hj hv; exact req_rep (F := none) (n := 0) (c := 0) (l := []) ⟨none, 0, rfl, Nat.le_refl _, fun h => absurd h (Nat.lt_irrefl 0)⟩
        | j + 1, hj, _ => simp at hj) (by rw [← hC.out]; exact hz2)
    replace hfin := hide hfin
    clear T1 TT hb1 D1
    go_wp2
    go_ret
    rw [hC.out]
    exact hfin.out
  · have hn0 : (0 : Int) < (ls.length : Int) := by omega
    have hn1 : decide (ls.length = 0) = false := by simpa using hn
    go_wp2_with fail
    refine (next_walk B g (ls.length : Int) (by omega) w1 D1).mono ?_
    rintro e w2 ⟨k, rfl, p1, q1, -, T1, -⟩
    have q1 := q1 (by omega)
    obtain ⟨k, rfl⟩ := Int.eq_ofNat_of_zero_le p1
    have hkl : k < ls.length := by omega
    go_wp2_with fail
    refine (next_walk B g 5 (by omega) w2 T1.dice).mono ?_
    rintro e w3 ⟨v, rfl, p2, q2, -, T2, -⟩
    have q2 := q2 (by omega)
    have T := T1.trans T2
    have hown3s := (hown1.tossed T1 hgC hSg.out).tossed T2 hgC hSg.out
    have hown3 := hown3s.own (ts := [9]) hSC.out
    have TT : Thrown B w g w3 := ⟨hlt, T.dice, (only_of_below hb1 _).trans T.only⟩
    obtain ⟨l, hlk⟩ : ∃ l, ls[k]? = some l := ⟨_, List.getElem?_eq_getElem hkl⟩
    have hl4 := hts l (List.mem_of_getElem? hlk)
    obtain ⟨gr, Tm, cT, rfl, hgC2, hgl, c0, c1', c2, c3, hfr, hrep⟩ := hown3.req_at hlk
    have hgrw : w.heap.size ≤ gr := by rw [hC.out]; exact hhigh gr rfl
    have f0 := hfr (k * 4)
    have f1 := hfr (k * 4 + 1)
    have f2 := hfr (k * 4 + 2)
    have f3 := hfr (k * 4 + 3)
    have hset : ∀ l' : Req, ReqFew l' → ∀ q ∈ ls.set k l', ReqFew q := fun l' h5 q hq => by
      rcases List.mem_or_eq_of_mem_set hq with h | h
      · exact hts q h
      · rw [h]; exact h5
    have hlen : ∀ l' : Req, (ls.set k l').length = ls.length := fun l' => List.length_set
    obtain ⟨z, co, pr, ts⟩ := l
    dsimp only at c0 c1' c2 c3 hrep
    obtain ⟨hl5, hl6⟩ := hl4
    dsimp only at hl5 hl6
    obtain ⟨n, hnn⟩ : ∃ n, ls.length = n := ⟨_, rfl⟩
    obtain ⟨m, hmm⟩ : ∃ m, ts.length = m := ⟨_, rfl⟩
    rw [hnn] at hown3 hkl q1 hn0 hn1 hl ⊢
    rw [hmm] at c3
    have hk0 : (0 : Int) ≤ (k : Int) := by omega
    have hk1 : (k : Int) < (n : Int) := by omega
    have hz3 := TT.size
    replace hlk := hide hlk
    replace hnn := hide hnn
    replace hmm := hide hmm
    clear hown1 T1 T2 T hfr hb1 D1 p1 hhigh hn
    obtain rfl | rfl | rfl | rfl | rfl : v = 0 ∨ v = 1 ∨ v = 2 ∨ v = 3 ∨ v = 4 := by omega
    · have hS := Own.set (i := 0) (u := .string ⟨#[]⟩) (x' := (⟨#[]⟩, co, pr, ts)) hown3 hlk.out (by decide) (by decide) (Nat.le_refl _) (fun vs h => by obtain ⟨F, c', rfl, h3⟩ := req_unrep h; exact req_rep h3)
      have hfin : DOddQ B C w g (.returned (.slice (some ⟨gr, 0, none⟩) n c1)) (w3.setCell ⟨gr, k * 4 + 0, none⟩ (.string ⟨#[]⟩)) :=
        ⟨_, _, rfl, by rw [hlen, hnn.out]; omega, hset _ ⟨Nat.zero_le _, hl6⟩, hS.1, TT.set (p := ⟨gr, k * 4 + 0, none⟩) hgrw _⟩
      replace hfin := hide hfin
      clear hS hown3 hown3s hrep hset hlen TT
      go_wp2
      go_ret
      rw [hC.out]
      exact hfin.out
    · obtain ⟨Z, hZ⟩ : ∃ Z, w3.heap.size = Z := ⟨_, rfl⟩
      obtain ⟨W4, hW4⟩ : ∃ W4, w3.alloc (.cells #[.int .i64 0, .int .i64 9, .int .i64 10] 3) = W4 := ⟨_, rfl⟩
      have k1 : W4.heap[Z]? = some (.cells #[.int .i64 0, .int .i64 9, .int .i64 10] 3 (0, 0)) := by rw [← hW4, ← hZ]; exact heap_alloc_new _ _
      have T4 : Thrown B w g W4 := by rw [← hW4]; exact TT.alloc _
      have T34 : Thrown B w3 g W4 := by rw [← hW4]; exact (Thrown.refl TT.dice).alloc _
      have hZg : Z ≠ g := by have := TT.size; omega
      replace hW4 := hide hW4
      replace hZ := hide hZ
      clear hown3 TT hrep hz3
      go_wp2_with fail
      rw [hZ.out, hW4.out]
      refine (next_walk B g 3 (by omega) W4 T4.dice).mono ?_
      rintro e w5 ⟨v, rfl, p1, q3, -, T5, -⟩
      have q3 := q3 (by omega)
      have hown5 := (hown3s.tossed (T34.trans T5) hgC hSg.out).own (ts := [9]) hSC.out
      rw [hnn.out] at hown5
      have TT5 := T4.trans T5
      have j1 : w5.heap[Z]? = some (.cells #[.int .i64 0, .int .i64 9, .int .i64 10] 3 (0, 0)) := (T5.only.block Z (blk_lt k1) (fun e => hZg (by injection e))).trans k1
      clear hown3s T34 T4 T5 k1 hW4 hZ c0 c1' c2 c3 f0 f1 f2 f3
      obtain ⟨gr', Tm', cT', e1, -, hgl5, c0, c1', c2, c3, hfr, -⟩ := hown5.req_at hlk.out
      injection e1 with e1
      injection e1 with e1
      subst e1
      have f2 := hfr (k * 4 + 2)
      have hcell : ∀ (i : Nat) u, (#[.int .i64 0, .int .i64 9, .int .i64 10] : Array Value)[i]? = some u → w5.cell? ⟨Z, i, none⟩ = some u := fun i u hu => by rw [cell_of_row _ _ _ _ _ _ j1]; exact hu
      have key : ∀ x : Int, Hid (DOddQ B C w g (.returned (.slice (some ⟨gr, 0, none⟩) n c1)) (w5.setCell ⟨gr, k * 4 + 2, none⟩ (.int .i64 x))) := fun x => by
        have hS := Own.set (i := 2) (u := .int .i64 x) (x' := (z, co, x, ts)) hown5 hlk.out (by decide) (by decide) (Nat.le_refl _) (fun vs h => by obtain ⟨F, c', rfl, h3⟩ := req_unrep h; exact req_rep h3)
        exact hide ⟨_, _, rfl, by rw [hlen, hnn.out]; omega, hset _ ⟨hl5, hl6⟩, hS.1, TT5.set (p := ⟨gr, k * 4 + 2, none⟩) hgrw _⟩
      obtain rfl | rfl | rfl : v = 0 ∨ v = 1 ∨ v = 2 := by omega
      · have i0 := hcell 0 _ rfl
        have key := key 0
        clear hcell hown5 TT5 hfr j1 hset hlen c0 c1' c3
        go_wp2
        go_ret
        rw [hC.out]
        exact key.out
      · have i0 := hcell 1 _ rfl
        have key := key 9
        clear hcell hown5 TT5 hfr j1 hset hlen c0 c1' c3
        go_wp2
        go_ret
        rw [hC.out]
        exact key.out
      · have i0 := hcell 2 _ rfl
        have key := key 10
        clear hcell hown5 TT5 hfr j1 hset hlen c0 c1' c3
        go_wp2
        go_ret
        rw [hC.out]
        exact key.out
    · have hown5 := hown3.alloc (.cells #[.string co] 9)
      have hnew : (kSlice kStr).rep (Ty [9] C C (w3.alloc (.cells #[.string co] 9))) (w3.alloc (.cells #[.string co] 9)) [co] [.slice (some ⟨w3.heap.size, 0, none⟩) 1 1] :=
        rep_lit_strs [co] (heap_alloc_new _ _) rfl rfl (by rw [← hC.out]; exact hz3) (by decide)
      have hS := Own.set (i := 3) (u := .slice (some ⟨w3.heap.size, 0, none⟩) 1 1) (x' := (z, co, pr, [co])) hown5 hlk.out (by decide) (by decide) (Nat.le_refl _) (fun vs h => by obtain ⟨F, c', rfl, h3⟩ := req_unrep h; exact req_rep hnew)
      have hfin : DOddQ B C w g (.returned (.slice (some ⟨gr, 0, none⟩) n c1)) ((w3.alloc (.cells #[.string co] 9)).setCell ⟨gr, k * 4 + 3, none⟩ (.slice (some ⟨w3.heap.size, 0, none⟩) 1 1)) :=
        ⟨_, _, rfl, by rw [hlen, hnn.out]; omega, hset _ ⟨hl5, by show 1 ≤ 1; omega⟩, hS.1, (TT.alloc _).set (p := ⟨gr, k * 4 + 3, none⟩) hgrw _⟩
      rw [World.setCell_alloc_past _ gr (k * 4 + 3) _ hgl] at hfin
      replace hfin := hide hfin
      clear hS hown5 hown3 hown3s hset hlen TT hnew hrep hz3
      go_wp2
      go_ret
      rw [hC.out]
      exact hfin.out
    · have hS := Own.set (i := 1) (u := .string ⟨#[110, 111, 110, 101]⟩) (x' := (z, ⟨#[110, 111, 110, 101]⟩, pr, ts)) hown3 hlk.out (by decide) (by decide) (Nat.le_refl _) (fun vs h => by obtain ⟨F, c', rfl, h3⟩ := req_unrep h; exact req_rep h3)
      have hfin : DOddQ B C w g (.returned (.slice (some ⟨gr, 0, none⟩) n c1)) (w3.setCell ⟨gr, k * 4 + 1, none⟩ (.string ⟨#[110, 111, 110, 101]⟩)) :=
        ⟨_, _, rfl, by rw [hlen, hnn.out]; omega, hset _ ⟨hl5, hl6⟩, hS.1, TT.set (p := ⟨gr, k * 4 + 1, none⟩) hgrw _⟩
      replace hfin := hide hfin
      clear hS hown3 hown3s hrep hset hlen TT
      go_wp2
      go_ret
      rw [hC.out]
      exact hfin.out
    · have hown4 := hown3
      have hld := load4at w3 gr (k * 4) _ _ _ _ c0 c1' c2 c3
      clear hown3
      go_wp2_with (at_builtin; refine wpList_own rfl _ _ rfl apd_reqs (by decide) rfl (hown4.alloc _) ?d1 (by decide) ⟨w3.heap.size, 0, none⟩ 1 rfl (z, co, pr, ts) [.string z, .string co, .int .i64 pr, .slice Tm m cT] ?d2 (World.news_of_block (cs := #[.string z, .string co, .int .i64 pr, .slice Tm m cT]) (t := 53) (fr := (0, 0)) (heap_alloc_new _ _)) (by decide) (Nat.le_refl _) ?d3 ?_)
      case d1 => rw [hnn.out]; omega
      case d2 =>
        have h5 := (kSlice kStr).tyM hrep (ext_alloc (Below.refl w3.heap.size w3) (.cells #[.string z, .string co, .int .i64 pr, .slice Tm m cT] 53))
        rw [hmm.out] at h5
        exact req_rep h5
      case d3 => rw [World.size_alloc, ← hC.out]; omega
      intro v' w5 hown5 hgrow
      have hfin : DOddQ B C w g (.returned v') w5 :=
        ⟨v', _, rfl, by rw [List.length_append, hnn.out]; simp; omega, fun q hq => by
          rcases List.mem_append.1 hq with h | h
          · exact hts q h
          · simp at h; subst h; exact ⟨hl5, hl6⟩, hown5, Thrown.grown (TT.alloc _) hgrow (fun y hy => by simp [Value.ownBlock] at hy; omega)⟩
      replace hfin := hide hfin
      clear hown5 hgrow hown4 hown3s hset hlen TT
      go_wp2
      go_ret
      rw [hC.out]
      exact hfin.out
end Go.Proofs.YthejgholpkeldaaGreatDoor
