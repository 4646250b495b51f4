/- Walk of slices.SortFunc at starts. Conditions: the row is their own; fewer than 2^62 starts. Walks of slices.Clone and slices.Compact at starts. Conditions: the cells; fewer than 2^43 starts. A block that holds a class, known as a whole. No condition. -/
import Derived.Shelf.SlSortCmp.NoneTotal
import Derived.Ground.SlsfProg
import Derived.Test.YtimcdikeajbabaaGreatDoorShelfS
import Derived.Test.YtimcdikeajbabaaGreatDoorRows
import Derived.WalkKit
import Derived.WalkSpells
import Derived.WalkLawsBesides
import Derived.BigGuardPart
import Derived.Lib.Hide
import Derived.Laws.BitsAllLaws
import Derived.Laws.BitsLemmas
import Derived.Lib.LaidTab
import Derived.Test.YtimcdikeajbabaaGreatDoorShelf
import Derived.Lib.ConvBytes
import Derived.Deep.QuietTactic
import Derived.BigQuiet
import Derived.Laws.ResultCell
import Derived.RegionTactic
import Derived.BigRegion
import Derived.Deep.RegionHeld3
import Derived.Deep.DeepCutAuto
import Derived.Lib.SmallJoins
import Derived.Lib.SplitLaws
import Derived.Lib.CountLaws
import Derived.Lib.IndexMore
import Derived.Lib.Split
import Derived.Lib.Join
import Derived.Lib.ItoaNum
import Derived.Laws.AppendOwn
import Derived.Test.YtimcdikeajbabaaGreatDoorShelfT
import Derived.Lib.ItoaLen
import Derived.Lib.AppendIntMem
import Derived.Deep.AppendLies
import Derived.Lib.PathFns
import Derived.Maps.Range
import Derived.Lib.OwnBridge
import Derived.Sort.OwnSorted
import Derived.Sort.Walk0
import Derived.Test.YtimcdikeajbabaaGreatDoorCards
import Derived.Test.YtimcdikeajbabaaGreatDoorTie
import Derived.ProofKit
import Derived.OpenShut
import Derived.LaidMore
import Derived.Lay
import Derived.SevenTiedAt
import Derived.Stop.Joined
import Derived.Stop.LaidErr
import Derived.Deep.DeepHandedRow
import Derived.Lib.LaidU8
import Derived.LaidSub
import Derived.Deep.Slices
import Derived.Deep.Fields
import Derived.ChangeSame
import Derived.Test.YtimcdikeajbabaaGreatDoorZPatRd
import Derived.Lib.SliceRun
import Derived.Lib.Walk
import Derived.Test.YtimcdikeajbabaaGreatDoorZCells18
namespace Go.Proofs
open Go.Shelf
def Tryz.sortStart_ren : Go.Shelf.Ren := ⟨fun | 6 => 111 | 15 => 153 | 14 => 152 | 28 => 196 | 29 => 197 | 20 => 188 | 21 => 189 | 22 => 190 | 23 => 191 | 24 => 192 | 25 => 193 | 26 => 194 | 27 => 195 | 46 => 228 | 47 => 229 | 48 => 230 | 49 => 231 | 50 => 232 | 57 => 252 | n => n, fun | 22 => 45 | 24 => 70 | 25 => 165 | 3 => 3 | 39 => 132 | 0 => 0 | 53 => 225 | 55 => 193 | 4 => 4 | 46 => 219 | 45 => 218 | 50 => 150 | 5 => 5 | 9 => 9 | 66 => 247 | 70 => 251 | 76 => 265 | 77 => 226 | n => n, fun | n => n⟩
theorem Tryz.sortStart : Go.Proofs.SlLaysF0.n6 Tryz.prog Tryz.sortStart_ren := {
  mixed := by kernel_rfl
  f6 := ⟨Tryz.f111.name, by decide, Tryz.func111.trans (congrArg some (by kernel_rfl))⟩
  f14 := ⟨Tryz.f152.name, by decide, Tryz.func152.trans (congrArg some (by kernel_rfl))⟩
  f15 := Tryz.func153.trans (congrArg some (by kernel_rfl))
  f20 := ⟨Tryz.f188.name, by decide, Tryz.func188.trans (congrArg some (by kernel_rfl))⟩
  f21 := ⟨Tryz.f189.name, by decide, Tryz.func189.trans (congrArg some (by kernel_rfl))⟩
  f22 := ⟨Tryz.f190.name, by decide, Tryz.func190.trans (congrArg some (by kernel_rfl))⟩
  f23 := ⟨Tryz.f191.name, by decide, Tryz.func191.trans (congrArg some (by kernel_rfl))⟩
  f24 := ⟨Tryz.f192.name, by decide, Tryz.func192.trans (congrArg some (by kernel_rfl))⟩
  f25 := ⟨Tryz.f193.name, by decide, Tryz.func193.trans (congrArg some (by kernel_rfl))⟩
  f26 := ⟨Tryz.f194.name, by decide, Tryz.func194.trans (congrArg some (by kernel_rfl))⟩
  f27 := ⟨Tryz.f195.name, by decide, Tryz.func195.trans (congrArg some (by kernel_rfl))⟩
  f28 := Tryz.func196.trans (congrArg some (by kernel_rfl))
  f29 := Tryz.func197.trans (congrArg some (by kernel_rfl))
  f46 := ⟨Tryz.f228.name, by decide, Tryz.func228.trans (congrArg some (by kernel_rfl))⟩
  f47 := Tryz.func229.trans (congrArg some (by kernel_rfl))
  f48 := Tryz.func230.trans (congrArg some (by kernel_rfl))
  f49 := ⟨Tryz.f231.name, by decide, Tryz.func231.trans (congrArg some (by kernel_rfl))⟩
  f50 := ⟨Tryz.f232.name, by decide, Tryz.func232.trans (congrArg some (by kernel_rfl))⟩
  f57 := ⟨Tryz.f252.name, by decide, Tryz.func252.trans (congrArg some (by kernel_rfl))⟩
  t0 := Tryz.underlying0
  a0 := Tryz.isAgg0
  z0 := Tryz.sizeOf0
  v0 := Tryz.zeroValue0
  t3 := Tryz.underlying3
  a3 := Tryz.isAgg3
  z3 := Tryz.sizeOf3
  v3 := Tryz.zeroValue3
  t4 := Tryz.underlying4
  a4 := Tryz.isAgg4
  z4 := Tryz.sizeOf4
  v4 := Tryz.zeroValue4
  t5 := Tryz.underlying5
  a5 := Tryz.isAgg5
  z5 := Tryz.sizeOf5
  v5 := Tryz.zeroValue5
  t9 := Tryz.underlying9
  a9 := Tryz.isAgg9
  z9 := Tryz.sizeOf9
  v9 := Tryz.zeroValue9
  t22 := Tryz.underlying45
  a22 := Tryz.isAgg45
  z22 := Tryz.sizeOf45
  v22 := Tryz.zeroValue45
  t25 := Tryz.underlying165
  a25 := Tryz.isAgg165
  z25 := Tryz.sizeOf165
  v25 := Tryz.zeroValue165
  t39 := Tryz.underlying132
  a39 := Tryz.isAgg132
  z39 := Tryz.sizeOf132
  v39 := Tryz.zeroValue132
  t45 := Tryz.underlying218
  a45 := Tryz.isAgg218
  z45 := Tryz.sizeOf218
  v45 := Tryz.zeroValue218
  t46 := Tryz.underlying219
  a46 := Tryz.isAgg219
  z46 := Tryz.sizeOf219
  v46 := Tryz.zeroValue219
  t50 := Tryz.underlying150
  a50 := Tryz.isAgg150
  z50 := Tryz.sizeOf150
  v50 := Tryz.zeroValue150
  t53 := Tryz.underlying225
  a53 := Tryz.isAgg225
  z53 := Tryz.sizeOf225
  v53 := Tryz.zeroValue225
  t55 := Tryz.underlying193
  a55 := Tryz.isAgg193
  z55 := Tryz.sizeOf193
  v55 := Tryz.zeroValue193
  t66 := Tryz.underlying247
  a66 := Tryz.isAgg247
  z66 := Tryz.sizeOf247
  v66 := Tryz.zeroValue247
  t70 := Tryz.underlying251
  a70 := Tryz.isAgg251
  z70 := Tryz.sizeOf251
  v70 := Tryz.zeroValue251
  t76 := Tryz.underlying265
  a76 := Tryz.isAgg265
  z76 := Tryz.sizeOf265
  v76 := Tryz.zeroValue265
  t77 := Tryz.underlying226
  a77 := Tryz.isAgg226
  z77 := Tryz.sizeOf226
  v77 := Tryz.zeroValue226 }
end Go.Proofs
namespace Go.Proofs.YtimcdikeajbabaaGreatDoor
open Go.RowKit Go.Sort
set_option maxRecDepth 100000

def encS (x : Int × Int) : List Value := [.int .i64 x.1, .int .i64 x.2]
theorem ltP (x y : Int × Int) : ltOf ordP x y = lessB x y := by
  unfold ltOf
  cases h : lessB x y with
  | true => exact decide_eq_true ((ordP_neg x y).2 h)
  | false => exact decide_eq_false fun h' => by rw [(ordP_neg x y).1 h'] at h; cases h
theorem swoP : SWO (ltOf ordP) where
  irrefl x := by rw [ltP, lessB_no]; omega
  trans x y z h1 h2 := by rw [ltP, lessB_iff] at *; omega
  ntrans x y z h1 h2 := by rw [ltP, lessB_no] at *; omega
theorem flatS_list (d : List (Int × Int)) : (flatK encS 2 d.toArray).toList = d.flatMap encS := by
  refine List.ext_getElem? fun t => ?_
  have hs : (flatK encS 2 d.toArray).size = d.length * 2 := by simp
  by_cases ht : t < d.length * 2
  · have h1 : (flatK encS 2 d.toArray).toList[t]? = some ((flatK encS 2 d.toArray)[t]!) := by
      rw [Array.getElem?_toList, Array.getElem?_eq_getElem (by omega), getElem!_pos _ t (by omega)]
    have hq : t / 2 < d.length := by omega
    rw [h1, get_flatK _ _ _ _ (by simpa using ht), List.flatMap_def]
    have h2 := flatten_at (k := 2) (d.map encS) (fun vs hv => by obtain ⟨x, -, rfl⟩ := List.mem_map.1 hv; rfl) (t / 2) (t % 2) (encS d[t / 2]) (by rw [List.getElem?_map, List.getElem?_eq_getElem hq]; rfl) (by omega)
    rw [show t / 2 * 2 + t % 2 = t from by omega] at h2
    rw [h2, getElem!_pos d.toArray (t / 2) (by simpa using hq)]
    simp only [List.getElem_toArray]
    have h3 : t % 2 < (encS d[t / 2]).length := by show t % 2 < 2; omega
    rw [List.getElem?_eq_getElem h3, getElem!_pos _ (t % 2) h3]
  · rw [List.getElem?_eq_none (by rw [Array.length_toList]; omega), List.getElem?_eq_none]
    rw [List.flatMap_def]
    have : (d.map encS).flatten.length = d.length * 2 := by
      rw [List.length_flatten, List.map_map]
      clear hs ht
      induction d with
      | nil => rfl
      | cons x d ih => simp [encS] at ih ⊢; omega
    omega
theorem heap_putK {w : World} {g n : Nat} {os : Array Obj} {cur F : Array Value} {e : TypeId} {fr : Nat × Nat} (hb : w.heap[g]? = some (.cells cur e fr)) :
    (grow (putRow id (Sort.ahead w n) g 0 F) os).heap[g]? = some (.cells (putCells id 0 F cur) e fr) := by
  have hg : g < w.heap.size := (Array.getElem?_eq_some_iff.1 hb).1
  rw [heap_grow_old _ _ (by simpa using hg)]
  simp [putRow, mapBlock, Sort.ahead, Array.getElem?_modify, hb, onCells]
theorem grownBy_putK {w : World} {g n : Nat} {os : Array Obj} (F : Array Value) : w.grownBy (grow (putRow id (Sort.ahead w n) g 0 F) os) (some g) := by
  refine ⟨rfl, rfl, rfl, by simp, fun k hk hne => ?_⟩
  rw [heap_grow_old _ _ (by simpa using hk)]
  have : g ≠ k := fun e => hne (by rw [e])
  simp [putRow, mapBlock, Sort.ahead, Array.getElem?_modify, this]
theorem take_putK (cur F : Array Value) (h : F.size ≤ cur.size) : (putCells id 0 F cur).toList.take F.size = F.toList := by
  apply List.ext_getElem?
  intro j
  by_cases hj : j < F.size
  · rw [List.getElem?_take_of_lt hj, Array.getElem?_toList]
    simp [putCells, hj, show j < cur.size by omega]
  · rw [List.getElem?_take_eq_none (by omega), List.getElem?_eq_none (by simp; omega)]
/-- A row of starts, as the walk has it. -/
theorem own_starts {B : Nat} {w : World} {v : Value} {l : List (Int × Int)} : Own kStart 70 [] 0 B w v l ↔ w.ownsRow B 70 2 v l.length (l.flatMap encS) := by
  constructor
  · rintro ⟨vss, e1, e2, e3⟩
    have : vss = l.map encS := by
      refine List.ext_getElem? fun j => ?_
      rw [List.getElem?_map]
      rcases Nat.lt_or_ge j l.length with hj | hj
      · have hv : vss[j]? = some (vss[j]'(by omega)) := List.getElem?_eq_getElem (by omega)
        have hl : l[j]? = some l[j] := List.getElem?_eq_getElem hj
        obtain ⟨us, ts, h1, h2, h3⟩ := e3 j _ _ hl hv
        rw [hv, hl, h1]
        rw [rep_int] at h2 h3
        rw [h2, h3]; rfl
      · rw [List.getElem?_eq_none (by omega), List.getElem?_eq_none (by omega)]; rfl
    rw [this, ← List.flatMap_def] at e2
    exact e2
  · intro h
    refine ⟨l.map encS, by simp, by rw [← List.flatMap_def]; exact h, fun j x vs hj hv => ?_⟩
    rw [List.getElem?_map, hj] at hv
    cases Option.some.inj hv
    exact ⟨[_], [_], rfl, rfl, rfl⟩
def SortedGives (B : Nat) (A : Option Addr) (c : Nat) (l : List (Int × Int)) (w : World) (e : Ending) (w' : World) : Prop :=
  e = .returned (.tuple #[]) ∧ Own kStart 70 [] 0 B w' (.slice A l.length c) (ascP l) ∧ w.grownBy w' (Value.slice A l.length c).ownBlock
theorem sort_none (A : Option Addr) (c : Nat) (w : World) :
    Calls Tryz.prog 111 #[.slice A 0 c, .func (.func 112) #[] #[]] w fun e w' => e = .returned (.tuple #[]) ∧ w' = w := AnyF.slices_SortFunc_none Tryz.sortStart A c _ w
set_option maxHeartbeats 1000000 in
theorem sortS_walk (B : Nat) (A : Option Addr) (c : Nat) (l : List (Int × Int)) (w : World) (hl : l.length < 4611686018427387904) (h : Own kStart 70 [] 0 B w (.slice A l.length c) l) :
    Calls Tryz.prog 111 #[.slice A l.length c, .func (.func 112) #[] #[]] w fun e w' => SortedGives B A c l w e w' := by
  have h' := own_starts.1 h
  rcases h'.2 with ⟨he, h0⟩ | ⟨g, cap, cur, he, hB, hg, hn, hm, hsz, ht⟩
  · obtain rfl := List.eq_nil_of_length_eq_zero h0
    refine (sort_none A c w).mono fun e w' ⟨h1, h2⟩ => ⟨h1, ?_, ?_⟩
    · rw [h2]; exact h
    · rw [h2]; exact World.grownBy.refl _ _
  · injection he with h1 _ h2
    subst h1 h2
    have eg : ∀ args w, (callFunc 112 args).run Tryz.prog w = .ok (.enter 112 args) w := enters_of Tryz.func112 (by kernel_rfl) rfl
    have hH : HoldsK encS 2 w g 0 l.toArray := by
      intro j hj
      have hj2 : j < l.length * 2 := by simpa using hj
      refine ⟨?_, by simp [World.frozen?, hg]⟩
      have h1 : (cur.toList.take (l.length * 2))[j]? = (flatK encS 2 l.toArray).toList[j]? := by rw [ht, flatS_list]
      rw [List.getElem?_take_of_lt hj2] at h1
      rw [Nat.zero_add, cell_of_row w g j cur _ (0, 0) hg, ← Array.getElem?_toList, h1, Array.getElem?_toList, Array.getElem?_eq_getElem hj, getElem!_pos _ j hj]
      rfl
    have hcon := AnyQ.slices_SortFunc Tryz.sortStart 2 Tryz.isAgg70 Tryz.sizeOf70 encS (fun _ => rfl) (fun x v hv => by simp [encS] at hv; rcases hv with rfl | rfl <;> rfl) ordP swoP 112 #[] g 0 c l.toArray w eg (fun _ _ _ _ x y => corder_grow x.1 x.2 y.1 y.2 _) hH (blk_lt hg) (by simpa using hl)
    change Calls Tryz.prog 111 _ _ _ at hcon
    rw [List.size_toArray] at hcon
    refine hcon.mono ?_
    rintro e w' ⟨h1, d', n, os, ⟨hs, -, hp⟩, hso, rfl⟩
    obtain ⟨m, rfl⟩ : ∃ m : List (Int × Int), d' = m.toArray := ⟨d'.toList, by simp⟩
    have hml : m.length = l.length := by simpa using hs
    have hperm : m.Perm l := by
      have h2 : (m.toArray.extract 0 l.length).toList = m := by rw [← hml]; simp
      have h3 : (l.toArray.extract 0 l.length).toList = l := by simp
      rw [h2, h3] at hp
      exact hp
    have hpw : m.Pairwise (LeG lessB) := by
      rw [List.pairwise_iff_getElem]
      intro i j hi hj hij
      have := hso i j (Nat.zero_le _) hij (by omega)
      rw [ltP, getElem!_pos _ i (by simpa using hi), getElem!_pos _ j (by simpa using hj)] at this
      simpa [LeG] using this
    have hme := ascP_eq hperm hpw
    refine ⟨h1, ?_, grownBy_putK _⟩
    rw [← hme]
    refine own_starts.2 ?_
    rw [hml]
    have hF : (flatK encS 2 m.toArray).size = l.length * 2 := by rw [size_flatK, List.size_toArray, hml]
    have hb : (sortWorldK encS 2 w g 0 n m.toArray os).heap[g]? = some (.cells (putCells id 0 (flatK encS 2 m.toArray) cur) 70 (0, 0)) := heap_putK hg
    refine ⟨?_, .inr ⟨g, c, _, rfl, hB, hb, hn, hm, by simp [putCells, hsz], ?_⟩⟩
    · have := congrArg List.length (flatS_list m)
      rw [Array.length_toList, hF] at this
      exact this.symm
    · rw [← flatS_list m, ← hF]
      exact take_putK cur _ (by rw [hF, hsz]; omega)
end Go.Proofs.YtimcdikeajbabaaGreatDoor

namespace Go.Proofs.YtimcdikeajbabaaGreatDoor
open Go.RowKit
set_option maxRecDepth 100000

theorem start_equal (a b c d : Int) (w : World) : (Op.equalIn 10000 70 (.agg #[.int .i64 a, .int .i64 b]) (.agg #[.int .i64 c, .int .i64 d])).run Tryz.prog w = .ok (a == c && b == d) w := by
  have u3 := Tryz.underlying3
  have a3 := Tryz.isAgg3
  have z3 := Tryz.sizeOf3
  rw [show (10000 : Nat) = 9999 + 1 from rfl, Op.equalIn]
  simp only [Sem.run_bind, run_underlying Tryz.underlying70, Result.andThen_ok]
  go_simp
  by_cases h1 : a = c <;> by_cases h2 : b = d <;> simp [h1, h2]
/-- Neighbours differ, told by places. -/
theorem next_at {α : Type} [DecidableEq α] : ∀ (l : List α), nextDiff l = true ↔ ∀ j x y, l[j]? = some x → l[j + 1]? = some y → x ≠ y
  | [] => by simp [nextDiff]
  | [a] => by simp [nextDiff]
  | a :: b :: r => by
    rw [nextDiff, Bool.and_eq_true, next_at (b :: r)]
    simp only [Bool.not_eq_true', decide_eq_false_iff_not]
    constructor
    · rintro ⟨h1, h2⟩ j x y hx hy
      cases j with
      | zero => simp at hx hy; subst hx hy; exact h1
      | succ j => exact h2 j x y (by simpa using hx) (by simpa using hy)
    · intro h
      exact ⟨h 0 a b rfl rfl, fun j x y hx hy => h (j + 1) x y (by simpa using hx) (by simpa using hy)⟩
/-- Block g: n pairs of numbers from off on. -/
def PairsAt (w : World) (g off n : Nat) : Prop := ∃ (cur : Array Value) (t : TypeId), w.heap[g]? = some (.cells cur t (0, 0)) ∧ ∀ j, j < n → ∃ a b : Int, cur[off + j * 2]? = some (.int .i64 a) ∧ cur[off + j * 2 + 1]? = some (.int .i64 b)
theorem PairsAt.cells {w : World} {g off n j : Nat} (h : PairsAt w g off n) (hj : j < n) : ∃ a b : Int, w.cell? ⟨g, off + j * 2, none⟩ = some (.int .i64 a) ∧ w.cell? ⟨g, off + j * 2 + 1, none⟩ = some (.int .i64 b) := by
  obtain ⟨cur, t, h1, h2⟩ := h
  obtain ⟨a, b, h3, h4⟩ := h2 j hj
  exact ⟨a, b, by rw [cell_of_row _ _ _ _ _ _ h1]; exact h3, by rw [cell_of_row _ _ _ _ _ _ h1]; exact h4⟩
theorem PairsAt.free {w : World} {g off n : Nat} (h : PairsAt w g off n) (j : Nat) : w.frozen? ⟨g, j, none⟩ = false := by
  obtain ⟨cur, t, h1, -⟩ := h
  simp [World.frozen?, h1]
theorem PairsAt.lt {w : World} {g off n : Nat} (h : PairsAt w g off n) : g < w.heap.size := by
  obtain ⟨cur, t, h1, -⟩ := h
  exact blk_lt h1
theorem PairsAt.drew {w : World} {g off n : Nat} (h : PairsAt w g off n) : PairsAt w.drew g off n := h
theorem set_pair {cur : Array Value} {off n k : Nat} {a b : Int} (h : ∀ j, j < n → ∃ a b : Int, cur[off + j * 2]? = some (.int .i64 a) ∧ cur[off + j * 2 + 1]? = some (.int .i64 b)) :
    ∀ j, j < n → ∃ c d : Int, ((cur.setIfInBounds (off + k * 2) (.int .i64 a)).setIfInBounds (off + k * 2 + 1) (.int .i64 b))[off + j * 2]? = some (.int .i64 c) ∧ ((cur.setIfInBounds (off + k * 2) (.int .i64 a)).setIfInBounds (off + k * 2 + 1) (.int .i64 b))[off + j * 2 + 1]? = some (.int .i64 d) := by
  intro j hj
  obtain ⟨c, d, h1, h2⟩ := h j hj
  have l1 := (Array.getElem?_eq_some_iff.1 h1).1
  have l2 := (Array.getElem?_eq_some_iff.1 h2).1
  by_cases e : j = k
  · subst e
    exact ⟨a, b, by rw [Array.getElem?_setIfInBounds_ne (by omega), Array.getElem?_setIfInBounds_self_of_lt l1], by rw [Array.getElem?_setIfInBounds_self_of_lt (by simpa using l2)]⟩
  · exact ⟨c, d, by rw [Array.getElem?_setIfInBounds_ne (by omega), Array.getElem?_setIfInBounds_ne (by omega)]; exact h1, by rw [Array.getElem?_setIfInBounds_ne (by omega), Array.getElem?_setIfInBounds_ne (by omega)]; exact h2⟩
theorem PairsAt.set {w : World} {g off n : Nat} (h : PairsAt w g off n) (k : Nat) (a b : Int) : PairsAt ((w.setCell ⟨g, off + k * 2, none⟩ (.int .i64 a)).setCell ⟨g, off + k * 2 + 1, none⟩ (.int .i64 b)) g off n := by
  obtain ⟨cur, t, h1, h2⟩ := h
  exact ⟨_, t, heap_setCell_same _ _ _ _ _ _ (heap_setCell_same _ _ _ _ _ _ h1), set_pair h2⟩
theorem setCells_grown {w0 : World} {g : Nat} : ∀ (vs : List Value) (o : Nat) (w : World), w0.grownBy w (some g) → w0.grownBy (w.setCells g o vs) (some g)
  | [], _, _, h => h
  | _ :: r, o, _, h => setCells_grown r (o + 1) _ (only_setCell h (Or.inl rfl) _)
theorem run_clear_any {P : Program} (w : World) (t e ty : TypeId) (z : Value) (ht : P.underlying t = some (.slice e)) (hv : ∀ w, (zeroValue e).run P w = .ok z w) (b o n c : Nat) (hn : 0 < n)
    (hc : ∀ j, j < (Builtin.zeroCells z.cells n).toList.length → (w.cell? ⟨b, o + j, none⟩).isSome = true) (hf : ∀ j, w.frozen? ⟨b, j, none⟩ = false) (h1 : ∀ v ∈ (Builtin.zeroCells z.cells n).toList, v.oneCell' = true) :
    (Builtin.clear_ #[t] ty #[.slice (some ⟨b, o, none⟩) n c]).run P w = .ok (.tuple #[]) (w.setCells b o (Builtin.zeroCells z.cells n).toList) := by
  have hst := run_storeCells_cells (P := P) b o (Builtin.zeroCells z.cells n).toList 0 w (by simpa using hc) (fun j _ => hf _) h1
  simp only [Nat.add_zero] at hst
  obtain ⟨m, rfl⟩ : ∃ m, n = m + 1 := ⟨n - 1, by omega⟩
  simp [Builtin.clear_, run_underlying ht, hv, hst]
theorem run_clear_starts (w : World) (ty : TypeId) (g off n k c : Nat) (hk : k < n) (h : PairsAt w g off n) :
    (Builtin.clear_ #[45] ty #[.slice (some ⟨g, off + k * 2, none⟩) (n - k) c]).run Tryz.prog w = .ok (.tuple #[]) (w.setCells g (off + k * 2) (Builtin.zeroCells (Value.agg #[.int .i64 0, .int .i64 0]).cells (n - k)).toList) := by
  refine run_clear_any w _ 70 ty (.agg #[.int .i64 0, .int .i64 0]) Tryz.underlying45 Tryz.zeroValue70 g (off + k * 2) (n - k) c (by omega) (fun j hj => ?_) h.free (fun v hv => ?_)
  · have hl : (Builtin.zeroCells (Value.agg #[.int .i64 0, .int .i64 0]).cells (n - k)).toList.length = (n - k) * 2 := by simp [Builtin.zeroCells, Value.cells]
    rw [hl] at hj
    obtain ⟨a, b, h1, h2⟩ := h.cells (j := k + j / 2) (by omega)
    by_cases e : j % 2 = 0
    · rw [show off + k * 2 + j = off + (k + j / 2) * 2 from by omega, h1]; rfl
    · rw [show off + k * 2 + j = off + (k + j / 2) * 2 + 1 from by omega, h2]; rfl
  · unfold Builtin.zeroCells at hv
    rw [Array.toList_map] at hv
    obtain ⟨i, -, rfl⟩ := List.mem_map.1 hv
    show Value.oneCell' ((#[Value.int .i64 0, .int .i64 0] : Array Value)[i % 2]!) = true
    rcases Nat.mod_two_eq_zero_or_one i with e | e
    · rw [e]; rfl
    · rw [e]; rfl
theorem infoStart : (Tryz.prog.info? 70).map (fun i => (i.zero, i.size, i.bytes)) = some (some (.agg #[.int .i64 0, .int .i64 0]), 2, 16) := by kernel_rfl
def CompGives (g off n c : Nat) (l : List (Int × Int)) (w : World) (e : Ending) (w' : World) : Prop :=
  ∃ m : Nat, e = .returned (.slice (some ⟨g, off, none⟩) m c) ∧ m ≤ n ∧ (nextDiff l = true → m = n) ∧ (nextDiff l = false → m < n) ∧ w.grownBy w' (some g)
set_option maxHeartbeats 8000000 in
theorem compS_walk (g off n c : Nat) (l : List (Int × Int)) (w : World) (hn : l.length = n) (hnc : n ≤ c) (hbig : n ≤ 9223372036854775807) (hP : PairsAt w g off n) (hL : ∀ j x, l[j]? = some x → w.cell? ⟨g, off + j * 2, none⟩ = some (.int .i64 x.1) ∧ w.cell? ⟨g, off + j * 2 + 1, none⟩ = some (.int .i64 x.2)) :
    Calls Tryz.prog 113 #[.slice (some ⟨g, off, none⟩) n c] w fun e w' => CompGives g off n c l w e w' := by
  have hnx := next_at l
  have hglt := hP.lt
  by_cases h2 : n < 2
  · have hd : nextDiff l = true := hnx.2 fun j x y hx hy => by
      have := (List.getElem?_eq_some_iff.1 hy).1
      omega
    have h2i : (n : Int) < 2 := by omega
    clear hL hP hnx
    go_enter Tryz.func113, Tryz.ntmps113
    go_wp2
    go_ret
    exact ⟨n, rfl, Nat.le_refl _, fun _ => rfl, (fun h => by rw [hd] at h; cases h), World.grownBy.refl _ _⟩
  · have h2i : ¬ (n : Int) < 2 := by omega
    replace hn := hide hn
    replace hnx := hide hnx
    replace hL := hide hL
    go_enter Tryz.func113, Tryz.ntmps113
    go_wp2_with fail
    go_loopw [3] (fun s3 wr => ∃ k : Nat, 1 ≤ k ∧ k ≤ n ∧ s3 = .int .i64 (k : Int) ∧ Below w.heap.size w wr ∧ Hid (∀ j x y, j + 1 < k → l[j]? = some x → l[j + 1]? = some y → x ≠ y)) (fun s3 _ => n - (intOf s3).toNat)
    case atStart => exact ⟨1, Nat.le_refl _, by omega, rfl, Below.refl _ _, hide (fun j x y h => by omega)⟩
    case round =>
      obtain ⟨k, hk1, hk, rfl, hb, ho⟩ := hrel
      by_cases hlt : k < n
      · obtain ⟨p, hp⟩ : ∃ p, k = p + 1 := ⟨k - 1, by omega⟩
        obtain ⟨x, hx⟩ : ∃ x, l[k]? = some x := ⟨_, List.getElem?_eq_getElem (by rw [hn.out]; exact hlt)⟩
        obtain ⟨y, hy⟩ : ∃ y, l[p]? = some y := ⟨_, List.getElem?_eq_getElem (by rw [hn.out]; omega)⟩
        obtain ⟨c0, c1⟩ := hL.out k x hx
        obtain ⟨d0, d1⟩ := hL.out p y hy
        replace c0 := cell_later hb c0
        replace c1 := cell_later hb c1
        replace d0 := cell_later hb d0
        replace d1 := cell_later hb d1
        have hk0 : (0 : Int) ≤ (k : Int) := by omega
        have hkn : (k : Int) < (n : Int) := by omega
        have hki : (k : Int) - 1 = (p : Int) := by omega
        have hkw : IntKind.i64.wrap (p : Int) = (p : Int) := IntWalk.i64_in _ (by omega)
        have hp0 : (0 : Int) ≤ (p : Int) := by omega
        have hpn : (p : Int) < (n : Int) := by omega
        obtain ⟨x1, x2⟩ := x
        obtain ⟨y1, y2⟩ := y
        dsimp only at c0 c1 d0 d1
        have hgr : g < wr.heap.size := Nat.lt_of_lt_of_le hglt hb.size
        have heq0 := fun W : World => start_equal x1 x2 y1 y2 W
        replace hp := hide hp
        by_cases hd : x1 = y1 ∧ x2 = y2
        · have heq : ∀ W : World, (Op.equalIn 10000 70 (.agg #[.int .i64 x1, .int .i64 x2]) (.agg #[.int .i64 y1, .int .i64 y2])).run Tryz.prog W = .ok true W := fun W => (heq0 W).trans (by rw [hd.1, hd.2]; simp)
          have hfin : Hid (nextDiff l = false) := hide (by
            cases hdl : nextDiff l with
            | false => rfl
            | true => exact absurd (by rw [hd.1, hd.2]) (hnx.out.1 hdl p (y1, y2) (x1, x2) hy (by rw [← hp.out]; exact hx)))
          have hPr : PairsAt wr g off n := by
            obtain ⟨cur, t, h1, h2⟩ := hP
            exact ⟨cur, t, (hb.block g hglt).trans h1, h2⟩
          have hor : w.grownBy wr (some g) := only_of_below hb _
          clear heq0 hd hx hy ho hL hnx hP
          have hck : ¬ c = k := by omega
          go_upto_region 6 with fail
          go_region
          all_goals
            clear c0 c1 d0 d1 heq
            have hPd := hPr.drew
            have hod : w.grownBy wr.drew (some g) := hor.trans (only_of_below (ext_drew (Below.refl _ _)) _)
            clear hPr hor hb
            generalize wr.drew = wv at *
            obtain ⟨r, hr⟩ : ∃ r, n - k = r := ⟨_, rfl⟩
            go_wp2_with fail
            go_loopw [3, 5] (fun s3 s5 wr => ∃ kk k2 : Nat, s3 = .int .i64 (kk : Int) ∧ s5 = .int .i64 (k2 : Int) ∧ 1 ≤ k2 ∧ k + k2 ≤ n ∧ k ≤ kk ∧ kk < k + k2 ∧ PairsAt wr g off n ∧ w.grownBy wr (some g)) (fun _ s5 _ => n - (intOf s5).toNat)
            case atStart => exact ⟨k, 1, rfl, rfl, Nat.le_refl _, by omega, Nat.le_refl _, by omega, hPd, hod⟩
            case round =>
              obtain ⟨kk, k2, rfl, rfl, h1, hle, hkl, hku, hPw, how⟩ := hrel
              have hgw := hPw.lt
              have hk20 : (0 : Int) ≤ (k2 : Int) := by omega
              by_cases hlt2 : k + k2 < n
              · obtain ⟨p2, hp2⟩ : ∃ p2, k2 = p2 + 1 := ⟨k2 - 1, by omega⟩
                obtain ⟨u1, u2, b0, b1⟩ := hPw.cells (j := k + k2) hlt2
                obtain ⟨v1, v2, a0, a1⟩ := hPw.cells (j := k + p2) (by omega)
                obtain ⟨o1, o2, q0, q1⟩ := hPw.cells (j := kk) (by omega)
                have f0 := hPw.free (off + kk * 2)
                have f1 := hPw.free (off + kk * 2 + 1)
                rw [show off + (k + k2) * 2 = off + k * 2 + k2 * 2 from by omega] at b0 b1
                rw [show off + (k + p2) * 2 = off + k * 2 + p2 * 2 from by omega] at a0 a1
                have hr2 : (k2 : Int) < (r : Int) := by omega
                have hki2 : (k2 : Int) - 1 = (p2 : Int) := by omega
                have hkw2 : IntKind.i64.wrap (p2 : Int) = (p2 : Int) := IntWalk.i64_in _ (by omega)
                have hp20 : (0 : Int) ≤ (p2 : Int) := by omega
                have hp2r : (p2 : Int) < (r : Int) := by omega
                have hkk0 : (0 : Int) ≤ (kk : Int) := by omega
                have hkkn : (kk : Int) < (n : Int) := by omega
                replace hp2 := hide hp2
                have heq0 := fun W : World => start_equal u1 u2 v1 v2 W
                by_cases hd : u1 = v1 ∧ u2 = v2
                · have heq : ∀ W : World, (Op.equalIn 10000 70 (.agg #[.int .i64 u1, .int .i64 u2]) (.agg #[.int .i64 v1, .int .i64 v2])).run Tryz.prog W = .ok true W := fun W => (heq0 W).trans (by rw [hd.1, hd.2]; simp)
                  clear heq0 hd
                  go_upto_region 11 with fail
                  go_region
                  all_goals
                    clear b0 b1 a0 a1 q0 q1 f0 f1 heq
                    go_wp2_with fail
                    go_roundw
                    case rel => exact ⟨kk, k2 + 1, rfl, by go_num, by omega, by omega, hkl, by omega, by first | exact hPw | exact hPw.drew, by first | exact how | exact how.trans (only_of_below (ext_drew (Below.refl _ _)) _)⟩
                    case measure => simp [intOf]; omega
                · have heq : ∀ W : World, (Op.equalIn 10000 70 (.agg #[.int .i64 u1, .int .i64 u2]) (.agg #[.int .i64 v1, .int .i64 v2])).run Tryz.prog W = .ok false W := fun W => (heq0 W).trans (by
                    by_cases h1 : u1 = v1
                    · have h2 : ¬ u2 = v2 := fun h => hd ⟨h1, h⟩
                      simp [h2]
                    · simp [h1])
                  clear heq0 hd
                  go_upto_region 11 with fail
                  go_region
                  all_goals
                    have hPd := hPw.drew
                    have hod : w.grownBy wr.drew (some g) := how.trans (only_of_below (ext_drew (Below.refl _ _)) _)
                    have b0d : wr.drew.cell? ⟨g, off + k * 2 + k2 * 2, none⟩ = some (.int .i64 u1) := b0
                    have b1d : wr.drew.cell? ⟨g, off + k * 2 + k2 * 2 + 1, none⟩ = some (.int .i64 u2) := b1
                    have q0d : wr.drew.cell? ⟨g, off + kk * 2, none⟩ = some (.int .i64 o1) := q0
                    have q1d : wr.drew.cell? ⟨g, off + kk * 2 + 1, none⟩ = some (.int .i64 o2) := q1
                    have f0d : wr.drew.frozen? ⟨g, off + kk * 2, none⟩ = false := f0
                    have f1d : wr.drew.frozen? ⟨g, off + kk * 2 + 1, none⟩ = false := f1
                    have hgd : g < wr.drew.heap.size := hgw
                    clear heq b0 b1 q0 q1 f0 f1 a0 a1 hPw how hgw
                    generalize wr.drew = wv at *
                    have hPn := hPd.set kk u1 u2
                    have hon : w.grownBy ((wv.setCell ⟨g, off + kk * 2, none⟩ (.int .i64 u1)).setCell ⟨g, off + kk * 2 + 1, none⟩ (.int .i64 u2)) (some g) := only_setCell (only_setCell hod (Or.inl rfl) _) (Or.inl rfl) _
                    clear hPd hod
                    go_wp2_with fail
                    go_roundw
                    case rel => exact ⟨kk + 1, k2 + 1, by go_num, by go_num, by omega, by omega, by omega, by omega, hPn, hon⟩
                    case measure => simp [intOf]; omega
              · have hke : k + k2 = n := by omega
                have hcl0 := fun ty => run_clear_starts wr ty g off n kk (c - kk) (by omega) hPw
                obtain ⟨vs, hvs⟩ : ∃ vs, (Builtin.zeroCells (Value.agg #[.int .i64 0, .int .i64 0]).cells (n - kk)).toList = vs := ⟨_, rfl⟩
                rw [hvs] at hcl0
                have hon : w.grownBy (wr.setCells g (off + kk * 2) vs) (some g) := setCells_grown _ _ _ how
                have hki2 : ¬ (k2 : Int) < (r : Int) := by omega
                have hkk0 : (0 : Int) ≤ (kk : Int) := by omega
                have hkkn : (kk : Int) ≤ (n : Int) := by omega
                have hkkc : (kk : Int) ≤ (c : Int) := by omega
                have hckk : ¬ c = kk := by omega
                have hkn : kk < n := by omega
                clear hPw how hvs hke
                go_wp2_with fail
                go_ret
                exact ⟨kk, rfl, by omega, (fun h => by rw [hfin.out] at h; cases h), fun _ => hkn, hon⟩
        · have heq : ∀ W : World, (Op.equalIn 10000 70 (.agg #[.int .i64 x1, .int .i64 x2]) (.agg #[.int .i64 y1, .int .i64 y2])).run Tryz.prog W = .ok false W := fun W => (heq0 W).trans (by
            by_cases h1 : x1 = y1
            · have h2 : ¬ x2 = y2 := fun h => hd ⟨h1, h⟩
              simp [h2]
            · simp [h1])
          have hnew : Hid (∀ j x y, j + 1 < k + 1 → l[j]? = some x → l[j + 1]? = some y → x ≠ y) := hide (fun j u v hj hu hv => by
            by_cases e : j + 1 < k
            · exact ho.out j u v e hu hv
            · have : j = p := by have := hp.out; omega
              subst this
              rw [hy] at hu
              rw [← hp.out, hx] at hv
              cases Option.some.inj hu
              cases Option.some.inj hv
              intro e2
              injection e2 with e3 e4
              exact hd ⟨e3.symm, e4.symm⟩)
          clear heq0 hd hx hy ho
          go_upto_region 6 with fail
          go_region
          all_goals
            clear c0 c1 d0 d1 heq
            go_wp2_with fail
            go_roundw
            case rel => exact ⟨k + 1, by omega, by omega, by go_num, by first | exact hb | exact ext_drew hb, hnew⟩
            case measure => simp [intOf]; omega
      · obtain rfl : k = n := by omega
        have hd : Hid (nextDiff l = true) := hide (hnx.out.2 fun j x y hx hy => ho.out j x y (by have := (List.getElem?_eq_some_iff.1 hy).1; rw [hn.out] at this; exact this) hx hy)
        have hkk : ¬ (k : Int) < (k : Int) := by omega
        have hor : w.grownBy wr (some g) := only_of_below hb _
        clear hL hP hnx
        go_wp2_with fail
        go_ret
        exact ⟨k, rfl, Nat.le_refl _, fun _ => rfl, (fun h => by rw [hd.out] at h; cases h), hor⟩
set_option maxHeartbeats 1000000 in
theorem cloneS_walk (B : Nat) (A : Option Addr) (l : List (Int × Int)) (n c : Nat) (w : World) (hn : l.length = n) (hbig : n ≤ 2000000000) (h : Own kStart 70 [] 0 B w (.slice A n c) l) :
    Calls Tryz.prog 114 #[.slice A n c] w fun e w' => ∃ A' c', e = .returned (.slice A' n c') ∧ Own kStart 70 [] 0 w.heap.size w' (.slice A' n c') l ∧ Below w.heap.size w w' := by
  subst hn
  have h' := own_starts.1 h
  have q45 : ∀ (w : World) (a : Option Addr) (n c n' c' : Nat), (binOp .eql 45 (.slice a n c) (.slice none n' c')).run Tryz.prog w = .ok (.bool a.isNone) w := fun w a n c n' c' => Lib.run_eql_slice_nil w _ _ a n c n' c' Tryz.underlying45
  have u45 : ∀ w, Sem.run Tryz.prog (underlying 45) w = .ok (TypeDesc.slice 70) w := run_underlying Tryz.underlying45
  rcases h'.2 with ⟨he, h0⟩ | ⟨g, cap, cur, he, hB, hg, hn2, hm, hsz, ht⟩
  · obtain rfl := List.eq_nil_of_length_eq_zero h0
    injection he with e1 e2 e3
    subst e1 e3
    clear e2
    clear h h'
    go_enter Tryz.func114, Tryz.ntmps114
    go_wp2
    go_ret
    exact ⟨none, 0, rfl, Own.nil, Below.refl _ _⟩
  · injection he with e1 e2 e3
    subst e1 e3
    obtain ⟨i0, hi, hz0, hz1, hz2⟩ := info_parts infoStart
    have hcl : ∀ j u, (l.flatMap encS)[j]? = some u → w.cell? ((⟨g, 0, none⟩ : Addr).add j) = some u := fun j u hj => h'.cells (g := g) rfl j u hj
    have hfl : (l.flatMap encS).length = l.length * 2 := h'.1
    have hgl := blk_lt hg
    replace h' := hide h'
    clear h ht hsz hg
    go_enter Tryz.func114, Tryz.ntmps114
    go_wp2_with (at_builtin; refine wpList_append_own _ rfl _ _ 45 rfl w.heap.size 70 i0 (.agg #[.int .i64 0, .int .i64 0]) 2 16 Tryz.underlying45 hi hz0 hz1 hz2 rfl (by decide) _ _ _ rfl (World.ownsRow_made w #[] 0 (Nat.le_refl _) (Nat.zero_le _) rfl) ⟨g, 0, none⟩ l.length c (l.flatMap encS) rfl ?qc1 ?qc2 ?qc3 ?qc4 ?qc5 ?qc6 ?_)
    case qc2 => exact fun j u hj => by have := hcl j u hj; rw [Addr.add_lit] at this; simpa using this
    case qc3 => intro u a b _ hx; simp [encS] at hx; rcases hx with rfl | rfl <;> rfl
    case qc4 => unfold maxLen; omega
    case qc5 => omega
    intro v' w1 hown hgrow hnil
    obtain ⟨A', c', rfl⟩ := owns_form hown
    have hb := ((Below.refl w.heap.size w).alloc (Nat.le_refl _) (.cells #[] 70)).grown hgrow (by simp) (by intro k hk; simp [Value.ownBlock] at hk; omega)
    have hO : Own kStart 70 [] 0 w.heap.size w1 (.slice A' l.length c') l := own_starts.2 hown
    replace hO := hide hO
    replace hb := hide hb
    clear hown hgrow hnil
    go_wp2
    go_ret
    exact ⟨A', c', rfl, hO.out, hb.out⟩
theorem compown_walk (B : Nat) (A : Option Addr) (l : List (Int × Int)) (n c : Nat) (w : World) (hn : l.length = n) (hbig : n ≤ 2000000000) (h : Own kStart 70 [] 0 B w (.slice A n c) l) :
    Calls Tryz.prog 113 #[.slice A n c] w fun e w' => ∃ A' m c', e = .returned (.slice A' m c') ∧ m ≤ n ∧ (nextDiff l = true → m = n) ∧ (nextDiff l = false → m < n) ∧ w.grownBy w' (Value.slice A n c).ownBlock := by
  have h' := own_starts.1 h
  rcases h'.2 with ⟨he, h0⟩ | ⟨g, cap, cur, he, hB, hg, hn2, hm, hsz, ht⟩
  · obtain rfl := List.eq_nil_of_length_eq_zero h0
    injection he with e1 e2 e3
    subst e1 e2 e3
    clear h h' hn
    go_enter Tryz.func113, Tryz.ntmps113
    go_wp2
    go_ret
    exact ⟨none, 0, 0, rfl, Nat.le_refl _, fun _ => rfl, (fun h => by cases h), World.grownBy.refl _ _⟩
  · injection he with e1 e2 e3
    subst e1 e3
    have hcell : ∀ j x, l[j]? = some x → cur[j * 2]? = some (.int .i64 x.1) ∧ cur[j * 2 + 1]? = some (.int .i64 x.2) := by
      intro j x hx
      have hjl := (List.getElem?_eq_some_iff.1 hx).1
      have hk : ∀ i u, i < 2 → (encS x)[i]? = some u → cur[j * 2 + i]? = some u := by
        intro i u hi hu
        have h1 := flatten_at (k := 2) (l.map encS) (fun vs hv => by obtain ⟨y, -, rfl⟩ := List.mem_map.1 hv; rfl) j i (encS x) (by rw [List.getElem?_map, hx]; rfl) hi
        rw [← List.flatMap_def, ← ht, List.getElem?_take_of_lt (by omega), Array.getElem?_toList, hu] at h1
        exact h1
      exact ⟨hk 0 _ (by omega) rfl, hk 1 _ (by omega) rfl⟩
    refine (compS_walk g 0 n c l w hn (by omega) (by omega) ⟨cur, _, hg, fun j hj => ?_⟩ (fun j x hx => ?_)).mono ?_
    · have hx : l[j]? = some l[j] := List.getElem?_eq_getElem (by omega)
      obtain ⟨h1, h2⟩ := hcell j _ hx
      exact ⟨_, _, by rw [Nat.zero_add]; exact h1, by rw [Nat.zero_add]; exact h2⟩
    · obtain ⟨h1, h2⟩ := hcell j x hx
      exact ⟨by rw [cell_of_row _ _ _ _ _ _ hg, Nat.zero_add]; exact h1, by rw [cell_of_row _ _ _ _ _ _ hg, Nat.zero_add]; exact h2⟩
    · rintro e w' ⟨m, rfl, h1, h2, h3, h4⟩
      exact ⟨_, m, c, rfl, h1, h2, h3, h4⟩
end Go.Proofs.YtimcdikeajbabaaGreatDoor

namespace Go.Proofs.YtimcdikeajbabaaGreatDoor
open Go.RowKit
set_option maxRecDepth 100000

def cboxV (q : Nine) : Array Value := #[.string q.z, .string q.co, .string q.pa, .int .i64 q.n, .slice q.A4 q.n4 q.c4, .int .i64 q.m, .slice q.A6 q.n6 q.c6, .slice q.A7 q.n7 q.c7, .slice q.A8 q.n8 q.c8]
def CBox (W : World) (g : Nat) (q : Nine) : Prop := W.heap[g]? = some (.cells (cboxV q) 47 (0, 0))
section
variable {W W' : World} {g : Nat} {q : Nine}
theorem cbox_new (W : World) (q : Nine) : CBox (W.alloc (.cells (cboxV q) 47)) W.heap.size q := heap_alloc_new _ _
theorem CBox.lt (h : CBox W g q) : g < W.heap.size := blk_lt h
theorem CBox.c0 (h : CBox W g q) : W.cell? ⟨g, 0, none⟩ = some (.string q.z) := by rw [cell_of_row _ _ _ _ _ _ h]; rfl
theorem CBox.c1 (h : CBox W g q) : W.cell? ⟨g, 1, none⟩ = some (.string q.co) := by rw [cell_of_row _ _ _ _ _ _ h]; rfl
theorem CBox.c2 (h : CBox W g q) : W.cell? ⟨g, 2, none⟩ = some (.string q.pa) := by rw [cell_of_row _ _ _ _ _ _ h]; rfl
theorem CBox.c3 (h : CBox W g q) : W.cell? ⟨g, 3, none⟩ = some (.int .i64 q.n) := by rw [cell_of_row _ _ _ _ _ _ h]; rfl
theorem CBox.c4 (h : CBox W g q) : W.cell? ⟨g, 4, none⟩ = some (.slice q.A4 q.n4 q.c4) := by rw [cell_of_row _ _ _ _ _ _ h]; rfl
theorem CBox.c5 (h : CBox W g q) : W.cell? ⟨g, 5, none⟩ = some (.int .i64 q.m) := by rw [cell_of_row _ _ _ _ _ _ h]; rfl
theorem CBox.c6 (h : CBox W g q) : W.cell? ⟨g, 6, none⟩ = some (.slice q.A6 q.n6 q.c6) := by rw [cell_of_row _ _ _ _ _ _ h]; rfl
theorem CBox.c7 (h : CBox W g q) : W.cell? ⟨g, 7, none⟩ = some (.slice q.A7 q.n7 q.c7) := by rw [cell_of_row _ _ _ _ _ _ h]; rfl
theorem CBox.c8 (h : CBox W g q) : W.cell? ⟨g, 8, none⟩ = some (.slice q.A8 q.n8 q.c8) := by rw [cell_of_row _ _ _ _ _ _ h]; rfl
theorem CBox.free (h : CBox W g q) (j : Nat) : W.frozen? ⟨g, j, none⟩ = false := by unfold CBox at h; simp [World.frozen?, h]
theorem CBox.later (h : CBox W g q) (hb : Below W.heap.size W W') : CBox W' g q := (hb.block _ h.lt).trans h
theorem CBox.alloc (h : CBox W g q) (o : Obj) : CBox (W.alloc o) g q := h.later (ext_alloc (Below.refl _ _) _)
theorem CBox.drew (h : CBox W g q) : CBox W.drew g q := h
theorem CBox.grown {row : Option Nat} (h : CBox W g q) (hg : W.grownBy W' row) (hne : row ≠ some g) : CBox W' g q := (hg.block _ h.lt (fun e => hne e.symm)).trans h
theorem CBox.set_other {b : Nat} (h : CBox W g q) (hne : b ≠ g) (j : Nat) (u : Value) : CBox (W.setCell ⟨b, j, none⟩ u) g q := by
  unfold CBox at h ⊢
  rw [← h]
  exact heap_setCell_other W ⟨b, j, none⟩ g u (fun e => hne e.symm)
theorem CBox.set0 (h : CBox W g q) (u : ByteArray) : CBox (W.setCell ⟨g, 0, none⟩ (.string u)) g { q with z := u } := (heap_setCell_same _ _ _ _ _ _ h).trans rfl
theorem CBox.set1 (h : CBox W g q) (u : ByteArray) : CBox (W.setCell ⟨g, 1, none⟩ (.string u)) g { q with co := u } := (heap_setCell_same _ _ _ _ _ _ h).trans rfl
theorem CBox.set2 (h : CBox W g q) (u : ByteArray) : CBox (W.setCell ⟨g, 2, none⟩ (.string u)) g { q with pa := u } := (heap_setCell_same _ _ _ _ _ _ h).trans rfl
theorem CBox.set3 (h : CBox W g q) (u : Int) : CBox (W.setCell ⟨g, 3, none⟩ (.int .i64 u)) g { q with n := u } := (heap_setCell_same _ _ _ _ _ _ h).trans rfl
theorem CBox.set4 (h : CBox W g q) (A : Option Addr) (n c : Nat) : CBox (W.setCell ⟨g, 4, none⟩ (.slice A n c)) g { q with A4 := A, n4 := n, c4 := c } := (heap_setCell_same _ _ _ _ _ _ h).trans rfl
theorem CBox.set5 (h : CBox W g q) (u : Int) : CBox (W.setCell ⟨g, 5, none⟩ (.int .i64 u)) g { q with m := u } := (heap_setCell_same _ _ _ _ _ _ h).trans rfl
theorem CBox.set6 (h : CBox W g q) (A : Option Addr) (n c : Nat) : CBox (W.setCell ⟨g, 6, none⟩ (.slice A n c)) g { q with A6 := A, n6 := n, c6 := c } := (heap_setCell_same _ _ _ _ _ _ h).trans rfl
theorem CBox.set7 (h : CBox W g q) (A : Option Addr) (n c : Nat) : CBox (W.setCell ⟨g, 7, none⟩ (.slice A n c)) g { q with A7 := A, n7 := n, c7 := c } := (heap_setCell_same _ _ _ _ _ _ h).trans rfl
theorem CBox.set8 (h : CBox W g q) (A : Option Addr) (n c : Nat) : CBox (W.setCell ⟨g, 8, none⟩ (.slice A n c)) g { q with A8 := A, n8 := n, c8 := c } := (heap_setCell_same _ _ _ _ _ _ h).trans rfl
end
end Go.Proofs.YtimcdikeajbabaaGreatDoor
