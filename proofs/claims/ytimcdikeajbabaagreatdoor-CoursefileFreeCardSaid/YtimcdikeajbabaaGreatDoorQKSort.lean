/- Walk of slices.SortFunc at starts. Conditions: the row is their own; fewer than 2^62 starts. -/
import Derived.Shelf.SlSortCmp.NoneTotal
import Derived.Ground.SlsfProg
import Derived.Test.YtimcdikeajbabaaGreatDoorShelfS
import Derived.Test.YtimcdikeajbabaaGreatDoorRows
import Derived.WalkKit
import Derived.WalkSpells
import Derived.WalkLawsBesides
import Derived.BigGuardPart
import Derived.Lib.Hide
import Derived.Laws.BitsAllLaws
import Derived.Laws.BitsLemmas
import Derived.Lib.LaidTab
import Derived.Test.YtimcdikeajbabaaGreatDoorShelf
import Derived.Lib.ConvBytes
import Derived.Deep.QuietTactic
import Derived.BigQuiet
import Derived.Laws.ResultCell
import Derived.RegionTactic
import Derived.BigRegion
import Derived.Deep.RegionHeld3
import Derived.Deep.DeepCutAuto
import Derived.Lib.SmallJoins
import Derived.Lib.SplitLaws
import Derived.Lib.CountLaws
import Derived.Lib.IndexMore
import Derived.Lib.Split
import Derived.Lib.Join
import Derived.Lib.ItoaNum
import Derived.Laws.AppendOwn
import Derived.Test.YtimcdikeajbabaaGreatDoorShelfT
import Derived.Lib.ItoaLen
import Derived.Lib.AppendIntMem
import Derived.Deep.AppendLies
import Derived.Lib.PathFns
import Derived.Maps.Range
import Derived.Lib.OwnBridge
import Derived.Sort.OwnSorted
import Derived.Sort.Walk0
import Derived.Test.YtimcdikeajbabaaGreatDoorCards
import Derived.Test.YtimcdikeajbabaaGreatDoorTie
import Derived.ProofKit
import Derived.OpenShut
import Derived.LaidMore
import Derived.Lay
import Derived.SevenTiedAt
import Derived.Stop.Joined
import Derived.Stop.LaidErr
import Derived.Deep.DeepHandedRow
import Derived.Lib.LaidU8
import Derived.LaidSub
import Derived.Deep.Slices
import Derived.Deep.Fields
import Derived.ChangeSame
import Derived.Test.YtimcdikeajbabaaGreatDoorQROneQ
import Derived.Test.YtimcdikeajbabaaGreatDoorQKStart1
namespace Go.Proofs
open Go.Shelf
def Tryz.sortStart_ren : Go.Shelf.Ren := ⟨fun | 6 => 111 | 15 => 153 | 14 => 152 | 28 => 196 | 29 => 197 | 20 => 188 | 21 => 189 | 22 => 190 | 23 => 191 | 24 => 192 | 25 => 193 | 26 => 194 | 27 => 195 | 46 => 228 | 47 => 229 | 48 => 230 | 49 => 231 | 50 => 232 | 57 => 252 | n => n, fun | 22 => 45 | 24 => 70 | 25 => 165 | 3 => 3 | 39 => 132 | 0 => 0 | 53 => 225 | 55 => 193 | 4 => 4 | 46 => 219 | 45 => 218 | 50 => 150 | 5 => 5 | 9 => 9 | 66 => 247 | 70 => 251 | 76 => 265 | 77 => 226 | n => n, fun | n => n⟩
theorem Tryz.sortStart : Go.Proofs.SlLaysF0.n6 Tryz.prog Tryz.sortStart_ren := {
  mixed := by kernel_rfl
  f6 := ⟨Tryz.f111.name, by decide, Tryz.func111.trans (congrArg some (by kernel_rfl))⟩
  f14 := ⟨Tryz.f152.name, by decide, Tryz.func152.trans (congrArg some (by kernel_rfl))⟩
  f15 := Tryz.func153.trans (congrArg some (by kernel_rfl))
  f20 := ⟨Tryz.f188.name, by decide, Tryz.func188.trans (congrArg some (by kernel_rfl))⟩
  f21 := ⟨Tryz.f189.name, by decide, Tryz.func189.trans (congrArg some (by kernel_rfl))⟩
  f22 := ⟨Tryz.f190.name, by decide, Tryz.func190.trans (congrArg some (by kernel_rfl))⟩
  f23 := ⟨Tryz.f191.name, by decide, Tryz.func191.trans (congrArg some (by kernel_rfl))⟩
  f24 := ⟨Tryz.f192.name, by decide, Tryz.func192.trans (congrArg some (by kernel_rfl))⟩
  f25 := ⟨Tryz.f193.name, by decide, Tryz.func193.trans (congrArg some (by kernel_rfl))⟩
  f26 := ⟨Tryz.f194.name, by decide, Tryz.func194.trans (congrArg some (by kernel_rfl))⟩
  f27 := ⟨Tryz.f195.name, by decide, Tryz.func195.trans (congrArg some (by kernel_rfl))⟩
  f28 := Tryz.func196.trans (congrArg some (by kernel_rfl))
  f29 := Tryz.func197.trans (congrArg some (by kernel_rfl))
  f46 := ⟨Tryz.f228.name, by decide, Tryz.func228.trans (congrArg some (by kernel_rfl))⟩
  f47 := Tryz.func229.trans (congrArg some (by kernel_rfl))
  f48 := Tryz.func230.trans (congrArg some (by kernel_rfl))
  f49 := ⟨Tryz.f231.name, by decide, Tryz.func231.trans (congrArg some (by kernel_rfl))⟩
  f50 := ⟨Tryz.f232.name, by decide, Tryz.func232.trans (congrArg some (by kernel_rfl))⟩
  f57 := ⟨Tryz.f252.name, by decide, Tryz.func252.trans (congrArg some (by kernel_rfl))⟩
  t0 := Tryz.underlying0
  a0 := Tryz.isAgg0
  z0 := Tryz.sizeOf0
  v0 := Tryz.zeroValue0
  t3 := Tryz.underlying3
  a3 := Tryz.isAgg3
  z3 := Tryz.sizeOf3
  v3 := Tryz.zeroValue3
  t4 := Tryz.underlying4
  a4 := Tryz.isAgg4
  z4 := Tryz.sizeOf4
  v4 := Tryz.zeroValue4
  t5 := Tryz.underlying5
  a5 := Tryz.isAgg5
  z5 := Tryz.sizeOf5
  v5 := Tryz.zeroValue5
  t9 := Tryz.underlying9
  a9 := Tryz.isAgg9
  z9 := Tryz.sizeOf9
  v9 := Tryz.zeroValue9
  t22 := Tryz.underlying45
  a22 := Tryz.isAgg45
  z22 := Tryz.sizeOf45
  v22 := Tryz.zeroValue45
  t25 := Tryz.underlying165
  a25 := Tryz.isAgg165
  z25 := Tryz.sizeOf165
  v25 := Tryz.zeroValue165
  t39 := Tryz.underlying132
  a39 := Tryz.isAgg132
  z39 := Tryz.sizeOf132
  v39 := Tryz.zeroValue132
  t45 := Tryz.underlying218
  a45 := Tryz.isAgg218
  z45 := Tryz.sizeOf218
  v45 := Tryz.zeroValue218
  t46 := Tryz.underlying219
  a46 := Tryz.isAgg219
  z46 := Tryz.sizeOf219
  v46 := Tryz.zeroValue219
  t50 := Tryz.underlying150
  a50 := Tryz.isAgg150
  z50 := Tryz.sizeOf150
  v50 := Tryz.zeroValue150
  t53 := Tryz.underlying225
  a53 := Tryz.isAgg225
  z53 := Tryz.sizeOf225
  v53 := Tryz.zeroValue225
  t55 := Tryz.underlying193
  a55 := Tryz.isAgg193
  z55 := Tryz.sizeOf193
  v55 := Tryz.zeroValue193
  t66 := Tryz.underlying247
  a66 := Tryz.isAgg247
  z66 := Tryz.sizeOf247
  v66 := Tryz.zeroValue247
  t70 := Tryz.underlying251
  a70 := Tryz.isAgg251
  z70 := Tryz.sizeOf251
  v70 := Tryz.zeroValue251
  t76 := Tryz.underlying265
  a76 := Tryz.isAgg265
  z76 := Tryz.sizeOf265
  v76 := Tryz.zeroValue265
  t77 := Tryz.underlying226
  a77 := Tryz.isAgg226
  z77 := Tryz.sizeOf226
  v77 := Tryz.zeroValue226 }
end Go.Proofs
namespace Go.Proofs.YtimcdikeajbabaaGreatDoor
open Go.RowKit Go.Sort
set_option maxRecDepth 100000

def encS (x : Int × Int) : List Value := [.int .i64 x.1, .int .i64 x.2]
theorem ltP (x y : Int × Int) : ltOf ordP x y = lessB x y := by
  unfold ltOf
  cases h : lessB x y with
  | true => exact decide_eq_true ((ordP_neg x y).2 h)
  | false => exact decide_eq_false fun h' => by rw [(ordP_neg x y).1 h'] at h; cases h
theorem swoP : SWO (ltOf ordP) where
  irrefl x := by rw [ltP, lessB_no]; omega
  trans x y z h1 h2 := by rw [ltP, lessB_iff] at *; omega
  ntrans x y z h1 h2 := by rw [ltP, lessB_no] at *; omega
theorem flatS_list (d : List (Int × Int)) : (flatK encS 2 d.toArray).toList = d.flatMap encS := by
  refine List.ext_getElem? fun t => ?_
  have hs : (flatK encS 2 d.toArray).size = d.length * 2 := by simp
  by_cases ht : t < d.length * 2
  · have h1 : (flatK encS 2 d.toArray).toList[t]? = some ((flatK encS 2 d.toArray)[t]!) := by
      rw [Array.getElem?_toList, Array.getElem?_eq_getElem (by omega), getElem!_pos _ t (by omega)]
    have hq : t / 2 < d.length := by omega
    rw [h1, get_flatK _ _ _ _ (by simpa using ht), List.flatMap_def]
    have h2 := flatten_at (k := 2) (d.map encS) (fun vs hv => by obtain ⟨x, -, rfl⟩ := List.mem_map.1 hv; rfl) (t / 2) (t % 2) (encS d[t / 2]) (by rw [List.getElem?_map, List.getElem?_eq_getElem hq]; rfl) (by omega)
    rw [show t / 2 * 2 + t % 2 = t from by omega] at h2
    rw [h2, getElem!_pos d.toArray (t / 2) (by simpa using hq)]
    simp only [List.getElem_toArray]
    have h3 : t % 2 < (encS d[t / 2]).length := by show t % 2 < 2; omega
    rw [List.getElem?_eq_getElem h3, getElem!_pos _ (t % 2) h3]
  · rw [List.getElem?_eq_none (by rw [Array.length_toList]; omega), List.getElem?_eq_none]
    rw [List.flatMap_def]
    have : (d.map encS).flatten.length = d.length * 2 := by
      rw [List.length_flatten, List.map_map]
      clear hs ht
      induction d with
      | nil => rfl
      | cons x d ih => simp [encS] at ih ⊢; omega
    omega
theorem heap_putK {w : World} {g n : Nat} {os : Array Obj} {cur F : Array Value} {e : TypeId} {fr : Nat × Nat} (hb : w.heap[g]? = some (.cells cur e fr)) :
    (grow (putRow id (Sort.ahead w n) g 0 F) os).heap[g]? = some (.cells (putCells id 0 F cur) e fr) := by
  have hg : g < w.heap.size := (Array.getElem?_eq_some_iff.1 hb).1
  rw [heap_grow_old _ _ (by simpa using hg)]
  simp [putRow, mapBlock, Sort.ahead, Array.getElem?_modify, hb, onCells]
theorem grownBy_putK {w : World} {g n : Nat} {os : Array Obj} (F : Array Value) : w.grownBy (grow (putRow id (Sort.ahead w n) g 0 F) os) (some g) := by
  refine ⟨rfl, rfl, rfl, by simp, fun k hk hne => ?_⟩
  rw [heap_grow_old _ _ (by simpa using hk)]
  have : g ≠ k := fun e => hne (by rw [e])
  simp [putRow, mapBlock, Sort.ahead, Array.getElem?_modify, this]
theorem take_putK (cur F : Array Value) (h : F.size ≤ cur.size) : (putCells id 0 F cur).toList.take F.size = F.toList := by
  apply List.ext_getElem?
  intro j
  by_cases hj : j < F.size
  · rw [List.getElem?_take_of_lt hj, Array.getElem?_toList]
    simp [putCells, hj, show j < cur.size by omega]
  · rw [List.getElem?_take_eq_none (by omega), List.getElem?_eq_none (by simp; omega)]
/-- A row of starts, as the walk has it. -/
theorem own_starts {B : Nat} {w : World} {v : Value} {l : List (Int × Int)} : Own kStart 70 [] 0 B w v l ↔ w.ownsRow B 70 2 v l.length (l.flatMap encS) := by
  constructor
  · rintro ⟨vss, e1, e2, e3⟩
    have : vss = l.map encS := by
      refine List.ext_getElem? fun j => ?_
      rw [List.getElem?_map]
      rcases Nat.lt_or_ge j l.length with hj | hj
      · have hv : vss[j]? = some (vss[j]'(by omega)) := List.getElem?_eq_getElem (by omega)
        have hl : l[j]? = some l[j] := List.getElem?_eq_getElem hj
        obtain ⟨us, ts, h1, h2, h3⟩ := e3 j _ _ hl hv
        rw [hv, hl, h1]
        rw [rep_int] at h2 h3
        rw [h2, h3]; rfl
      · rw [List.getElem?_eq_none (by omega), List.getElem?_eq_none (by omega)]; rfl
    rw [this, ← List.flatMap_def] at e2
    exact e2
  · intro h
    refine ⟨l.map encS, by simp, by rw [← List.flatMap_def]; exact h, fun j x vs hj hv => ?_⟩
    rw [List.getElem?_map, hj] at hv
    cases Option.some.inj hv
    exact ⟨[_], [_], rfl, rfl, rfl⟩
def SortedGives (B : Nat) (A : Option Addr) (c : Nat) (l : List (Int × Int)) (w : World) (e : Ending) (w' : World) : Prop :=
  e = .returned (.tuple #[]) ∧ Own kStart 70 [] 0 B w' (.slice A l.length c) (ascP l) ∧ w.grownBy w' (Value.slice A l.length c).ownBlock
theorem sort_none (A : Option Addr) (c : Nat) (w : World) :
    Calls Tryz.prog 111 #[.slice A 0 c, .func (.func 112) #[] #[]] w fun e w' => e = .returned (.tuple #[]) ∧ w' = w := AnyF.slices_SortFunc_none Tryz.sortStart A c _ w
set_option maxHeartbeats 1000000 in
theorem sortS_walk (B : Nat) (A : Option Addr) (c : Nat) (l : List (Int × Int)) (w : World) (hl : l.length < 4611686018427387904) (h : Own kStart 70 [] 0 B w (.slice A l.length c) l) :
    Calls Tryz.prog 111 #[.slice A l.length c, .func (.func 112) #[] #[]] w fun e w' => SortedGives B A c l w e w' := by
  have h' := own_starts.1 h
  rcases h'.2 with ⟨he, h0⟩ | ⟨g, cap, cur, he, hB, hg, hn, hm, hsz, ht⟩
  · obtain rfl := List.eq_nil_of_length_eq_zero h0
    refine (sort_none A c w).mono fun e w' ⟨h1, h2⟩ => ⟨h1, ?_, ?_⟩
    · rw [h2]; exact h
    · rw [h2]; exact World.grownBy.refl _ _
  · injection he with h1 _ h2
    subst h1 h2
    have eg : ∀ args w, (callFunc 112 args).run Tryz.prog w = .ok (.enter 112 args) w := enters_of Tryz.func112 (by kernel_rfl) rfl
    have hH : HoldsK encS 2 w g 0 l.toArray := by
      intro j hj
      have hj2 : j < l.length * 2 := by simpa using hj
      refine ⟨?_, by simp [World.frozen?, hg]⟩
      have h1 : (cur.toList.take (l.length * 2))[j]? = (flatK encS 2 l.toArray).toList[j]? := by rw [ht, flatS_list]
      rw [List.getElem?_take_of_lt hj2] at h1
      rw [Nat.zero_add, cell_of_row w g j cur _ (0, 0) hg, ← Array.getElem?_toList, h1, Array.getElem?_toList, Array.getElem?_eq_getElem hj, getElem!_pos _ j hj]
      rfl
    have hcon := AnyQ.slices_SortFunc Tryz.sortStart 2 Tryz.isAgg70 Tryz.sizeOf70 encS (fun _ => rfl) (fun x v hv => by simp [encS] at hv; rcases hv with rfl | rfl <;> rfl) ordP swoP 112 #[] g 0 c l.toArray w eg (fun _ _ _ _ x y => corder_grow x.1 x.2 y.1 y.2 _) hH (blk_lt hg) (by simpa using hl)
    change Calls Tryz.prog 111 _ _ _ at hcon
    rw [List.size_toArray] at hcon
    refine hcon.mono ?_
    rintro e w' ⟨h1, d', n, os, ⟨hs, -, hp⟩, hso, rfl⟩
    obtain ⟨m, rfl⟩ : ∃ m : List (Int × Int), d' = m.toArray := ⟨d'.toList, by simp⟩
    have hml : m.length = l.length := by simpa using hs
    have hperm : m.Perm l := by
      have h2 : (m.toArray.extract 0 l.length).toList = m := by rw [← hml]; simp
      have h3 : (l.toArray.extract 0 l.length).toList = l := by simp
      rw [h2, h3] at hp
      exact hp
    have hpw : m.Pairwise (LeG lessB) := by
      rw [List.pairwise_iff_getElem]
      intro i j hi hj hij
      have := hso i j (Nat.zero_le _) hij (by omega)
      rw [ltP, getElem!_pos _ i (by simpa using hi), getElem!_pos _ j (by simpa using hj)] at this
      simpa [LeG] using this
    have hme := ascP_eq hperm hpw
    refine ⟨h1, ?_, grownBy_putK _⟩
    rw [← hme]
    refine own_starts.2 ?_
    rw [hml]
    have hF : (flatK encS 2 m.toArray).size = l.length * 2 := by rw [size_flatK, List.size_toArray, hml]
    have hb : (sortWorldK encS 2 w g 0 n m.toArray os).heap[g]? = some (.cells (putCells id 0 (flatK encS 2 m.toArray) cur) 70 (0, 0)) := heap_putK hg
    refine ⟨?_, .inr ⟨g, c, _, rfl, hB, hb, hn, hm, by simp [putCells, hsz], ?_⟩⟩
    · have := congrArg List.length (flatS_list m)
      rw [Array.length_toList, hF] at this
      exact this.symm
    · rw [← flatS_list m, ← hF]
      exact take_putK cur _ (by rw [hF, hsz]; omega)
end Go.Proofs.YtimcdikeajbabaaGreatDoor
