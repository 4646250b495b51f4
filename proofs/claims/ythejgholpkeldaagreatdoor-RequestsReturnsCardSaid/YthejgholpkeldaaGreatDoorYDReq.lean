/- Walk of Dice.Requests: what is made. Conditions: the dice's cells; the classes'. -/
import Derived.Test.YthejgholpkeldaaGreatDoorShelfS
import Derived.Test.YthejgholpkeldaaGreatDoorRows
import Derived.WalkKit
import Derived.WalkSpells
import Derived.WalkLawsBesides
import Derived.BigGuardPart
import Derived.Lib.Hide
import Derived.Laws.BitsAllLaws
import Derived.Laws.BitsLemmas
import Derived.Lib.LaidTab
import Derived.Test.YthejgholpkeldaaGreatDoorShelf
import Derived.Lib.ConvBytes
import Derived.Deep.QuietTactic
import Derived.BigQuiet
import Derived.Laws.ResultCell
import Derived.RegionTactic
import Derived.BigRegion
import Derived.Deep.RegionHeld3
import Derived.Deep.DeepCutAuto
import Derived.Lib.SmallJoins
import Derived.Lib.SplitLaws
import Derived.Lib.CountLaws
import Derived.Lib.IndexMore
import Derived.Lib.Split
import Derived.Lib.Join
import Derived.Lib.ItoaNum
import Derived.Laws.AppendOwn
import Derived.Test.YthejgholpkeldaaGreatDoorShelfT
import Derived.Lib.ItoaLen
import Derived.Lib.AppendIntMem
import Derived.Deep.AppendLies
import Derived.Lib.PathFns
import Derived.Maps.Range
import Derived.Lib.OwnBridge
import Derived.Sort.OwnSorted
import Derived.Deep.RegionLaw
import Derived.Deep.RegionLawGrows
import Derived.Test.YthejgholpkeldaaGreatDoorCards
import Derived.Test.YthejgholpkeldaaGreatDoorTie
import Derived.ProofKit
import Derived.OpenShut
import Derived.LaidMore
import Derived.Lay
import Derived.SevenTiedAt
import Derived.Stop.Joined
import Derived.Stop.LaidErr
import Derived.Deep.DeepHandedRow
import Derived.Lib.LaidU8
import Derived.LaidSub
import Derived.Deep.Slices
import Derived.Deep.Fields
import Derived.ChangeSame
import Derived.Sort.Walk0
import Derived.Maps.OwnSet
import Derived.StringKeys
import Derived.Sort.LotA
import Derived.Shelf.SlSortCmp.NoneTotal
import Derived.Shelf.SlSortCmp.InsertionK
import Derived.Shelf.SlSortCmp.SiftDownK
import Derived.Shelf.SlSortCmp.KitK
import Derived.Shelf.SlSortCmp.ReverseRangeK
import Derived.Test.YthejgholpkeldaaGreatDoorYStabQ
import Derived.Test.YthejgholpkeldaaGreatDoorYDCur
import Derived.Test.YthejgholpkeldaaGreatDoorYReqOwn
import Derived.Test.YthejgholpkeldaaGreatDoorYStudL
namespace Go.Proofs.YthejgholpkeldaaGreatDoor
open Go.RowKit
set_option maxRecDepth 100000

def digB (q : Nat) : ByteArray := ⟨#[UInt8.ofNat (48 + q)]⟩
theorem conv_cell {V : World} {nb : Nat} (q : Nat) (hq : q ≤ 100) (h : V.cell? ⟨nb, 0, none⟩ = some (.int .u8 (48 + (q : Int)))) (cap : Nat) : (convert 46 9 (.slice (some ⟨nb, 0, none⟩) 1 cap)).run Tryz.prog V = .ok (.string ⟨#[UInt8.ofNat (48 + q)]⟩) V :=
  run_convert_bytes_back _ 46 9 5 ⟨nb, 0, none⟩ cap [UInt8.ofNat (48 + q)] Tryz.underlying46 Tryz.underlying5 Tryz.underlying9 (by
    intro j hj
    have hj : j = 0 := by simp at hj; omega
    subst hj
    have he : ((UInt8.ofNat (48 + q)).toNat : Int) = 48 + (q : Int) := by
      rw [UInt8.toNat_ofNat']; omega
    simp [Addr.add, h]
    omega)
theorem lt_ofCell {w : World} {b o : Nat} {v : Value} (h : w.cell? ⟨b, o, none⟩ = some v) : b < w.heap.size := World.block_lt_of_cell? w ⟨b, o, none⟩ h
theorem keepByte {B g b : Nat} {V w4 : World} {v : Value} (h : Thrown B V g w4) (hg : b ≠ g) (hb : V.heap[b]? = some (.cells #[v] 5 (0, 0))) : w4.cell? ⟨b, 0, none⟩ = some v := by
  have hb4 : w4.heap[b]? = some (.cells #[v] 5 (0, 0)) := (h.only.block b (Array.getElem?_eq_some_iff.1 hb).1 (fun e => by injection e with e; exact hg e)).trans hb
  rw [cell_of_row w4 b _ _ _ _ hb4]; rfl
theorem keepBox {B g b : Nat} {V w4 : World} {x0 x1 x2 x3 : Value} (h : Thrown B V g w4) (hg : b ≠ g) (hb : V.heap[b]? = some (.cells #[x0, x1, x2, x3] 53 (0, 0))) :
    w4.heap[b]? = some (.cells #[x0, x1, x2, x3] 53 (0, 0)) ∧ w4.cell? ⟨b, 0, none⟩ = some x0 ∧ w4.cell? ⟨b, 1, none⟩ = some x1 ∧ w4.cell? ⟨b, 2, none⟩ = some x2 ∧ w4.cell? ⟨b, 3, none⟩ = some x3 ∧ ∀ j, w4.frozen? ⟨b, j, none⟩ = false := by
  have hb4 : w4.heap[b]? = some (.cells #[x0, x1, x2, x3] 53 (0, 0)) := (h.only.block b (Array.getElem?_eq_some_iff.1 hb).1 (fun e => by injection e with e; exact hg e)).trans hb
  refine ⟨hb4, ?_, ?_, ?_, ?_, fun j => by simp [World.frozen?, hb4]⟩ <;> (rw [cell_of_row w4 b _ _ _ _ hb4]; rfl)
/-- A world on the way: the dice, and a course. -/
structure DqSt (B : Nat) (w : World) (g b o : Nat) (y : ByteArray) (V : World) : Prop where
  thrown : Thrown B w g V
  cell : V.cell? ⟨b, o, none⟩ = some (.string y)
theorem DqSt.alloc {B g b o : Nat} {w V : World} {y : ByteArray} (h : DqSt B w g b o y V) (x : Obj) : DqSt B w g b o y (V.alloc x) := ⟨h.thrown.alloc x, cell_alloc_of h.cell x⟩
theorem DqSt.drew {B g b o : Nat} {w V : World} {y : ByteArray} (h : DqSt B w g b o y V) : DqSt B w g b o y V.drew := ⟨h.thrown.later (ext_drew (Below.refl _ _)), h.cell⟩
theorem rowBox {W : World} {bx : Nat} {x0 x1 x2 x3 : Value} (h : W.heap[bx]? = some (.cells #[x0, x1, x2, x3] 53 (0, 0))) : Box4 W bx x0 x1 x2 x3 ∧ ∀ j, W.frozen? ⟨bx, j, none⟩ = false := by
  refine ⟨⟨?_, ?_, ?_, ?_⟩, fun j => by simp [World.frozen?, h]⟩ <;> (rw [cell_of_row W bx _ _ _ _ h]; rfl)
theorem keepRow {B g b : Nat} {V w4 : World} {o : Obj} (h : Thrown B V g w4) (hg : b ≠ g) (hb : V.heap[b]? = some o) : w4.heap[b]? = some o :=
  (h.only.block b (Array.getElem?_eq_some_iff.1 hb).1 (fun e => by injection e with e; exact hg e)).trans hb
theorem notTy {W : World} {C bx : Nat} {cs : Array Value} {fr : Nat × Nat} (h : W.heap[bx]? = some (.cells cs 53 fr)) : ¬ (C ≤ bx ∧ TyAt [9] W bx) := by
  rintro ⟨-, cs', t', hc, ht⟩
  rw [h] at hc
  injection hc with h3
  injection h3 with _ h4
  rw [← h4] at ht
  exact absurd ht (by decide)
theorem At.tyOnly {g C bx : Nat} {a b : World} {A : Option Addr} {L : List ByteArray} {cs : Array Value} {e : TypeId} {fr : Nat × Nat} (h : At kStr (fun x => x ≠ g ∧ Ty [9] 0 C a x) a A L) (ho : Only bx a b) (hx : a.heap[bx]? = some (.cells cs e fr)) (he : e ≠ 9) : At kStr (fun x => x ≠ g ∧ Ty [9] 0 C b x) b A L :=
  h.kept fun x ⟨h1, h2⟩ hlt => by
    have hne : some x ≠ some bx := by
      intro e1
      injection e1 with e1
      subst e1
      rcases h2 with h2 | ⟨-, cs', t, h3, h4⟩
      · exact absurd h2 (Nat.not_lt_zero _)
      · rw [hx] at h3
        injection h3 with h3
        injection h3 with _ h5
        rw [← h5] at h4
        exact he (by simpa using h4)
    have hb := ho.block x hlt hne
    refine ⟨⟨h1, ?_⟩, Nat.lt_of_lt_of_le hlt ho.size, hb⟩
    rcases h2 with h2 | ⟨h2, cs', t, h3, h4⟩
    · exact .inl h2
    · exact .inr ⟨h2, cs', t, hb.trans h3, h4⟩
/-- The box of a request that was just made. -/
structure RqBox (B : Nat) (w : World) (g bx : Nat) (x0 x1 x2 x3 : Value) (W : World) : Prop where
  thrown : Thrown B w g W
  lo : w.heap.size ≤ bx
  row : W.heap[bx]? = some (.cells #[x0, x1, x2, x3] 53 (0, 0))
theorem RqBox.alloc {B g bx : Nat} {w W : World} {x0 x1 x2 x3 : Value} (h : RqBox B w g bx x0 x1 x2 x3 W) (o : Obj) : RqBox B w g bx x0 x1 x2 x3 (W.alloc o) := ⟨h.thrown.alloc o, h.lo, block_after h.row⟩
theorem RqBox.new {B g : Nat} {w W : World} (h : Thrown B w g W) (x0 x1 x2 x3 : Value) : RqBox B w g W.heap.size x0 x1 x2 x3 (W.alloc (.cells #[x0, x1, x2, x3] 53)) :=
  ⟨h.alloc _, h.size, heap_alloc_new _ _⟩
theorem RqBox.new2 {B g : Nat} {w W : World} (h : Thrown B w g W) (o : Obj) (x0 x1 x2 x3 : Value) : RqBox B w g (W.heap.size + 1) x0 x1 x2 x3 ((W.alloc o).alloc (.cells #[x0, x1, x2, x3] 53)) := by
  have := RqBox.new (h.alloc o) x0 x1 x2 x3
  rwa [World.size_alloc] at this
theorem RqBox.set {B g bx : Nat} {w W : World} (h : Thrown B w g W) (hlo : w.heap.size ≤ bx) {v0 v1 v2 v3 : Value} (hb : W.heap[bx]? = some (.cells #[v0, v1, v2, v3] 53 (0, 0))) (x0 x1 x2 x3 : Value) :
    RqBox B w g bx x0 x1 x2 x3 ((((W.setCell ⟨bx, 0, none⟩ x0).setCell ⟨bx, 1, none⟩ x1).setCell ⟨bx, 2, none⟩ x2).setCell ⟨bx, 3, none⟩ x3) :=
  ⟨h.set4 hlo _ _ _ _, hlo, (heap_setCell_same _ _ _ _ _ _ ((heap_setCell_same _ _ _ _ _ _ ((heap_setCell_same _ _ _ _ _ _ ((heap_setCell_same _ _ _ _ _ _ hb).trans rfl)).trans rfl)).trans rfl)).trans rfl⟩
def RqCut (B : Nat) (w : World) (g k : Nat) (y : ByteArray) (s9 : Value) (wx : World) : Prop :=
  ∃ bx p : Nat, s9 = .pointer (some ⟨bx, 0, none⟩) ∧ p < 9 ∧ RqBox B w g bx (.string (sName k)) (.string y) (.int .i64 (1 + (p : Int))) (.slice none 0 0) wx
theorem RqCut.of {B g k bx p : Nat} {w wx : World} {y : ByteArray} (h : RqBox B w g bx (.string (sName k)) (.string y) (.int .i64 (1 + (p : Int))) (.slice none 0 0) wx) (hp : p < 9) : RqCut B w g k y (.pointer (some ⟨bx, 0, none⟩)) wx := ⟨bx, p, rfl, hp, h⟩
theorem sName_is (q : Nat) : (⟨#[115]⟩ : ByteArray) ++ digB q = sName q := rfl
def DReq (B : Nat) (w : World) (g : Nat) (e : Ending) (w' : World) : Prop :=
  ∃ v ls, e = .returned v ∧ QMade ls ∧ Own kReq 53 [9] 0 w.heap.size w' v ls ∧ Thrown B w g w'
/-- What was made while s students are still to come, and the first i courses of the one at hand are done. -/
def QUpto (L : List ByteArray) (s i : Nat) (ls : List Req) : Prop :=
  (∀ x ∈ ls, ReqIs x ∧ x.2.1 ∈ L ∧ ∃ q, q ≤ 5 ∧ x.1 = sName q ∧ (s < q ∨ q = s ∧ x.2.1 ∈ L.take i)) ∧ (ls.map keyQ).Nodup ∧ ls.length ≤ (5 - s) * 3 + i
theorem QUpto.key {L : List ByteArray} {s i : Nat} {ls : List Req} (h : QUpto L s i ls) (hL : L.Nodup) {c : ByteArray} (hc : L[i]? = some c) (hs1 : 1 ≤ s) (hs : s ≤ 5) : ¬ (sName s, c) ∈ ls.map keyQ := by
  intro hm
  obtain ⟨x, hx, he⟩ := List.mem_map.1 hm
  unfold keyQ at he
  injection he with e1 e2
  obtain ⟨-, -, q, hq5, hq, hor⟩ := h.1 x hx
  rcases hor with hlt | ⟨rfl, hmem⟩
  · have := (sName_ok s (by omega) hs1).2.2 q (by omega) (by omega) (hq.symm.trans e1)
    omega
  · rw [e2] at hmem
    obtain ⟨k, hk⟩ := List.getElem?_of_mem hmem
    rw [List.getElem?_take] at hk
    split at hk
    · rename_i hki
      exact get_nodup hL hki hk hc
    · cases hk
theorem QUpto.skip {L : List ByteArray} {s i : Nat} {ls : List Req} (h : QUpto L s i ls) : QUpto L s (i + 1) ls := by
  obtain ⟨h1, h2, h3⟩ := h
  refine ⟨fun x hx => ?_, h2, by omega⟩
  obtain ⟨a, b, q, hq5, hq, hor⟩ := h1 x hx
  refine ⟨a, b, q, hq5, hq, ?_⟩
  rcases hor with hlt | ⟨hqs, hm⟩
  · exact Or.inl hlt
  · refine Or.inr ⟨hqs, ?_⟩
    rw [List.take_add_one]
    exact List.mem_append_left _ hm
theorem QUpto.snoc {L : List ByteArray} {s i : Nat} {ls : List Req} (h : QUpto L s i ls) (hL : L.Nodup) {c : ByteArray} (hc : L[i]? = some c) (hs1 : 1 ≤ s) (hs : s ≤ 5) {x : Req} (hx1 : x.1 = sName s) (hx2 : x.2.1 = c) (hx : ReqIs x) : QUpto L s (i + 1) (ls ++ [x]) := by
  have hk := h.key hL hc hs1 hs
  obtain ⟨h1, h2, h3⟩ := h.skip
  refine ⟨fun y hy => ?_, ?_, by have := h.2.2; rw [List.length_append]; simp; omega⟩
  · rcases List.mem_append.1 hy with hy | hy
    · exact h1 y hy
    · simp at hy
      subst hy
      refine ⟨hx, by rw [hx2]; exact List.mem_of_getElem? hc, s, hs, hx1, Or.inr ⟨rfl, ?_⟩⟩
      rw [List.take_add_one, hc, hx2]
      simp
  · rw [List.map_append]
    refine List.nodup_append.2 ⟨h2, by simp, fun a ha b hb => ?_⟩
    simp at hb
    subst hb
    rintro rfl
    apply hk
    have : keyQ x = (sName s, c) := by unfold keyQ; rw [hx1, hx2]
    rw [← this]
    exact ha
theorem QUpto.down {L : List ByteArray} {s : Nat} {ls : List Req} (h : QUpto L (s + 1) L.length ls) (hL : L.length ≤ 3) (hs : s ≤ 4) : QUpto L s 0 ls := by
  obtain ⟨h1, h2, h3⟩ := h
  refine ⟨fun x hx => ?_, h2, by omega⟩
  obtain ⟨a, b, q, hq5, hq, hor⟩ := h1 x hx
  exact ⟨a, b, q, hq5, hq, Or.inl (by rcases hor with h | ⟨h, -⟩ <;> omega)⟩
theorem QUpto.down' {L : List ByteArray} {k i : Nat} {ls : List Req} (h : QUpto L k i ls) (hi : i = L.length) (hk : 1 ≤ k) (hL : L.length ≤ 3) (hk5 : k ≤ 5) : QUpto L (k - 1) 0 ls := by
  obtain ⟨s, rfl⟩ : ∃ s, k = s + 1 := ⟨k - 1, by omega⟩
  subst hi
  exact h.down hL (by omega)
theorem QUpto.made {L : List ByteArray} {s : Nat} {ls : List Req} (h : QUpto L s 0 ls) : QMade ls := ⟨by have := h.2.2; omega, fun x hx => (h.1 x hx).1, h.2.1⟩
/-- The requests made so far, the list of courses, the dice. -/
def DQLoop (B : Nat) (w : World) (g : Nat) (L : List ByteArray) (A5 : Option Addr) (v6 v7 : Value) (wr : World) : Prop :=
  ∃ (k : Nat) (ls : List Req), v7 = .int .i64 k ∧ k ≤ 5 ∧ QUpto L k 0 ls ∧ Own kReq 53 [9] 0 w.heap.size wr v6 ls ∧ Thrown B w g wr ∧ At kStr (fun b => b ≠ g ∧ Ty [9] 0 w.heap.size wr b) wr A5 L
def DQIn (B : Nat) (w : World) (g : Nat) (L : List ByteArray) (A5 : Option Addr) (k : Nat) (v6 v8 : Value) (wr : World) : Prop :=
  ∃ (i : Nat) (ls : List Req), v8 = .int .i64 i ∧ i ≤ L.length ∧ QUpto L k i ls ∧ Own kReq 53 [9] 0 w.heap.size wr v6 ls ∧ Thrown B w g wr ∧ At kStr (fun b => b ≠ g ∧ Ty [9] 0 w.heap.size wr b) wr A5 L
def DqNext (B : Nat) (w V0 : World) (g b o : Nat) (y : ByteArray) (e : Ending) (V : World) : Prop := ∃ k : Nat, e = .returned (.int .i64 (k : Int)) ∧ k < 9 ∧ DqSt B w g b o y V ∧ V.cell? ⟨b, o, none⟩ = some (.string y) ∧ Thrown B V0 g V
set_option maxHeartbeats 80000000 in
theorem dreq_walk (B g : Nat) (A : Option Addr) (l : List Cls) (c : Nat) (w : World) (h : DiceOk B w g) (hl : l.length ≤ 1000) (hA : At kCls (fun b => b ≠ g) w A l) (hm : ∀ x ∈ l, x.2.1 ∈ mcourses) :
    Calls Tryz.prog 8 #[.pointer (some ⟨g, 0, none⟩), .slice A l.length c] w fun e w' => DReq B w g e w' := by
  have hcw := courses_walk A l c w (by omega) hA.any
  obtain ⟨L, hL⟩ : ∃ L, coursesV l [] = L := ⟨_, rfl⟩
  have hLn : L.Nodup := by rw [← hL]; exact coursesV_nodup l [] (by simp)
  have hLm : ∀ z ∈ L, z ∈ mcourses := fun z hz => by
    rw [← hL] at hz
    rcases coursesV_mem l [] z hz with h | ⟨x, hx, rfl⟩
    · simp at h
    · exact hm x hx
  have hLl : L.length ≤ 3 := hLn.length_le_of_subset hLm
  unfold CrsIs at hcw
  rw [hL] at hcw
  clear hL hA hm
  obtain ⟨n, hnn⟩ : ∃ n, l.length = n := ⟨_, rfl⟩
  rw [hnn] at hcw ⊢
  clear hnn hl
  have hgw := h.lt
  replace hLn := hide hLn
  replace hLm := hide hLm
  go_enter Tryz.func8, Tryz.ntmps8
  go_wp2_with fail
  refine hcw.mono ?_
  clear hcw
  rintro e w1 ⟨v5, rfl, hown, hb1⟩
  obtain ⟨A5, c5, rfl⟩ := hown.form
  have hat : At kStr (fun b => b ≠ g ∧ Ty [9] 0 w.heap.size w1 b) w1 A5 L := by
    obtain ⟨A', c', e, -, h1⟩ := hown.at
    injection e with e _ _
    subst e
    refine h1.more fun b hb => ⟨?_, hb⟩
    rcases hb with hb | ⟨hb, -⟩
    · exact absurd hb (Nat.not_lt_zero _)
    · omega
  have hcap := hown.cap
  have D1 := h.later hb1
  have T1 : Thrown B w g w1 := ⟨hgw, D1, only_of_below hb1 _⟩
  clear hown h D1 hb1
  go_wp2_with fail
  refine (next_walk B g 6 (by omega) w1 T1.dice).mono ?_
  rintro e w2 ⟨k0, rfl, p2, q2, -, T2, -⟩
  have q2 := q2 (by omega)
  obtain ⟨k0, rfl⟩ := Int.eq_ofNat_of_zero_le p2
  replace hat := hat.tyTossed T2
  replace T1 := T1.trans T2
  clear T2 p2
  go_wp2_with fail
  go_loopw [6, 7] (fun v6 v7 wr => DQLoop B w g L A5 v6 v7 wr) (fun _ v7 _ => (intOf v7).toNat)
  case atStart => exact ⟨k0, [], rfl, by omega, ⟨fun x hx => by simp at hx, by simp, by simp⟩, Own.nil, T1, hat⟩
  case round =>
    clear hat T1
    obtain ⟨k, ls, rfl, hk, hmade, hown, T, hat⟩ := hrel
    by_cases hgo : 0 < k ∧ 0 < L.length
    · obtain ⟨hk0, hL0⟩ := hgo
      have hk1 : (0 : Int) < (k : Int) := by omega
      have hL1 : (0 : Int) < (L.length : Int) := by omega
      have hnw : IntKind.i64.wrap ((k : Int) - 1) = ((k - 1 : Nat) : Int) := by rw [IntKind.wrap_i64]; omega
      obtain ⟨M, hM⟩ : ∃ M, L.length = M := ⟨_, rfl⟩
      rw [hM] at hL1 hLl hL0 ⊢
      replace hM := hide hM
      go_wp2_with fail
      go_loopw [6, 8] (fun v6 v8 wi => DQIn B w g L A5 k v6 v8 wi) (fun _ v8 _ => M - (intOf v8).toNat)
      case atStart => exact ⟨0, ls, rfl, Nat.zero_le _, hmade, hown, T, hat⟩
      case round =>
        clear hmade hown T hat
        obtain ⟨i, ls, rfl, hi, hmade, hown, T, hat⟩ := hrel
        rw [hM.out] at hi
        by_cases hlt : i < M
        · obtain ⟨y, hy⟩ : ∃ y, L[i]? = some y := ⟨_, List.getElem?_eq_getElem (by rw [hM.out]; exact hlt)⟩
          have hi0 : (0 : Int) ≤ (i : Int) := by omega
          have hi1 : (i : Int) < (M : Int) := by omega
          go_wp2_with fail
          refine (one_walk B g 2 (by omega) (by omega) wr T.dice).mono ?_
          rintro e w3 ⟨bo, rfl, T3⟩
          have hown3 := hown.thrown T3 hgw (Nat.zero_le _)
          have hat3 := hat.tyTossed T3
          have TT := T.trans T3
          clear hown hat T T3
          cases bo with
          | false =>
            go_wp2_with fail
            go_roundw
            case rel => exact ⟨i + 1, ls, by go_num, by rw [hM.out]; omega, hmade.skip, hown3, TT, hat3⟩
            case measure => first | (simp [intOf]; done) | (simp [intOf]; omega)
          | true =>
            obtain ⟨cb, co, rfl, ⟨hcg, -⟩, hcl, y0⟩ := hat3.str hy
            have hg3 : g < w3.heap.size := by have := TT.size; omega
            have hst : DqSt B w3 g cb (co + i) y w3 := ⟨Thrown.refl TT.dice, y0⟩
            have hstd := hst.drew
            have w48 : IntKind.u8.wrap (48 + (k : Int)) = 48 + (k : Int) := by simp [IntKind.wrap, IntKind.bits, IntKind.signed]; omega
            have w48b : IntKind.i64.wrap (48 + (k : Int)) = 48 + (k : Int) := by rw [IntKind.wrap_i64]; omega
            have hnext := hide (fun (V : World) (hV : DqSt B w3 g cb (co + i) y V) => (next_walk B g 9 (by omega) V hV.thrown.dice).mono fun e V' ⟨v, he, p, q', _, T', _⟩ => (by
              obtain ⟨v, rfl⟩ := Int.eq_ofNat_of_zero_le p
              have := q' (by omega)
              exact ⟨v, he, by omega, ⟨hV.thrown.trans T', T'.cell hcg hV.cell⟩, T'.cell hcg hV.cell, T'⟩ : DqNext B w3 V g cb (co + i) y e V'))
            have hk100 : k ≤ 100 := by omega
            have hconv : ∀ (V : World) (nb : Nat), V.cell? ⟨nb, 0, none⟩ = some (.int .u8 (48 + (k : Int))) → (convert 46 9 (.slice (some ⟨nb, 0, none⟩) 1 1)).run Tryz.prog V = .ok (.string (digB k)) V := fun V nb hV => conv_cell k hk100 hV 1
            have hsn := sName_is k
            go_upto_region 10 with fail
            go_cut [9] (fun s9 wx => RqCut B w3 g k y s9 wx)
            case first =>
              have y0d : w3.drew.cell? ⟨cb, co + i, none⟩ = some (.string y) := y0
              have hgn : w3.heap.size ≠ g := by omega
              have hgn1 : w3.heap.size + 1 ≠ g := by omega
              go_region_with (first | (go_at_call 13; refine (hnext.out _ (by repeat (first | (with_reducible assumption) | (with_reducible refine DqSt.alloc ?_ _) | (with_reducible refine DqSt.drew ?_)))).mono ?_; rintro e w4 ⟨p, rfl, hp, hst4, hy4, hon4⟩; have hyl4 := lt_ofCell hy4; have hpw : IntKind.i64.wrap (1 + (p : Int)) = 1 + (p : Int) := (by rw [IntKind.wrap_i64]; omega); (try (have hb4 := keepByte hon4 hgn (heap_alloc_new _ _); have hl4 := lt_ofCell hb4)); (try (have hb4 := keepByte hon4 hgn (block_after (heap_alloc_new _ _)); have hl4 := lt_ofCell hb4)); (try (have hb5 := keepByte hon4 hgn1 (heap_new2 _ _ _); have hl5 := lt_ofCell hb5)); (try (obtain ⟨hxb, hx0, hx1, hx2, hx3, hxf⟩ := keepBox hon4 hgn (heap_alloc_new _ _); have hl6 := lt_ofCell hx0)); (try (obtain ⟨hxb, hx0, hx1, hx2, hx3, hxf⟩ := keepBox hon4 hgn (block_after (heap_alloc_new _ _)); have hl6 := lt_ofCell hx0)); (try (obtain ⟨hyb, hy0, hy1, hy2, hy3, hyf⟩ := keepBox hon4 hgn1 (heap_new2 _ _ _); have hl7 := lt_ofCell hy0))))
              all_goals
                go_wp2_with fail
                go_meet
                (try simp only [hsn])
                first
                  | (with_reducible exact RqCut.of (RqBox.new hst4.thrown _ _ _ _) hp)
                  | (with_reducible exact RqCut.of (RqBox.new2 hst4.thrown _ _ _ _ _) hp)
                  | (with_reducible exact RqCut.of ((RqBox.new hst4.thrown _ _ _ _).alloc _) hp)
                  | (with_reducible exact RqCut.of (RqBox.set hst4.thrown (Nat.le_succ _) hyb _ _ _ _) hp)
                  | (with_reducible exact RqCut.of (RqBox.set hst4.thrown (Nat.le_refl _) hxb _ _ _ _) hp)
                  | (with_reducible exact RqCut.of ((RqBox.set hst4.thrown (Nat.le_refl _) hxb _ _ _ _).alloc _) hp)
                  | (exact RqCut.of (RqBox.new hst4.thrown _ _ _ _) hp)
            case rest =>
              obtain ⟨bx, p, rfl, hp, hR⟩ := hcut
              have hsep : ∀ b, u6.ownBlock = some b → b < w3.heap.size := fun b hb => (hown3.lt b hb).2
              have hown5 := hown3.thrown hR.thrown hgw (Nat.zero_le _)
              have hat5 := hat3.tyTossed hR.thrown
              have TT5 := TT.trans hR.thrown
              have hlo := hR.lo
              have hzw3 := TT.size
              have hbg : bx ≠ g := by omega
              have hRow := hR.row
              have hsep2 : u6.ownBlock ≠ some bx := fun e => by have := hsep bx e; omega
              have hlen : ls.length ≤ 15 := by have := hmade.2.2; omega
              have hym : y ∈ mcourses := hLm.out y (List.mem_of_getElem? hy)
              have hwbx : w.heap.size ≤ bx := by omega
              clear hown3 hat3 TT y0 hst hnext hconv hsn hcl hzw3 hR hsep
              obtain ⟨j, hj, hjM⟩ : ∃ j : Nat, Int.tmod ((i : Int) + 1) (M : Int) = (j : Int) ∧ j < M := ⟨(i + 1) % M, by rw [show ((i : Int) + 1) = ((i + 1 : Nat) : Int) from by omega]; exact (Int.ofNat_tmod _ _).symm, Nat.mod_lt _ hL0⟩
              have hiw : IntKind.i64.wrap ((i : Int) + 1) = (i : Int) + 1 := by rw [IntKind.wrap_i64]; omega
              have hjw : IntKind.i64.wrap (j : Int) = (j : Int) := by rw [IntKind.wrap_i64]; omega
              have hMz : ¬ (M : Int) = 0 := by omega
              by_cases hji : j = i
              · have hjb : ((j : Int) == (i : Int)) = true := by simp [hji]
                have hjq : (j : Int) = (i : Int) := by omega
                obtain ⟨hBx, hFx⟩ := rowBox hRow
                have hld := load4q wc bx _ _ _ _ hBx.c0 hBx.c1 hBx.c2 hBx.c3
                have h0 := hBx.c0
                have h1 := hBx.c1
                have h2 := hBx.c2
                have h3 := hBx.c3
                have hrq := Kind.tyL kReq (req_rep (z := sName k) (co := y) (m := 1 + (p : Int)) (l := []) (F := none) (n := 0) (c := 0) (S := Ty [9] 0 w.heap.size wc) (W := wc) ⟨none, 0, rfl, Nat.le_refl _, fun h => absurd h (Nat.lt_irrefl 0)⟩) (ext_alloc (Below.refl _ _) (.cells #[.string (sName k), .string y, .int .i64 (1 + (p : Int)), .slice none 0 0] 53))
                have hown9 := hown5.alloc (.cells #[.string (sName k), .string y, .int .i64 (1 + (p : Int)), .slice none 0 0] 53)
                have hmade6 := hide (hmade.snoc (x := (sName k, y, 1 + (p : Int), [])) hLn.out hy (by omega) (by omega) rfl rfl ⟨⟨k, by omega, by omega, rfl⟩, hym, (by show (1 : Int) ≤ 1 + (p : Int); omega), (by show 1 + (p : Int) ≤ 9; omega), Or.inl rfl⟩)
                have hzz := TT5.size
                obtain ⟨A6, c6, rfl⟩ := hown5.form
                have hl6 : ls.length ≤ 15 := hlen
                go_wp2_with (at_builtin; refine wpList_own rfl _ _ rfl apd_reqs (by decide) rfl hown9 ?d1 (by decide) ⟨wc.heap.size, 0, none⟩ 1 rfl (sName k, y, 1 + (p : Int), []) [.string (sName k), .string y, .int .i64 (1 + (p : Int)), .slice none 0 0] hrq (World.news_of_block (cs := #[.string (sName k), .string y, .int .i64 (1 + (p : Int)), .slice none 0 0]) (t := 53) (fr := (0, 0)) (heap_alloc_new _ _)) (by decide) (Nat.zero_le _) ?d2 ?_)
                case d1 => omega
                case d2 => simp only [World.size_alloc]; omega
                intro v9 w9 hownF hgrow
                have T9 : Thrown B w g w9 := (TT5.alloc _).grown hgrow (fun y hy => (hown9.lt y hy).1)
                have hat9 : At kStr (fun x => x ≠ g ∧ Ty [9] 0 w.heap.size w9 x) w9 (some ⟨cb, co, none⟩) L := by
                  obtain ⟨vss, -, ho, -⟩ := hown9
                  exact (hat5.tyLater (ext_alloc (Below.refl _ _) _)).tyGrown ho (by decide) hgrow
                clear hown9 hgrow hrq h0 h1 h2 h3 hld hBx hFx
                go_wp2
                go_roundw
                case rel => exact ⟨i + 1, ls ++ [(sName k, y, 1 + (p : Int), [])], by go_num, by rw [hM.out]; omega, hmade6.out, hownF, T9, hat9⟩
                case measure => first | (simp [intOf]; done) | (simp [intOf]; omega)
              · have hjb : ((j : Int) == (i : Int)) = false := beq_false_of_ne (by omega)
                have hjq : ¬ (j : Int) = (i : Int) := by omega
                go_wp2_with fail
                refine (one_walk B g 2 (by omega) (by omega) wc TT5.dice).mono ?_
                rintro e w6 ⟨bo, rfl, T6⟩
                have hown7 := hown5.thrown T6 hgw (Nat.zero_le _)
                have hat7 := hat5.tyTossed T6
                have TT7 := TT5.trans T6
                have hRow7 := keepRow T6 hbg hRow
                clear hown5 hat5 TT5 hRow T6
                cases bo with
                | false =>
                  obtain ⟨hBx, hFx⟩ := rowBox hRow7
                  have hld := load4q w6 bx _ _ _ _ hBx.c0 hBx.c1 hBx.c2 hBx.c3
                  have h0 := hBx.c0
                  have h1 := hBx.c1
                  have h2 := hBx.c2
                  have h3 := hBx.c3
                  have hrq := Kind.tyL kReq (req_rep (z := sName k) (co := y) (m := 1 + (p : Int)) (l := []) (F := none) (n := 0) (c := 0) (S := Ty [9] 0 w.heap.size w6) (W := w6) ⟨none, 0, rfl, Nat.le_refl _, fun h => absurd h (Nat.lt_irrefl 0)⟩) (ext_alloc (Below.refl _ _) (.cells #[.string (sName k), .string y, .int .i64 (1 + (p : Int)), .slice none 0 0] 53))
                  have hown9 := hown7.alloc (.cells #[.string (sName k), .string y, .int .i64 (1 + (p : Int)), .slice none 0 0] 53)
                  have hmade6 := hide (hmade.snoc (x := (sName k, y, 1 + (p : Int), [])) hLn.out hy (by omega) (by omega) rfl rfl ⟨⟨k, by omega, by omega, rfl⟩, hym, (by show (1 : Int) ≤ 1 + (p : Int); omega), (by show 1 + (p : Int) ≤ 9; omega), Or.inl rfl⟩)
                  have hzz := TT7.size
                  obtain ⟨A6, c6, rfl⟩ := hown7.form
                  have hl6 : ls.length ≤ 15 := hlen
                  go_wp2_with (at_builtin; refine wpList_own rfl _ _ rfl apd_reqs (by decide) rfl hown9 ?d1 (by decide) ⟨w6.heap.size, 0, none⟩ 1 rfl (sName k, y, 1 + (p : Int), []) [.string (sName k), .string y, .int .i64 (1 + (p : Int)), .slice none 0 0] hrq (World.news_of_block (cs := #[.string (sName k), .string y, .int .i64 (1 + (p : Int)), .slice none 0 0]) (t := 53) (fr := (0, 0)) (heap_alloc_new _ _)) (by decide) (Nat.zero_le _) ?d2 ?_)
                  case d1 => omega
                  case d2 => simp only [World.size_alloc]; omega
                  intro v9 w9 hownF hgrow
                  have T9 : Thrown B w g w9 := (TT7.alloc _).grown hgrow (fun y hy => (hown9.lt y hy).1)
                  have hat9 : At kStr (fun x => x ≠ g ∧ Ty [9] 0 w.heap.size w9 x) w9 (some ⟨cb, co, none⟩) L := by
                    obtain ⟨vss, -, ho, -⟩ := hown9
                    exact (hat7.tyLater (ext_alloc (Below.refl _ _) _)).tyGrown ho (by decide) hgrow
                  clear hown9 hgrow hrq h0 h1 h2 h3 hld hBx hFx
                  go_wp2
                  go_roundw
                  case rel => exact ⟨i + 1, ls ++ [(sName k, y, 1 + (p : Int), [])], by go_num, by rw [hM.out]; omega, hmade6.out, hownF, T9, hat9⟩
                  case measure => first | (simp [intOf]; done) | (simp [intOf]; omega)
                | true =>
                  obtain ⟨z, hz⟩ : ∃ z, L[j]? = some z := ⟨_, List.getElem?_eq_getElem (by rw [hM.out]; exact hjM)⟩
                  obtain ⟨cb', co', he, -, hcl7, z0⟩ := hat7.str hz
                  injection he with he
                  injection he with he1 he2
                  subst he1 he2
                  have hzm : z ∈ mcourses := hLm.out z (List.mem_of_getElem? hz)
                  have hzy : z ≠ y := by
                    rintro rfl
                    rcases Nat.lt_or_gt_of_ne hji with h | h
                    · exact get_nodup hLn.out h hz hy
                    · exact get_nodup hLn.out h hy hz
                  obtain ⟨hB7, hF7⟩ := rowBox hRow7
                  have h0 := hB7.c0
                  have h1 := hB7.c1
                  have h2 := hB7.c2
                  have h3 := hB7.c3
                  have hf3 := hF7 3
                  have hxl := hB7.lt
                  have hj0 : (0 : Int) ≤ (j : Int) := by omega
                  have hj1 : (j : Int) < (M : Int) := by omega
                  have honS : Only bx w6 (w6.setCell ⟨bx, 3, none⟩ (.slice (some ⟨w6.heap.size, 0, none⟩) 1 1)) := only_setCell (World.grownBy.refl _ _) (Or.inl rfl) _
                  have hownS := (hown7.kept honS (Or.inr hsep2) (fun x hx => by
                    injection hx with hx
                    subst hx
                    exact ⟨Nat.zero_le _, notTy hRow7⟩)).alloc (.cells #[.string z] 9)
                  have hatS := (hat7.tyOnly honS hRow7 (by decide)).tyLater (ext_alloc (Below.refl _ _) (.cells #[.string z] 9))
                  have hRow8 : ((w6.setCell ⟨bx, 3, none⟩ (.slice (some ⟨w6.heap.size, 0, none⟩) 1 1)).alloc (.cells #[.string z] 9)).heap[bx]? = some (.cells #[.string (sName k), .string y, .int .i64 (1 + (p : Int)), (.slice (some ⟨w6.heap.size, 0, none⟩) 1 1)] 53 (0, 0)) := block_after ((heap_setCell_same _ _ _ _ _ _ hRow7).trans rfl)
                  have TT8 := (TT7.set (p := ⟨bx, 3, none⟩) hwbx (.slice (some ⟨w6.heap.size, 0, none⟩) 1 1)).alloc (.cells #[.string z] 9)
                  have hsz6 := TT7.size
                  have hlit : Own kStr 9 [] 0 w.heap.size ((w6.setCell ⟨bx, 3, none⟩ (.slice (some ⟨w6.heap.size, 0, none⟩) 1 1)).alloc (.cells #[.string z] 9)) (.slice (some ⟨w6.heap.size, 0, none⟩) 1 1) [z] :=
                    Own.lit (K := kStr) (g := w6.heap.size) (cs := #[.string z]) (by have := heap_alloc_new (w6.setCell ⟨bx, 3, none⟩ (.slice (some ⟨w6.heap.size, 0, none⟩) 1 1)) (.cells #[.string z] 9); rwa [World.size_setCell] at this) [z] [[.string z]] rfl rfl (by simp) (fun j x vs hj hv => by
                      match j, hj, hv with
                      | 0, hj, hv =>
                        simp at hj hv
                        subst hj hv
                        exact rfl) hsz6
                  go_upto_region 14 with fail
                  obtain ⟨W8, hW8⟩ : ∃ V, (w6.setCell ⟨bx, 3, none⟩ (.slice (some ⟨w6.heap.size, 0, none⟩) 1 1)).alloc (.cells #[.string z] 9) = V := ⟨_, rfl⟩
                  rw [hW8] at hownS hatS hRow8 TT8 hlit ⊢
                  have hlr := hlit.rep
                  obtain ⟨v3, hv3⟩ : ∃ v : Nat, w6.heap.size = v := ⟨_, rfl⟩
                  clear hW8 h0 h1 h2 h3 hf3 hxl hB7 hF7 hRow7 hown7 hat7 TT7 honS hlit hsep2
                  rw [hv3] at hRow8 hlr ⊢
                  clear hv3
                  obtain ⟨hBx, hFx⟩ := rowBox hRow8
                  have hld := load4q W8 bx _ _ _ _ hBx.c0 hBx.c1 hBx.c2 hBx.c3
                  have h0 := hBx.c0
                  have h1 := hBx.c1
                  have h2 := hBx.c2
                  have h3 := hBx.c3
                  have hrq := Kind.tyL kReq (req_rep (z := sName k) (co := y) (m := 1 + (p : Int)) hlr) (ext_alloc (Below.refl _ _) (.cells #[.string (sName k), .string y, .int .i64 (1 + (p : Int)), .slice (some ⟨v3, 0, none⟩) 1 1] 53))
                  have hown9 := hownS.alloc (.cells #[.string (sName k), .string y, .int .i64 (1 + (p : Int)), .slice (some ⟨v3, 0, none⟩) 1 1] 53)
                  have hmade6 := hide (hmade.snoc (x := (sName k, y, 1 + (p : Int), [z])) hLn.out hy (by omega) (by omega) rfl rfl ⟨⟨k, by omega, by omega, rfl⟩, hym, (by show (1 : Int) ≤ 1 + (p : Int); omega), (by show 1 + (p : Int) ≤ 9; omega), Or.inr ⟨z, hzm, hzy, rfl⟩⟩)
                  have hzz := TT8.size
                  obtain ⟨A6, c6, rfl⟩ := hownS.form
                  have hl6 : ls.length ≤ 15 := hlen
                  go_wp2_with (at_builtin; refine wpList_own rfl _ _ rfl apd_reqs (by decide) rfl hown9 ?d1 (by decide) ⟨W8.heap.size, 0, none⟩ 1 rfl (sName k, y, 1 + (p : Int), [z]) [.string (sName k), .string y, .int .i64 (1 + (p : Int)), .slice (some ⟨v3, 0, none⟩) 1 1] hrq (World.news_of_block (cs := #[.string (sName k), .string y, .int .i64 (1 + (p : Int)), .slice (some ⟨v3, 0, none⟩) 1 1]) (t := 53) (fr := (0, 0)) (heap_alloc_new _ _)) (by decide) (Nat.zero_le _) ?d2 ?_)
                  case d1 => omega
                  case d2 => simp only [World.size_alloc]; omega
                  intro v9 w9 hownF hgrow
                  have T9 : Thrown B w g w9 := (TT8.alloc _).grown hgrow (fun y hy => (hown9.lt y hy).1)
                  have hat9 : At kStr (fun x => x ≠ g ∧ Ty [9] 0 w.heap.size w9 x) w9 (some ⟨cb, co, none⟩) L := by
                    obtain ⟨vss, -, ho, -⟩ := hown9
                    exact (hatS.tyLater (ext_alloc (Below.refl _ _) _)).tyGrown ho (by decide) hgrow
                  clear hown9 hgrow hrq h0 h1 h2 h3 hld hBx hFx
                  go_wp2
                  go_roundw
                  case rel => exact ⟨i + 1, ls ++ [(sName k, y, 1 + (p : Int), [z])], by go_num, by rw [hM.out]; omega, hmade6.out, hownF, T9, hat9⟩
                  case measure => first | (simp [intOf]; done) | (simp [intOf]; omega)
        · have hi1 : ¬ (i : Int) < (M : Int) := by omega
          have hmade2 := hide (hmade.down' (by rw [hM.out]; omega) (by omega) (by rw [hM.out]; exact hLl) hk)
          have hfin := hide hown
          clear hmade hown
          go_wp2
          go_roundw
          case rel => exact ⟨k - 1, ls, by go_num, by omega, hmade2.out, hfin.out, T, hat⟩
          case measure => first | (simp [intOf]; done) | (simp [intOf]; omega)
    · have hfin := hide hown
      have hmade2 := hide hmade.made
      by_cases hk0 : 0 < k
      · have hk1 : (0 : Int) < (k : Int) := by omega
        have hL0 : ¬ (0 : Int) < (L.length : Int) := by omega
        clear hown hmade
        go_wp2
        go_ret
        exact ⟨_, ls, rfl, hmade2.out, hfin.out, T⟩
      · have hk1 : ¬ (0 : Int) < (k : Int) := by omega
        clear hown hmade
        go_wp2
        go_ret
        exact ⟨_, ls, rfl, hmade2.out, hfin.out, T⟩
end Go.Proofs.YthejgholpkeldaaGreatDoor
