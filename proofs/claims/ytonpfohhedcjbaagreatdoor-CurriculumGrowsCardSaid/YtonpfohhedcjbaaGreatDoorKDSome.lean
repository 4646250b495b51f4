/- Walks of timetablemade.has and Dice.Codes: what is made, told by bounds. Conditions: the dice's cells. Walk of Dice.some: some of a list of strings. Conditions: the dice's cells; the strings'. -/
import Derived.Test.YtonpfohhedcjbaaGreatDoorKWide
import Derived.Test.YtonpfohhedcjbaaGreatDoorKWriteT
import Derived.Test.YtonpfohhedcjbaaGreatDoorKSpoilB
namespace Go.Proofs.YtonpfohhedcjbaaGreatDoor
open Go.RowKit
set_option maxRecDepth 100000

/-- The codes that lists are made of. -/
def codesL : List ByteArray := [⟨#[65, 49]⟩, ⟨#[65, 50]⟩, ⟨#[65, 51]⟩, ⟨#[65, 52]⟩, ⟨#[82, 48, 56]⟩, ⟨#[82, 48, 57]⟩, ⟨#[82, 49, 48]⟩, ⟨#[82, 49, 49]⟩, ⟨#[66]⟩, ⟨#[67, 45, 49]⟩, ⟨#[120]⟩, ⟨#[57]⟩, ⟨#[49, 48]⟩, ⟨#[49, 49]⟩, ⟨#[77, 65]⟩, ⟨#[90, 122]⟩]
theorem codesL_ok : ∀ x ∈ codesL, codeB x = true := by decide +kernel
theorem codesL_len : codesL.length = 16 := rfl
set_option maxHeartbeats 2000000 in
theorem mhas_walk (A : Option Addr) (xs : List ByteArray) (c : Nat) (z : ByteArray) (w : World) (hn : xs.length ≤ 9223372036854775807) (h : At kStr AnyB w A xs) :
    Calls Tryz.prog 43 #[.slice A xs.length c, .string z] w fun e w' => e = .returned (.bool (decide (0 ≤ idxS z xs))) ∧ w = w' := by
  obtain ⟨n, hnn⟩ : ∃ n, xs.length = n := ⟨_, rfl⟩
  rw [hnn] at hn ⊢
  replace hnn := hide hnn
  go_enter Tryz.func43, Tryz.ntmps43
  go_wp2
  go_loop [5] (fun i => ∃ j : Nat, j ≤ n ∧ i = .int .i64 j ∧ Hid (∀ y ∈ xs.take j, (y.toList == z.toList) = false)) (fun i => n - (intOf i).toNat)
  case atStart => exact ⟨0, Nat.zero_le _, rfl, hide (fun y hy => by simp at hy)⟩
  case round =>
    obtain ⟨j, hj, rfl, ho⟩ := hrel
    by_cases hlt : j < n
    · obtain ⟨x, hx⟩ : ∃ x, xs[j]? = some x := ⟨_, List.getElem?_eq_getElem (by rw [hnn.out]; exact hlt)⟩
      obtain ⟨b, off, rfl, -, hb, k0⟩ := h.str hx
      have hj0 : (0 : Int) ≤ (j : Int) := by omega
      have hj1 : (j : Int) < (n : Int) := by omega
      cases hq : (x.toList == z.toList) with
      | true =>
        have hit := hide (idxS_hit hx ho.out hq)
        clear hx h ho
        go_wp2
        go_ret
        exact ⟨ret_bool (by rw [hit.out]; simp), rfl⟩
      | false =>
        have miss := hide (take_miss hx ho.out hq)
        clear hx h ho
        go_wp2
        go_round
        case rel => exact ⟨j + 1, by omega, by go_num, miss⟩
        case measure => simp [intOf]; omega
    · obtain rfl : j = n := by omega
      have hall : Hid (idxS z xs = -1) := hide (idxS_none fun y hy => ho.out y (by rw [← hnn.out, List.take_length]; exact hy))
      go_wp2
      go_ret
      exact ⟨by rw [hall.out]; rfl, rfl⟩
/-- A text stands in a list, told in two ways. -/
theorem idx_mem {z : ByteArray} {xs : List ByteArray} : 0 ≤ idxS z xs ↔ z ∈ xs := by
  constructor
  · intro h
    apply Classical.byContradiction
    intro hz
    rw [idxS_none (fun y hy => by rw [toList_dataL, toList_dataL]; exact beq_false_of_ne fun e => hz (dat_inj e ▸ hy))] at h
    exact absurd h (by decide)
  · intro hz
    apply Classical.byContradiction
    intro h
    have hall : ∀ n, n ≤ xs.length → ∀ y ∈ xs.take n, (y.toList == z.toList) = false := by
      intro n
      induction n with
      | zero => intro _ y hy; simp at hy
      | succ n ih =>
        intro hn y hy
        have hx : xs[n]? = some xs[n] := List.getElem?_eq_getElem (by omega)
        cases hq : (xs[n].toList == z.toList) with
        | false => exact take_miss hx (ih (by omega)) hq y hy
        | true => rw [idxS_hit hx (ih (by omega)) hq] at h; exact absurd (by omega) h
    have := hall xs.length (Nat.le_refl _) z (by rw [List.take_length]; exact hz)
    simp at this
def codesA : Array Value := #[.string ⟨#[65, 49]⟩, .string ⟨#[65, 50]⟩, .string ⟨#[65, 51]⟩, .string ⟨#[65, 52]⟩, .string ⟨#[82, 48, 56]⟩, .string ⟨#[82, 48, 57]⟩, .string ⟨#[82, 49, 48]⟩, .string ⟨#[82, 49, 49]⟩, .string ⟨#[66]⟩, .string ⟨#[67, 45, 49]⟩, .string ⟨#[120]⟩, .string ⟨#[57]⟩, .string ⟨#[49, 48]⟩, .string ⟨#[49, 49]⟩, .string ⟨#[77, 65]⟩, .string ⟨#[90, 122]⟩]
/-- Codes that were made. -/
def CodesMade (L : List ByteArray) : Prop := L.length ≤ 16 ∧ L.Nodup ∧ ∀ x ∈ L, x ∈ codesL
def DCodes (B : Nat) (w : World) (g : Nat) (e : Ending) (w' : World) : Prop :=
  ∃ v L, e = .returned v ∧ CodesMade L ∧ Own kStr 9 [] 0 w.heap.size w' v L ∧ Thrown B w g w'
theorem Thrown.appended {B : Nat} {a b c : World} {g : Nat} {v : Value} (h : Thrown B a g b) (hg : b.grownBy c v.ownBlock) (hv : ∀ y, v.ownBlock = some y → a.heap.size ≤ y) : Thrown B a g c :=
  h.far (Below.grown (Below.refl a.heap.size b) hg h.size hv)
theorem Own.tossed {α : Type} {K : Kind α} {t : TypeId} {B C g : Nat} {a b : World} {v : Value} {l : List α} (h : Own K t [] 0 C a v l) (T : Thrown B a g b) (hg : g < C) : Own K t [] 0 C b v l :=
  h.kept T.only (by
    cases hv : v.ownBlock with
    | none => exact .inl rfl
    | some y => exact .inr fun e => by injection e with e; have := (h.lt y hv).1; omega) (fun y _ => ⟨Nat.zero_le _, fun h => by obtain ⟨-, cs, t', -, ht⟩ := h; simp at ht⟩)
/-- The array of the codes. -/
def CodesAt (w : World) (ga : Nat) : Prop := ∀ k x, codesL[k]? = some x → w.cell? ⟨ga, k, none⟩ = some (.string x)
theorem codesAt_new {w : World} {t : TypeId} : CodesAt (w.alloc (.cells codesA t)) w.heap.size := by
  intro k x hk
  have h1 : codesA[k]? = some (.string x) := by
    have e : codesA.toList = codesL.map Value.string := rfl
    rw [← Array.getElem?_toList, e, List.getElem?_map, hk]; rfl
  rw [cell_of_row _ _ k _ _ _ (heap_alloc_new _ _)]
  exact h1
theorem CodesAt.thrown {B g ga : Nat} {a b : World} (h : CodesAt a ga) (T : Thrown B a g b) (hne : ga ≠ g) : CodesAt b ga := fun k x hk => T.cell hne (h k x hk)
theorem CodesAt.later {ga : Nat} {a b : World} (h : CodesAt a ga) (hb : Below a.heap.size a b) : CodesAt b ga := fun k x hk => cell_later hb (h k x hk)
theorem CodesMade.snoc {L : List ByteArray} {k : Nat} {x : ByteArray} (h : CodesMade L) (hx : codesL[k]? = some x) (hn : x ∉ L) (hl : L.length < 16) : CodesMade (L ++ [x]) := by
  obtain ⟨h1, h2, h3⟩ := h
  refine ⟨by rw [List.length_append]; exact hl, ?_, fun y hy => ?_⟩
  · rw [List.nodup_append]
    refine ⟨h2, by simp, fun y hy z hz e => ?_⟩
    simp at hz
    subst hz
    exact hn (e ▸ hy)
  · rcases List.mem_append.1 hy with h | h
    · exact h3 y h
    · simp at h; subst h; exact List.mem_of_getElem? hx
def CdSt (B : Nat) (w1 : World) (g ga : Nat) (most : Nat) (v6 v7 v8 : Value) (wr : World) : Prop :=
  ∃ (k n : Nat) (L : List ByteArray), v6 = .int .i64 k ∧ v8 = .int .i64 n ∧ k < 16 ∧ n ≤ most ∧ CodesMade L ∧ (∀ x, codesL[k]? = some x → x ∉ L) ∧ Own kStr 9 [] 0 w1.heap.size wr v7 L ∧ Thrown B w1 g wr ∧ CodesAt wr ga
end Go.Proofs.YtonpfohhedcjbaaGreatDoor

namespace Go.Proofs.YtonpfohhedcjbaaGreatDoor
open Go.RowKit
set_option maxRecDepth 100000

def DSome (B : Nat) (l : List ByteArray) (w : World) (g : Nat) (e : Ending) (w' : World) : Prop :=
  ∃ v L, e = .returned v ∧ L.Sublist l ∧ Own kStr 9 [] 0 w.heap.size w' v L ∧ Thrown B w g w'
/-- Data that lie elsewhere stay when the dice are thrown. -/
theorem At.tossed {α : Type} {K : Kind α} {S : Nat → Prop} {B g : Nat} {a b : World} {A : Option Addr} {l : List α} (h : At K S a A l) (hS : ∀ x, S x → x ≠ g) (T : Thrown B a g b) : At K S b A l :=
  h.kept fun x hx hlt => ⟨hx, Nat.lt_of_lt_of_le hlt T.size, T.only.block x hlt (fun e => hS x hx (by injection e))⟩
theorem At.grownK {α : Type} {K : Kind α} {S : Nat → Prop} {a b : World} {A : Option Addr} {l : List α} {row : Option Nat} (h : At K S a A l) (hg : a.grownBy b row) (hS : ∀ x, S x → row ≠ some x) : At K S b A l :=
  h.kept fun x hx hlt => ⟨hx, Nat.lt_of_lt_of_le hlt hg.size, hg.block x hlt (fun e => hS x hx e.symm)⟩
def SmSt (B : Nat) (w : World) (g : Nat) (A : Option Addr) (l : List ByteArray) (n : Nat) (v i : Value) (wr : World) : Prop :=
  ∃ (j : Nat) (L : List ByteArray), j ≤ n ∧ i = .int .i64 j ∧ L.Sublist (l.take j) ∧ Own kStr 9 [] 0 w.heap.size wr v L ∧ Thrown B w g wr ∧ At kStr (fun b => b ≠ g ∧ b < w.heap.size) wr A l
set_option maxHeartbeats 4000000 in
theorem some_walk (B g : Nat) (A : Option Addr) (l : List ByteArray) (c m : Nat) (hm1 : 1 ≤ m) (hm : m ≤ 1000) (w : World) (h : DiceOk B w g) (hl : l.length ≤ 1000000) (hA : At kStr (fun b => b ≠ g) w A l) :
    Calls Tryz.prog 27 #[.pointer (some ⟨g, 0, none⟩), .slice A l.length c, .int .i64 m] w fun e w' => DSome B l w g e w' := by
  have hA0 : At kStr (fun b => b ≠ g ∧ b < w.heap.size) w A l := hA.kept fun b h1 h2 => ⟨⟨h1, h2⟩, h2, rfl⟩
  obtain ⟨n, hnn⟩ : ∃ n, l.length = n := ⟨_, rfl⟩
  rw [hnn] at hl ⊢
  replace hnn := hide hnn
  clear hA
  go_enter Tryz.func27, Tryz.ntmps27
  go_wp2
  go_loopw [7, 8] (fun v i wr => SmSt B w g A l n v i wr) (fun _ i _ => n - (intOf i).toNat)
  case atStart => exact ⟨0, [], Nat.zero_le _, rfl, by simp, Own.nil, Thrown.refl h, hA0⟩
  case round =>
    obtain ⟨j, L, hj, rfl, hsub, hown, T, hat⟩ := hrel
    have hgz : g < w.heap.size := T.lt
    have hLn : L.length ≤ n := by have := hsub.length_le; rw [List.length_take] at this; omega
    by_cases hlt : j < n
    · obtain ⟨x, hx⟩ : ∃ x, l[j]? = some x := ⟨_, List.getElem?_eq_getElem (by rw [hnn.out]; exact hlt)⟩
      have hj0 : (0 : Int) ≤ (j : Int) := by omega
      have hj1 : (j : Int) < (n : Int) := by omega
      have ht : l.take (j + 1) = l.take j ++ [x] := by rw [List.take_add_one, hx]; rfl
      have hs0 : L.Sublist (l.take (j + 1)) := by rw [ht]; exact hsub.trans (List.sublist_append_left _ _)
      have hs1 : (L ++ [x]).Sublist (l.take (j + 1)) := by rw [ht]; exact hsub.append (List.Sublist.refl _)
      replace hs0 := hide hs0
      replace hs1 := hide hs1
      clear ht hsub
      go_wp2_with fail
      refine (one_walk B g m (by omega) (by omega) wr T.dice).mono ?_
      rintro e w2 ⟨q, rfl, T2⟩
      have hown2 := hown.tossed T2 hgz
      have hat2 := hat.tossed (fun b hb => hb.1) T2
      have TT := T.trans T2
      obtain ⟨A6, c6, rfl⟩ := hown2.form
      clear hown hat T T2
      cases q with
      | false =>
        go_wp2
        go_roundw
        case rel => exact ⟨j + 1, L, by omega, by go_num, hs0.out, hown2, TT, hat2⟩
        case measure => simp [intOf]; omega
      | true =>
        obtain ⟨b, off, rfl, hbS, hbl, k0⟩ := hat2.str hx
        have hzz := TT.size
        clear hx
        go_wp2_with (at_builtin; refine wpList_own rfl _ _ rfl apd_strs (by decide) rfl (hown2.alloc _) ?d1 (by decide) ⟨w2.heap.size, 0, none⟩ 1 rfl x [.string x] rfl (World.news_of_block (cs := #[.string x]) (t := 9) (fr := (0, 0)) (heap_alloc_new _ _)) (by decide) (Nat.zero_le _) ?d2 ?_)
        case d1 => omega
        case d2 => rw [World.size_alloc]; omega
        intro v4 w4 hown4 hgrow
        have T4 : Thrown B w g w4 := (TT.alloc _).appended hgrow (fun y hy => (hown2.lt y hy).1)
        have hat4 : At kStr (fun b => b ≠ g ∧ b < w.heap.size) w4 (some ⟨b, off, none⟩) l := (hat2.later (ext_alloc (Below.refl _ _) _)).grownK hgrow (fun y hy e => by have := (hown2.lt y e).1; omega)
        clear hown2 hgrow TT hat2 k0
        go_wp2
        go_roundw
        case rel => exact ⟨j + 1, L ++ [x], by omega, by go_num, hs1.out, hown4, T4, hat4⟩
        case measure => simp [intOf]; omega
    · obtain rfl : j = n := by omega
      have hfin : Hid (L.Sublist l) := hide (hsub.trans (List.take_sublist _ _))
      clear hat hsub
      go_wp2
      go_ret
      exact ⟨u7, L, rfl, hfin.out, hown, T⟩
end Go.Proofs.YtonpfohhedcjbaaGreatDoor
