/- Walks of timetablemade.has and Dice.Codes: what is made, told by bounds. Conditions: the dice's cells. -/
import Derived.Test.YtjdhjnciokhbkaaGreatDoorKWide
import Derived.Test.YtjdhjnciokhbkaaGreatDoorKWriteT
import Derived.Test.YtjdhjnciokhbkaaGreatDoorKSpoilB
namespace Go.Proofs.YtjdhjnciokhbkaaGreatDoor
open Go.RowKit
set_option maxRecDepth 100000

/-- The codes that lists are made of. -/
def codesL : List ByteArray := [⟨#[65, 49]⟩, ⟨#[65, 50]⟩, ⟨#[65, 51]⟩, ⟨#[65, 52]⟩, ⟨#[82, 48, 56]⟩, ⟨#[82, 48, 57]⟩, ⟨#[82, 49, 48]⟩, ⟨#[82, 49, 49]⟩, ⟨#[66]⟩, ⟨#[67, 45, 49]⟩, ⟨#[120]⟩, ⟨#[57]⟩, ⟨#[49, 48]⟩, ⟨#[49, 49]⟩, ⟨#[77, 65]⟩, ⟨#[90, 122]⟩]
theorem codesL_ok : ∀ x ∈ codesL, codeB x = true := by decide +kernel
theorem codesL_len : codesL.length = 16 := rfl
set_option maxHeartbeats 2000000 in
theorem mhas_walk (A : Option Addr) (xs : List ByteArray) (c : Nat) (z : ByteArray) (w : World) (hn : xs.length ≤ 9223372036854775807) (h : At kStr AnyB w A xs) :
    Calls Tryz.prog 70 #[.slice A xs.length c, .string z] w fun e w' => e = .returned (.bool (decide (0 ≤ idxS z xs))) ∧ w = w' := by
  obtain ⟨n, hnn⟩ : ∃ n, xs.length = n := ⟨_, rfl⟩
  rw [hnn] at hn ⊢
  replace hnn := hide hnn
  go_enter Tryz.func70, Tryz.ntmps70
  go_wp2
  go_loop [5] (fun i => ∃ j : Nat, j ≤ n ∧ i = .int .i64 j ∧ Hid (∀ y ∈ xs.take j, (y.toList == z.toList) = false)) (fun i => n - (intOf i).toNat)
  case atStart => exact ⟨0, Nat.zero_le _, rfl, hide (fun y hy => by simp at hy)⟩
  case round =>
    obtain ⟨j, hj, rfl, ho⟩ := hrel
    by_cases hlt : j < n
    · obtain ⟨x, hx⟩ : ∃ x, xs[j]? = some x := ⟨_, List.getElem?_eq_getElem (by rw [hnn.out]; exact hlt)⟩
      obtain ⟨b, off, rfl, -, hb, k0⟩ := h.str hx
      have hj0 : (0 : Int) ≤ (j : Int) := by omega
      have hj1 : (j : Int) < (n : Int) := by omega
      cases hq : (x.toList == z.toList) with
      | true =>
        have hit := hide (idxS_hit hx ho.out hq)
        clear hx h ho
        go_wp2
        go_ret
        exact ⟨ret_bool (by rw [hit.out]; simp), rfl⟩
      | false =>
        have miss := hide (take_miss hx ho.out hq)
        clear hx h ho
        go_wp2
        go_round
        case rel => exact ⟨j + 1, by omega, by go_num, miss⟩
        case measure => simp [intOf]; omega
    · obtain rfl : j = n := by omega
      have hall : Hid (idxS z xs = -1) := hide (idxS_none fun y hy => ho.out y (by rw [← hnn.out, List.take_length]; exact hy))
      go_wp2
      go_ret
      exact ⟨by rw [hall.out]; rfl, rfl⟩
/-- A text stands in a list, told in two ways. -/
theorem idx_mem {z : ByteArray} {xs : List ByteArray} : 0 ≤ idxS z xs ↔ z ∈ xs := by
  constructor
  · intro h
    apply Classical.byContradiction
    intro hz
    rw [idxS_none (fun y hy => by rw [toList_dataL, toList_dataL]; exact beq_false_of_ne fun e => hz (dat_inj e ▸ hy))] at h
    exact absurd h (by decide)
  · intro hz
    apply Classical.byContradiction
    intro h
    have hall : ∀ n, n ≤ xs.length → ∀ y ∈ xs.take n, (y.toList == z.toList) = false := by
      intro n
      induction n with
      | zero => intro _ y hy; simp at hy
      | succ n ih =>
        intro hn y hy
        have hx : xs[n]? = some xs[n] := List.getElem?_eq_getElem (by omega)
        cases hq : (xs[n].toList == z.toList) with
        | false => exact take_miss hx (ih (by omega)) hq y hy
        | true => rw [idxS_hit hx (ih (by omega)) hq] at h; exact absurd (by omega) h
    have := hall xs.length (Nat.le_refl _) z (by rw [List.take_length]; exact hz)
    simp at this
def codesA : Array Value := #[.string ⟨#[65, 49]⟩, .string ⟨#[65, 50]⟩, .string ⟨#[65, 51]⟩, .string ⟨#[65, 52]⟩, .string ⟨#[82, 48, 56]⟩, .string ⟨#[82, 48, 57]⟩, .string ⟨#[82, 49, 48]⟩, .string ⟨#[82, 49, 49]⟩, .string ⟨#[66]⟩, .string ⟨#[67, 45, 49]⟩, .string ⟨#[120]⟩, .string ⟨#[57]⟩, .string ⟨#[49, 48]⟩, .string ⟨#[49, 49]⟩, .string ⟨#[77, 65]⟩, .string ⟨#[90, 122]⟩]
/-- Codes that were made. -/
def CodesMade (L : List ByteArray) : Prop := L.length ≤ 16 ∧ L.Nodup ∧ ∀ x ∈ L, x ∈ codesL
def DCodes (B : Nat) (w : World) (g : Nat) (e : Ending) (w' : World) : Prop :=
  ∃ v L, e = .returned v ∧ CodesMade L ∧ Own kStr 9 [] 0 w.heap.size w' v L ∧ Thrown B w g w'
theorem Thrown.appended {B : Nat} {a b c : World} {g : Nat} {v : Value} (h : Thrown B a g b) (hg : b.grownBy c v.ownBlock) (hv : ∀ y, v.ownBlock = some y → a.heap.size ≤ y) : Thrown B a g c :=
  h.far (Below.grown (Below.refl a.heap.size b) hg h.size hv)
theorem Own.tossed {α : Type} {K : Kind α} {t : TypeId} {B C g : Nat} {a b : World} {v : Value} {l : List α} (h : Own K t [] 0 C a v l) (T : Thrown B a g b) (hg : g < C) : Own K t [] 0 C b v l :=
  h.kept T.only (by
    cases hv : v.ownBlock with
    | none => exact .inl rfl
    | some y => exact .inr fun e => by injection e with e; have := (h.lt y hv).1; omega) (fun y _ => ⟨Nat.zero_le _, fun h => by obtain ⟨-, cs, t', -, ht⟩ := h; simp at ht⟩)
/-- The array of the codes. -/
def CodesAt (w : World) (ga : Nat) : Prop := ∀ k x, codesL[k]? = some x → w.cell? ⟨ga, k, none⟩ = some (.string x)
theorem codesAt_new {w : World} {t : TypeId} : CodesAt (w.alloc (.cells codesA t)) w.heap.size := by
  intro k x hk
  have h1 : codesA[k]? = some (.string x) := by
    have e : codesA.toList = codesL.map Value.string := rfl
    rw [← Array.getElem?_toList, e, List.getElem?_map, hk]; rfl
  rw [cell_of_row _ _ k _ _ _ (heap_alloc_new _ _)]
  exact h1
theorem CodesAt.thrown {B g ga : Nat} {a b : World} (h : CodesAt a ga) (T : Thrown B a g b) (hne : ga ≠ g) : CodesAt b ga := fun k x hk => T.cell hne (h k x hk)
theorem CodesAt.later {ga : Nat} {a b : World} (h : CodesAt a ga) (hb : Below a.heap.size a b) : CodesAt b ga := fun k x hk => cell_later hb (h k x hk)
theorem CodesMade.snoc {L : List ByteArray} {k : Nat} {x : ByteArray} (h : CodesMade L) (hx : codesL[k]? = some x) (hn : x ∉ L) (hl : L.length < 16) : CodesMade (L ++ [x]) := by
  obtain ⟨h1, h2, h3⟩ := h
  refine ⟨by rw [List.length_append]; exact hl, ?_, fun y hy => ?_⟩
  · rw [List.nodup_append]
    refine ⟨h2, by simp, fun y hy z hz e => ?_⟩
    simp at hz
    subst hz
    exact hn (e ▸ hy)
  · rcases List.mem_append.1 hy with h | h
    · exact h3 y h
    · simp at h; subst h; exact List.mem_of_getElem? hx
def CdSt (B : Nat) (w1 : World) (g ga : Nat) (most : Nat) (v6 v7 v8 : Value) (wr : World) : Prop :=
  ∃ (k n : Nat) (L : List ByteArray), v6 = .int .i64 k ∧ v8 = .int .i64 n ∧ k < 16 ∧ n ≤ most ∧ CodesMade L ∧ (∀ x, codesL[k]? = some x → x ∉ L) ∧ Own kStr 9 [] 0 w1.heap.size wr v7 L ∧ Thrown B w1 g wr ∧ CodesAt wr ga
set_option maxHeartbeats 4000000 in
theorem dcodes_walk (B g : Nat) (most : Nat) (hm : most ≤ 1000) (w : World) (h : DiceOk B w g) :
    Calls Tryz.prog 28 #[.pointer (some ⟨g, 0, none⟩), .int .i64 most] w fun e w' => DCodes B w g e w' := by
  have hlt := h.lt
  have hb0 : Below w.heap.size w (w.alloc (.cells codesA 101)) := (by repeat (first | exact Below.refl _ _ | refine ext_alloc ?_ _ | refine ext_drewN ?_ _ | refine ext_drew ?_ | refine ext_trans ?_ (by assumption)))
  have h0 := h.later hb0
  have hC := codesAt_new (w := w) (t := 101)
  obtain ⟨ga, hga⟩ : ∃ ga, w.heap.size = ga := ⟨_, rfl⟩
  obtain ⟨W, hW⟩ : ∃ W, w.alloc (.cells codesA 101) = W := ⟨_, rfl⟩
  rw [hW] at hb0 h0 hC
  rw [hga] at hC hlt
  have hz0 := hb0.size
  replace hga := hide hga
  replace hW := hide hW
  clear h
  go_enter Tryz.func28, Tryz.ntmps28
  go_wp2_with fail
  rw [show w.alloc (.cells #[.string ⟨#[65, 49]⟩, .string ⟨#[65, 50]⟩, .string ⟨#[65, 51]⟩, .string ⟨#[65, 52]⟩, .string ⟨#[82, 48, 56]⟩, .string ⟨#[82, 48, 57]⟩, .string ⟨#[82, 49, 48]⟩, .string ⟨#[82, 49, 49]⟩, .string ⟨#[66]⟩, .string ⟨#[67, 45, 49]⟩, .string ⟨#[120]⟩, .string ⟨#[57]⟩, .string ⟨#[49, 48]⟩, .string ⟨#[49, 49]⟩, .string ⟨#[77, 65]⟩, .string ⟨#[90, 122]⟩] 101) = W from hW.out, hga.out]
  generalize Value.agg #[.string ⟨#[65, 49]⟩, .string ⟨#[65, 50]⟩, .string ⟨#[65, 51]⟩, .string ⟨#[65, 52]⟩, .string ⟨#[82, 48, 56]⟩, .string ⟨#[82, 48, 57]⟩, .string ⟨#[82, 49, 48]⟩, .string ⟨#[82, 49, 49]⟩, .string ⟨#[66]⟩, .string ⟨#[67, 45, 49]⟩, .string ⟨#[120]⟩, .string ⟨#[57]⟩, .string ⟨#[49, 48]⟩, .string ⟨#[49, 49]⟩, .string ⟨#[77, 65]⟩, .string ⟨#[90, 122]⟩] = agv
  refine (next_walk B g 16 (by omega) W h0).mono ?_
  rintro e w1 ⟨v, rfl, p1, q1, -, T1, -⟩
  have q1 := q1 (by omega)
  obtain ⟨k0, rfl⟩ := Int.eq_ofNat_of_zero_le p1
  have hC1 := hC.thrown T1 (by omega)
  have D1 := T1.dice
  have hz1 := T1.size
  have TW : Thrown B w g w1 := ⟨by have := hga.out; omega, T1.dice, ((only_of_below hb0 _).trans T1.only)⟩
  clear h0 hC p1
  have hmi : IntKind.i64.wrap ((most : Int) + 1) = (most : Int) + 1 := by rw [IntKind.wrap_i64]; omega
  go_wp2_with fail
  refine (next_walk B g ((most : Int) + 1) (by omega) w1 D1).mono ?_
  rintro e w2 ⟨v, rfl, p2, q2, -, T2, -⟩
  have q2 := q2 (by omega)
  obtain ⟨n0, rfl⟩ := Int.eq_ofNat_of_zero_le p2
  have hC2 := hC1.thrown T2 (by omega)
  have D2 := T2.dice
  have hz2 := T2.size
  have TW2 := TW.trans T2
  have hga3 : ga < w2.heap.size := World.block_lt_of_cell? _ _ (hC2 0 _ rfl)
  clear D1 hC1 p2 T1 T2
  go_wp2_with fail
  go_loopw [6, 7, 8] (fun v6 v7 v8 wr => CdSt B w2 g ga most v6 v7 v8 wr) (fun _ _ v8 _ => (intOf v8).toNat)
  case atStart => exact ⟨k0, n0, [], rfl, rfl, by omega, by omega, ⟨by simp, by simp, fun x hx => by simp at hx⟩, fun x _ hx => by simp at hx, Own.nil, Thrown.refl D2, hC2⟩
  case round =>
    clear hC2 D2
    obtain ⟨k, n, L, rfl, rfl, hk, hn, hmade, hnew, hown, T, hC⟩ := hrel
    have hgz : g < w2.heap.size := T.lt
    obtain ⟨A, c, rfl⟩ := hown.form
    by_cases hgo : 0 < n ∧ L.length < 16
    · obtain ⟨hn0, hL16⟩ := hgo
      obtain ⟨n, rfl⟩ : ∃ n', n = n' + 1 := ⟨n - 1, by omega⟩
      obtain ⟨x, hx⟩ : ∃ x, codesL[k]? = some x := ⟨_, List.getElem?_eq_getElem (by rw [codesL_len]; omega)⟩
      have hmade1 := hmade.snoc hx (hnew x hx) hL16
      have kx := hC k x hx
      have hga2 : ga < wr.heap.size := World.block_lt_of_cell? _ _ kx
      have hnw : IntKind.i64.wrap (((n + 1 : Nat) : Int) - 1) = (n : Int) := by rw [IntKind.wrap_i64]; omega
      have hn1 : (0 : Int) < ((n + 1 : Nat) : Int) := by omega
      have hLi : (L.length : Int) < 16 := by omega
      have hki0 : (0 : Int) ≤ (k : Int) := by omega
      have hki : (k : Int) < 16 := by omega
      obtain ⟨k1, hk1, hk1l⟩ : ∃ k1, (k + 1) % 16 = k1 ∧ k1 < 16 := ⟨_, rfl, Nat.mod_lt _ (by decide)⟩
      have hr1 : ((k : Int) + 1) % 16 = (k1 : Int) := by omega
      obtain ⟨k2, hk2, hk2l⟩ : ∃ k2, (k1 + 1) % 16 = k2 ∧ k2 < 16 := ⟨_, rfl, Nat.mod_lt _ (by decide)⟩
      have hr2 : ((k1 : Int) + 1) % 16 = (k2 : Int) := by omega
      have hk10 : (0 : Int) ≤ (k1 : Int) := by omega
      have hk1i : (k1 : Int) < 16 := by omega
      have hk20 : (0 : Int) ≤ (k2 : Int) := by omega
      have hk2i : (k2 : Int) < 16 := by omega
      have hsz := T.size
      replace hmade1 := hide hmade1
      clear hk1 hk2 hmade hnew hx
      go_wp2_with (at_builtin; refine wpList_own rfl _ _ rfl apd_strs (by decide) rfl (hown.alloc _) ?d1 (by decide) ⟨wr.heap.size, 0, none⟩ 1 rfl x [.string x] rfl (World.news_of_block (cs := #[.string x]) (t := 9) (fr := (0, 0)) (heap_alloc_new _ _)) (by decide) (Nat.zero_le _) ?d2 ?_)
      case d1 => omega
      case d2 => rw [World.size_alloc]; omega
      intro v4 w4 hown4 hgrow
      have T4 : Thrown B w2 g w4 := (T.alloc _).appended hgrow (fun y hy => (hown.lt y hy).1)
      have hC4 : CodesAt w4 ga := fun q y hq => by
        have h1 := (hC.later (ext_alloc (Below.refl wr.heap.size wr) (.cells #[.string x] 9))) q y hq
        exact cell_grown h1 hgrow (fun e => by have := (hown.lt ga e.symm).1; omega)
      obtain ⟨A4, c4, rfl⟩ := hown4.form
      obtain ⟨L1, hL1⟩ : ∃ L1, L ++ [x] = L1 := ⟨_, rfl⟩
      rw [hL1] at hown4 hmade1
      have hl1 : L1.length = L.length + 1 := by rw [← hL1, List.length_append]; rfl
      rw [hL1]
      clear hgrow hown T hC kx hL1
      go_wp2_with fail
      rw [hr1]
      refine (one_walk B g 4 (by decide) (by decide) w4 T4.dice).mono ?_
      rintro e w5 ⟨q, rfl, T5'⟩
      have hown5 := hown4.tossed T5' hgz
      have hC5 := hC4.thrown T5' (by omega)
      have T5 := T4.trans T5'
      have k1l := hide hk1l
      have k2l := hide hk2l
      clear hown4 hC4 T4 T5' hk2l hk1l
      by_cases hq : q = true ∧ L1.length < 16
      · obtain ⟨rfl, hl16⟩ := hq
        have hl16i : (L1.length : Int) < 16 := by omega
        replace hl1 := hide hl1
        have hat5 := hown5.any'
        obtain ⟨y, hy⟩ : ∃ y, codesL[k2]? = some y := ⟨_, List.getElem?_eq_getElem (by rw [codesL_len]; exact k2l.out)⟩
        have ky := hC5 k2 y hy
        have hhas := mhas_walk A4 L1 c4 y w5 hown5.le hat5.any
        cases hd : decide (0 ≤ idxS y L1) with
        | true =>
          rw [hd] at hhas
          have hfin := hide (hown5.lower (C := w.heap.size) (by have := TW2.size; omega))
          have TF := TW2.trans T5
          clear hd hy hat5 hown5 hC5 T5
          go_wp2_with (go_at_call 70; (with_reducible refine hhas.mono ?_); rintro e w6 ⟨rfl, rfl⟩)
          go_ret
          exact ⟨_, L1, rfl, hmade1.out, hfin.out, TF⟩
        | false =>
          rw [hd] at hhas
          have hnew2 : Hid (∀ x, codesL[k2]? = some x → x ∉ L1) := hide (fun x hx => by
            rw [hy] at hx
            obtain rfl := Option.some.inj hx
            exact fun hm => of_decide_eq_false hd (idx_mem.2 hm))
          have hfin := hide hown5
          clear hd hy hat5 hown5
          go_wp2_with (go_at_call 70; (with_reducible refine hhas.mono ?_); rintro e w6 ⟨rfl, rfl⟩)
          go_roundw
          case rel => exact ⟨k2, n, L1, rfl, by go_num, k2l.out, by omega, hmade1.out, hnew2.out, hfin.out, T5, hC5⟩
          case measure => simp [intOf]
      · have hskip : ∀ b : Bool, q = b → (q = true → ¬ (L1.length : Int) < 16) := fun b _ h1 h2 => hq ⟨h1, by omega⟩
        replace hl1 := hide hl1
        cases q with
        | true =>
          have hl16i := hskip true rfl rfl
          clear hskip hq
          have hat5 := hown5.any'
          obtain ⟨y, hy⟩ : ∃ y, codesL[k1]? = some y := ⟨_, List.getElem?_eq_getElem (by rw [codesL_len]; exact k1l.out)⟩
          have ky := hC5 k1 y hy
          have hhas := mhas_walk A4 L1 c4 y w5 hown5.le hat5.any
          cases hd : decide (0 ≤ idxS y L1) with
          | true =>
            rw [hd] at hhas
            have hfin := hide (hown5.lower (C := w.heap.size) (by have := TW2.size; omega))
            have TF := TW2.trans T5
            clear hd hy hat5 hown5 hC5 T5
            go_wp2_with (go_at_call 70; (with_reducible refine hhas.mono ?_); rintro e w6 ⟨rfl, rfl⟩)
            go_ret
            exact ⟨_, L1, rfl, hmade1.out, hfin.out, TF⟩
          | false =>
            rw [hd] at hhas
            have hnew2 : Hid (∀ x, codesL[k1]? = some x → x ∉ L1) := hide (fun x hx => by
              rw [hy] at hx
              obtain rfl := Option.some.inj hx
              exact fun hm => of_decide_eq_false hd (idx_mem.2 hm))
            have hfin := hide hown5
            clear hd hy hat5 hown5
            go_wp2_with (go_at_call 70; (with_reducible refine hhas.mono ?_); rintro e w6 ⟨rfl, rfl⟩)
            go_roundw
            case rel => exact ⟨k1, n, L1, rfl, by go_num, k1l.out, by omega, hmade1.out, hnew2.out, hfin.out, T5, hC5⟩
            case measure => simp [intOf]
        | false =>
          clear hskip hq
          have hat5 := hown5.any'
          obtain ⟨y, hy⟩ : ∃ y, codesL[k1]? = some y := ⟨_, List.getElem?_eq_getElem (by rw [codesL_len]; exact k1l.out)⟩
          have ky := hC5 k1 y hy
          have hhas := mhas_walk A4 L1 c4 y w5 hown5.le hat5.any
          cases hd : decide (0 ≤ idxS y L1) with
          | true =>
            rw [hd] at hhas
            have hfin := hide (hown5.lower (C := w.heap.size) (by have := TW2.size; omega))
            have TF := TW2.trans T5
            clear hd hy hat5 hown5 hC5 T5
            go_wp2_with (go_at_call 70; (with_reducible refine hhas.mono ?_); rintro e w6 ⟨rfl, rfl⟩)
            go_ret
            exact ⟨_, L1, rfl, hmade1.out, hfin.out, TF⟩
          | false =>
            rw [hd] at hhas
            have hnew2 : Hid (∀ x, codesL[k1]? = some x → x ∉ L1) := hide (fun x hx => by
              rw [hy] at hx
              obtain rfl := Option.some.inj hx
              exact fun hm => of_decide_eq_false hd (idx_mem.2 hm))
            have hfin := hide hown5
            clear hd hy hat5 hown5
            go_wp2_with (go_at_call 70; (with_reducible refine hhas.mono ?_); rintro e w6 ⟨rfl, rfl⟩)
            go_roundw
            case rel => exact ⟨k1, n, L1, rfl, by go_num, k1l.out, by omega, hmade1.out, hnew2.out, hfin.out, T5, hC5⟩
            case measure => simp [intOf]
    · have hfin := hide (hown.lower (C := w.heap.size) (by have := TW2.size; omega))
      have TF := TW2.trans T
      clear hown T hC hnew
      by_cases hn0 : 0 < n
      · have hni : (0 : Int) < (n : Int) := by omega
        have hLi : ¬ (L.length : Int) < 16 := by omega
        clear hgo
        go_wp2
        go_ret
        exact ⟨_, L, rfl, hmade, hfin.out, TF⟩
      · have hni : ¬ (0 : Int) < (n : Int) := by omega
        clear hgo
        go_wp2
        go_ret
        exact ⟨_, L, rfl, hmade, hfin.out, TF⟩
end Go.Proofs.YtjdhjnciokhbkaaGreatDoor
