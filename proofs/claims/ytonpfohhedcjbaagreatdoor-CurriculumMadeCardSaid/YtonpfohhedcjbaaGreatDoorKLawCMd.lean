/- Walks of timetablemade.Courses and Dice.Curricula: what is made, told by bounds. Conditions: the dice's cells; the classes'. Walk of Dice.Classes: classes that are made. Conditions: the dice's cells; the variable features; the lecturers'. The variable features, from what the row lays. No condition. The statement CurriculumExact: its walk. Conditions: what is read is bounded; what the program's variables hold. A copy of a row of data that lie elsewhere. No condition. Walk of Dice.OddCurricula. Conditions: the dice's cells; the curricula in memory of their own. The statement CurriculumMade: its walk. Conditions: the numbers can be read; what the program's variables hold. -/
import Derived.Test.YtonpfohhedcjbaaGreatDoorKDSome
import Derived.Test.YtonpfohhedcjbaaGreatDoorKDCls
import Derived.Test.YtonpfohhedcjbaaGreatDoorKCWriteR
import Derived.Test.YtonpfohhedcjbaaGreatDoorKDiceU
import Derived.Test.YtonpfohhedcjbaaGreatDoorKVars
import Derived.Test.YtonpfohhedcjbaaGreatDoorKAwake11
import Derived.Test.YtonpfohhedcjbaaGreatDoorKValC
import Derived.Test.YtonpfohhedcjbaaGreatDoorKIdxS
import Derived.Test.YtonpfohhedcjbaaGreatDoorKPlainA
import Derived.Test.YtonpfohhedcjbaaGreatDoorKSpoilB
namespace Go.Proofs.YtonpfohhedcjbaaGreatDoor
open Go.RowKit
set_option maxRecDepth 100000

/-- The courses of classes, each once. -/
def coursesV : List Cls → List ByteArray → List ByteArray
  | [], out => out
  | x :: r, out => coursesV r (if 0 ≤ idxS x.2.1 out then out else out ++ [x.2.1])
def crsTo (l : List Cls) (n : Nat) : List ByteArray := coursesV (l.take n) []
theorem coursesV_app : ∀ (l r : List Cls) (out : List ByteArray), coursesV (l ++ r) out = coursesV r (coursesV l out)
  | [], r, out => rfl
  | x :: l, r, out => by rw [List.cons_append, coursesV, coursesV_app l r]; rfl
theorem crsTo_next {l : List Cls} {j : Nat} {x : Cls} (h : l[j]? = some x) : crsTo l (j + 1) = if 0 ≤ idxS x.2.1 (crsTo l j) then crsTo l j else crsTo l j ++ [x.2.1] := by
  unfold crsTo
  rw [List.take_add_one, h, coursesV_app]; rfl
theorem coursesV_len : ∀ (l : List Cls) (out : List ByteArray), (coursesV l out).length ≤ out.length + l.length
  | [], out => by simp [coursesV]
  | x :: r, out => by
    rw [coursesV]
    have := coursesV_len r (if 0 ≤ idxS x.2.1 out then out else out ++ [x.2.1])
    split at this
    · rename_i h; rw [if_pos h]; simp only [List.length_cons]; omega
    · rename_i h; rw [if_neg h]; simp only [List.length_append, List.length_cons, List.length_nil] at this ⊢; omega
theorem crsTo_len (l : List Cls) (n : Nat) : (crsTo l n).length ≤ l.length := by
  have h1 := coursesV_len (l.take n) []
  have h2 := List.length_take_le n l
  simp only [List.length_nil] at h1
  unfold crsTo
  have h3 : (l.take n).length ≤ l.length := by rw [List.length_take]; omega
  omega
theorem coursesV_nodup : ∀ (l : List Cls) (out : List ByteArray), out.Nodup → (coursesV l out).Nodup
  | [], out, h => h
  | x :: r, out, h => by
    rw [coursesV]
    refine coursesV_nodup r _ ?_
    split
    · exact h
    · rename_i hi
      rw [List.nodup_append]
      refine ⟨h, by simp, fun y hy z hz e => ?_⟩
      simp at hz
      subst hz
      exact hi (idx_mem.2 (e ▸ hy))
theorem coursesV_mem : ∀ (l : List Cls) (out : List ByteArray), ∀ z ∈ coursesV l out, z ∈ out ∨ ∃ x ∈ l, x.2.1 = z
  | [], out, z, h => .inl h
  | x :: r, out, z, h => by
    rw [coursesV] at h
    rcases coursesV_mem r _ z h with h | ⟨y, hy, e⟩
    · split at h
      · exact .inl h
      · rcases List.mem_append.1 h with h | h
        · exact .inl h
        · simp at h; exact .inr ⟨x, by simp, h.symm⟩
    · exact .inr ⟨y, by simp [hy], e⟩
def CrsIs (l : List Cls) (w : World) (e : Ending) (w' : World) : Prop := ∃ v, e = .returned v ∧ Own kStr 9 [] 0 w.heap.size w' v (coursesV l []) ∧ Below w.heap.size w w'
set_option maxHeartbeats 4000000 in
theorem courses_walk (A : Option Addr) (l : List Cls) (c : Nat) (w : World) (hl : l.length ≤ 1000000) (hA : At kCls AnyB w A l) :
    Calls Tryz.prog 28 #[.slice A l.length c] w fun e w' => CrsIs l w e w' := by
  obtain ⟨n, hnn⟩ : ∃ n, l.length = n := ⟨_, rfl⟩
  rw [hnn] at hl ⊢
  replace hnn := hide hnn
  go_enter Tryz.func28, Tryz.ntmps28
  go_wp2
  go_loopw [3, 4] (fun v i wr => ∃ j : Nat, j ≤ n ∧ i = .int .i64 j ∧ Own kStr 9 [] 0 w.heap.size wr v (crsTo l j) ∧ Below w.heap.size w wr) (fun _ i _ => n - (intOf i).toNat)
  case atStart => exact ⟨0, Nat.zero_le _, rfl, Own.nil, Below.refl _ _⟩
  case round =>
    obtain ⟨j, hj, rfl, hown, hb⟩ := hrel
    have hcl := crsTo_len l j
    rw [hnn.out] at hcl
    by_cases hlt : j < n
    · obtain ⟨x, hx⟩ : ∃ x, l[j]? = some x := ⟨_, List.getElem?_eq_getElem (by rw [hnn.out]; exact hlt)⟩
      have hj0 : (0 : Int) ≤ (j : Int) := by omega
      have hj1 : (j : Int) < (n : Int) := by omega
      obtain ⟨b, off, q, rfl, -, hbl, hq, e1, e2⟩ := (hA.later hb).cls hx
      have k1 := hq.2.1
      rw [e1] at k1
      obtain ⟨z, hz⟩ : ∃ z, x.2.1 = z := ⟨_, rfl⟩
      rw [hz] at k1
      have hnx := crsTo_next hx
      rw [hz] at hnx
      obtain ⟨A3, c3, rfl, -, hat⟩ := hown.any
      obtain ⟨L, hL⟩ : ∃ L, crsTo l j = L := ⟨_, rfl⟩
      rw [hL] at hown hat hnx hcl ⊢
      have hhas := mhas_walk A3 L c3 z wr hown.le hat.any
      replace hnx := hide hnx
      clear hx hq e1 e2 hz hL hat
      cases hd : decide (0 ≤ idxS z L) with
      | true =>
        rw [hd] at hhas
        have hnx' : Hid (crsTo l (j + 1) = L) := hide (by rw [hnx.out, if_pos (of_decide_eq_true hd)])
        clear hd hnx
        go_wp2_with (go_at_call 43; (with_reducible refine hhas.mono ?_); rintro e w6 ⟨rfl, rfl⟩)
        go_roundw
        case rel => exact ⟨j + 1, by omega, by go_num, by rw [hnx'.out]; exact hown, hb⟩
        case measure => simp [intOf]; omega
      | false =>
        rw [hd] at hhas
        have hnx' : Hid (crsTo l (j + 1) = L ++ [z]) := hide (by rw [hnx.out, if_neg (of_decide_eq_false hd)])
        clear hd hnx
        go_wp2_with (first | (go_at_call 43; (with_reducible refine hhas.mono ?_); rintro e w6 ⟨rfl, rfl⟩) | (at_builtin; refine wpList_own rfl _ _ rfl apd_strs (by decide) rfl (hown.alloc _) ?d1 (by decide) ⟨wr.heap.size, 0, none⟩ 1 rfl z [.string z] rfl (World.news_of_block (cs := #[.string z]) (t := 9) (fr := (0, 0)) (heap_alloc_new _ _)) (by decide) (Nat.zero_le _) ?d2 ?_))
        case d1 => omega
        case d2 => rw [World.size_alloc]; have := hb.size; omega
        intro v4 w4 hown4 hgrow
        have hb4 := below_grown (ext_alloc hb (.cells #[.string z] 9)) hgrow (fun y hy => (hown.lt y hy).1)
        clear hown hgrow
        go_wp2
        go_roundw
        case rel => exact ⟨j + 1, by omega, by go_num, by rw [hnx'.out]; exact hown4, hb4⟩
        case measure => simp [intOf]; omega
    · obtain rfl : j = n := by omega
      have hall : Hid (crsTo l j = coursesV l []) := hide (by unfold crsTo; rw [← hnn.out, List.take_length])
      rw [hall.out] at hown
      go_wp2
      go_ret
      exact ⟨_, rfl, hown, hb⟩

def dgB (q : Nat) : UInt8 := UInt8.ofNat (49 + q)
theorem conv_small (W : World) (q : Nat) (hq : q ≤ 100) (cap : Nat) : (convert 69 9 (.slice (some ⟨W.heap.size, 0, none⟩) 1 cap)).run Tryz.prog (W.alloc (.cells #[.int .u8 (49 + (q : Int))] 5)) = .ok (.string ⟨#[dgB q]⟩) (W.alloc (.cells #[.int .u8 (49 + (q : Int))] 5)) :=
  run_convert_bytes_back _ 69 9 5 ⟨W.heap.size, 0, none⟩ cap [UInt8.ofNat (49 + q)] Tryz.underlying69 Tryz.underlying5 Tryz.underlying9 (by
    intro j hj
    have hj : j = 0 := by simp at hj; omega
    subst hj
    have he : ((UInt8.ofNat (49 + q)).toNat : Int) = 49 + (q : Int) := by
      rw [UInt8.toNat_ofNat']; omega
    simp [Addr.add]
    omega)
theorem apd_currs : Apd Tryz.prog 32 36 2 40 := apd Tryz.underlying32 (z := .agg #[.string ⟨#[]⟩, .slice none 0 0]) (by kernel_rfl) rfl
def DCurr (B : Nat) (w : World) (g : Nat) (e : Ending) (w' : World) : Prop :=
  ∃ v ls, e = .returned v ∧ CurrMade ls ∧ Own kCurr 36 [9] 0 w.heap.size w' v ls ∧ Thrown B w g w'
def DCLoop (B : Nat) (w : World) (g : Nat) (L : List ByteArray) (A5 : Option Addr) (v6 v7 : Value) (wr : World) : Prop :=
  ∃ (k : Nat) (ls : List Curr), v7 = .int .i64 k ∧ ls.length + k ≤ 3 ∧ CurrMade ls ∧ Own kCurr 36 [9] 0 w.heap.size wr v6 ls ∧ Thrown B w g wr ∧ At kStr (fun b => b ≠ g ∧ Ty [9] 0 w.heap.size wr b) wr A5 L
theorem csName_is (q : Nat) (h : q < 3) : (⟨#[67, 83]⟩ : ByteArray) ++ ⟨#[dgB q]⟩ = csName q := by
  have : ∀ q : Fin 3, (⟨#[67, 83]⟩ : ByteArray) ++ ⟨#[dgB q.val]⟩ = csName q.val := by decide +kernel
  exact this ⟨q, h⟩
theorem CurrMade.snoc {ls : List Curr} {x : Curr} (h : CurrMade ls) (hl : ls.length < 3) (h1 : x.1 = csName ls.length) (h2 : 0 < x.2.length) (h3 : x.2.Nodup) (h4 : ∀ z ∈ x.2, z ∈ mcourses) : CurrMade (ls ++ [x]) := by
  refine ⟨by rw [List.length_append]; simp; omega, fun j y hy => ?_⟩
  by_cases hj : j < ls.length
  · rw [List.getElem?_append_left hj] at hy; exact h.2 j y hy
  · rw [List.getElem?_append_right (by omega)] at hy
    have hj0 : j - ls.length = 0 := by
      have := (List.getElem?_eq_some_iff.1 hy).1
      simp at this; omega
    rw [hj0] at hy
    simp at hy
    subst hy
    obtain rfl : j = ls.length := by omega
    exact ⟨h1, h2, h3, h4⟩
theorem At.tyTossed {g B C : Nat} {a b : World} {A : Option Addr} {L : List ByteArray} (h : At kStr (fun x => x ≠ g ∧ Ty [9] 0 C a x) a A L) (T : Thrown B a g b) : At kStr (fun x => x ≠ g ∧ Ty [9] 0 C b x) b A L :=
  h.kept fun x ⟨h1, h2⟩ hlt => by
    have hb := T.only.block x hlt (fun e => h1 (by injection e))
    refine ⟨⟨h1, ?_⟩, Nat.lt_of_lt_of_le hlt T.size, hb⟩
    rcases h2 with h2 | ⟨h2, cs, t, h3, h4⟩
    · exact .inl h2
    · exact .inr ⟨h2, cs, t, hb.trans h3, h4⟩
theorem At.tyLater {g C : Nat} {a b : World} {A : Option Addr} {L : List ByteArray} (h : At kStr (fun x => x ≠ g ∧ Ty [9] 0 C a x) a A L) (hb : Below a.heap.size a b) : At kStr (fun x => x ≠ g ∧ Ty [9] 0 C b x) b A L :=
  h.kept fun x ⟨h1, h2⟩ hlt => by
    have hx := hb.block x hlt
    refine ⟨⟨h1, ?_⟩, Nat.lt_of_lt_of_le hlt hb.size, hx⟩
    rcases h2 with h2 | ⟨h2, cs, t, h3, h4⟩
    · exact .inl h2
    · exact .inr ⟨h2, cs, t, hx.trans h3, h4⟩
theorem At.tyGrown {g C e s n D : Nat} {u : Value} {xs : List Value} {a b : World} {A : Option Addr} {L : List ByteArray} (h : At kStr (fun x => x ≠ g ∧ Ty [9] 0 C a x) a A L) (ho : a.ownsRow D e s u n xs) (he : e ≠ 9) (hg : a.grownBy b u.ownBlock) : At kStr (fun x => x ≠ g ∧ Ty [9] 0 C b x) b A L :=
  h.kept fun x ⟨h1, h2⟩ hlt => by
    have hne : u.ownBlock ≠ some x := by
      rcases ho.2 with ⟨rfl, _⟩ | ⟨y, cap', cur', rfl, _, hy, _⟩
      · simp [Value.ownBlock]
      · intro e1
        have e1 : y = x := by simpa [Value.ownBlock] using e1
        subst e1
        rcases h2 with h2 | ⟨-, cs, t, h3, h4⟩
        · exact absurd h2 (Nat.not_lt_zero _)
        · rw [hy] at h3
          injection h3 with h3
          injection h3 with _ h5
          subst h5
          simp at h4
          exact he h4
    have hx := hg.block x hlt (fun e1 => hne e1.symm)
    refine ⟨⟨h1, ?_⟩, Nat.lt_of_lt_of_le hlt hg.size, hx⟩
    rcases h2 with h2 | ⟨h2, cs, t, h3, h4⟩
    · exact .inl h2
    · exact .inr ⟨h2, cs, t, hx.trans h3, h4⟩
theorem Kind.tyL {α : Type} (K : Kind α) {ts : List TypeId} {B0 B : Nat} {w w' : World} {a : α} {vs : List Value} (h : K.rep (Ty ts B0 B w) w a vs) (hb : Below w.heap.size w w') : K.rep (Ty ts B0 B w') w' a vs :=
  K.kept h fun b hs hlt => ⟨by
    rcases hs with hs | ⟨hs, cs, t, hc, ht⟩
    · exact .inl hs
    · exact .inr ⟨hs, cs, t, (hb.block b hlt).trans hc, ht⟩, Nat.lt_of_lt_of_le hlt hb.size, hb.block b hlt⟩
set_option maxHeartbeats 4000000 in
theorem dcurr_walk (B g : Nat) (A : Option Addr) (l : List Cls) (c : Nat) (w : World) (h : DiceOk B w g) (hl : l.length ≤ 1000) (hA : At kCls (fun b => b ≠ g) w A l) (hm : ∀ x ∈ l, x.2.1 ∈ mcourses) :
    Calls Tryz.prog 11 #[.pointer (some ⟨g, 0, none⟩), .slice A l.length c] w fun e w' => DCurr B w g e w' := by
  have hcw := courses_walk A l c w (by omega) hA.any
  obtain ⟨L, hL⟩ : ∃ L, coursesV l [] = L := ⟨_, rfl⟩
  have hLn : L.Nodup := by rw [← hL]; exact coursesV_nodup l [] (by simp)
  have hLm : ∀ z ∈ L, z ∈ mcourses := fun z hz => by
    rw [← hL] at hz
    rcases coursesV_mem l [] z hz with h | ⟨x, hx, rfl⟩
    · simp at h
    · exact hm x hx
  have hLl : L.length ≤ 3 := hLn.length_le_of_subset hLm
  unfold CrsIs at hcw
  rw [hL] at hcw
  clear hL hA hm
  obtain ⟨n, hnn⟩ : ∃ n, l.length = n := ⟨_, rfl⟩
  rw [hnn] at hcw ⊢
  clear hnn hl
  have hgw := h.lt
  replace hLn := hide hLn
  replace hLm := hide hLm
  go_enter Tryz.func11, Tryz.ntmps11
  go_wp2_with fail
  refine hcw.mono ?_
  clear hcw
  rintro e w1 ⟨v5, rfl, hown, hb1⟩
  obtain ⟨A5, c5, rfl⟩ := hown.form
  have hat : At kStr (fun b => b ≠ g ∧ Ty [9] 0 w.heap.size w1 b) w1 A5 L := by
    obtain ⟨A', c', e, -, h1⟩ := hown.at
    injection e with e _ _
    subst e
    refine h1.more fun b hb => ⟨?_, hb⟩
    rcases hb with hb | ⟨hb, -⟩
    · exact absurd hb (Nat.not_lt_zero _)
    · omega
  have hcap := hown.cap
  have D1 := h.later hb1
  have T1 : Thrown B w g w1 := ⟨hgw, D1, only_of_below hb1 _⟩
  clear hown h D1 hb1
  go_wp2_with fail
  refine (next_walk B g 4 (by omega) w1 T1.dice).mono ?_
  rintro e w2 ⟨k0, rfl, p2, q2, -, T2, -⟩
  have q2 := q2 (by omega)
  obtain ⟨k0, rfl⟩ := Int.eq_ofNat_of_zero_le p2
  replace hat := hat.tyTossed T2
  replace T1 := T1.trans T2
  clear T2 p2
  go_wp2_with fail
  go_loopw [6, 7] (fun v6 v7 wr => DCLoop B w g L A5 v6 v7 wr) (fun _ v7 _ => (intOf v7).toNat)
  case atStart => exact ⟨k0, [], rfl, by simp; omega, ⟨by simp, fun j x h => by simp at h⟩, Own.nil, T1, hat⟩
  case round =>
    clear hat T1
    obtain ⟨k, ls, rfl, hk, hmade, hown, T, hat⟩ := hrel
    obtain ⟨q, hq⟩ : ∃ q, ls.length = q := ⟨_, rfl⟩
    by_cases hgo : 0 < k ∧ 0 < L.length
    · obtain ⟨hk0, hL0⟩ := hgo
      obtain ⟨k, rfl⟩ : ∃ k', k = k' + 1 := ⟨k - 1, by omega⟩
      have hk1 : (0 : Int) < ((k + 1 : Nat) : Int) := by omega
      have hL1 : (0 : Int) < (L.length : Int) := by omega
      have hnw : IntKind.i64.wrap (((k + 1 : Nat) : Int) - 1) = (k : Int) := by rw [IntKind.wrap_i64]; omega
      have hsm := some_walk B g A5 L c5 2 (by omega) (by omega) wr T.dice (by omega) (hat.more fun b hb => hb.1)
      go_wp2_with fail
      refine hsm.mono ?_
      clear hsm
      rintro e w3 ⟨v8, M, rfl, hsub, hownM, T3⟩
      have hown3 := hown.thrown T3 hgw (Nat.zero_le _)
      have hat3 := hat.tyTossed T3
      have hzr := T.size
      have TT := T.trans T3
      obtain ⟨A6, c6, rfl⟩ := hown3.form
      obtain ⟨A8, c8, rfl⟩ := hownM.form
      clear hown hat T T3
      have hq3 : q < 3 := by omega
      have hM3 : M.length ≤ 3 := by have := hsub.length_le; omega
      have hwi : IntKind.i64.wrap (49 + (q : Int)) = 49 + (q : Int) := by rw [IntKind.wrap_i64]; omega
      have hcv := conv_small w3 q (by omega) 1
      by_cases hM0 : M.length = 0
      · have hM0i : decide (M.length = 0) = true := by simpa using hM0
        obtain rfl := List.eq_nil_of_length_eq_zero hM0
        have hlt1 : (L.take 1).length = 1 := by rw [List.length_take]; omega
        obtain ⟨cs, hcse⟩ : ∃ cs, L.take 1 = cs := ⟨_, rfl⟩
        have hcs : (kSlice kStr).rep (Ty [9] 0 w.heap.size w3) w3 cs [.slice A5 1 c5] := by
          rw [← hcse]
          exact ⟨A5, c5, by rw [hlt1], by omega, (hat3.more fun b hb => hb.2).take⟩
        rw [hcse] at hlt1
        have hc0 : 0 < cs.length := by omega
        have hcd : cs.Nodup := by rw [← hcse]; exact hLn.out.sublist (List.take_sublist _ _)
        have hcm : ∀ z ∈ cs, z ∈ mcourses := fun z hz => hLm.out z (List.mem_of_mem_take (by rw [hcse]; exact hz))
        clear hM0 hsub hownM hM3 hlt1 hcse
        have hrep : (kSlice kStr).rep (Ty [9] 0 w.heap.size w3) w3 cs [.slice A5 1 c5] := hcs
        have hrep2 := (kSlice kStr).tyL hrep (ext_alloc (ext_alloc (Below.refl w3.heap.size w3) (.cells #[.int .u8 (49 + (q : Int))] 5)) (.cells #[.string (csName q), .slice A5 1 c5] 36))
        have hcn := csName_is q hq3
        have hmade2 := hide (hmade.snoc (x := (csName q, cs)) (by omega) (by rw [hq]) hc0 hcd hcm)
        have hown4 := (hown3.alloc (.cells #[.int .u8 (49 + (q : Int))] 5)).alloc (.cells #[.string (csName q), .slice A5 1 c5] 36)
        have hatn := (hat3.tyLater (ext_alloc (Below.refl _ _) (.cells #[.int .u8 (49 + (q : Int))] 5))).tyLater (ext_alloc (Below.refl _ _) (.cells #[.string (csName q), .slice A5 1 c5] 36))
        have TTn := (TT.alloc (.cells #[.int .u8 (49 + (q : Int))] 5)).alloc (.cells #[.string (csName q), .slice A5 1 c5] 36)
        have hzz := TT.size
        rw [hq] at hown4 ⊢
        clear hrep hcs hown3 hat3 TT hmade hc0 hcd hcm
        replace hq := hide hq
        go_wp2_with (at_builtin; (try rw [hcn]); refine wpList_own rfl _ _ rfl apd_currs (by decide) rfl hown4 ?d1 (by decide) ⟨w3.heap.size + 1, 0, none⟩ 1 rfl (csName q, cs) [.string (csName q), .slice A5 1 c5] ⟨[_], [_], rfl, rfl, hrep2⟩ (World.news_of_block (cs := #[.string (csName q), .slice A5 1 c5]) (t := 36) (fr := (0, 0)) (heap_new2 _ _ _)) (by decide) (Nat.zero_le _) ?d2 ?_)
        case d1 => rw [hq.out]; omega
        case d2 => simp only [World.size_alloc]; omega
        intro v9 w9 hown9 hgrow
        have T9 : Thrown B w g w9 := TTn.grown hgrow (fun y hy => (hown4.lt y hy).1)
        have hat9 : At kStr (fun x => x ≠ g ∧ Ty [9] 0 w.heap.size w9 x) w9 A5 L := by
          obtain ⟨vss, -, ho, -⟩ := hown4
          exact hatn.tyGrown ho (by decide) hgrow
        clear hown4 hgrow hatn TTn hcn
        go_wp2
        go_roundw
        case rel => exact ⟨k, ls ++ [(csName q, cs)], by go_num, by rw [List.length_append]; simp; omega, hmade2.out, hown9, T9, hat9⟩
        case measure => first | (simp [intOf]; done) | (simp [intOf]; omega)
      · have hM0i : ((M.length : Int) == 0) = false := beq_false_of_ne (by omega)
        have hcs : (kSlice kStr).rep (Ty [9] 0 w.heap.size w3) w3 M [.slice A8 M.length c8] := (hownM.lower hzr).rep
        have hc0 : 0 < M.length := by omega
        have hcd : M.Nodup := hLn.out.sublist hsub
        have hcm : ∀ z ∈ M, z ∈ mcourses := fun z hz => hLm.out z (hsub.subset hz)
        clear hM0 hsub hownM
        have hrep : (kSlice kStr).rep (Ty [9] 0 w.heap.size w3) w3 M [.slice A8 M.length c8] := hcs
        have hrep2 := (kSlice kStr).tyL hrep (ext_alloc (ext_alloc (Below.refl w3.heap.size w3) (.cells #[.int .u8 (49 + (q : Int))] 5)) (.cells #[.string (csName q), .slice A8 M.length c8] 36))
        have hcn := csName_is q hq3
        have hmade2 := hide (hmade.snoc (x := (csName q, M)) (by omega) (by rw [hq]) hc0 hcd hcm)
        have hown4 := (hown3.alloc (.cells #[.int .u8 (49 + (q : Int))] 5)).alloc (.cells #[.string (csName q), .slice A8 M.length c8] 36)
        have hatn := (hat3.tyLater (ext_alloc (Below.refl _ _) (.cells #[.int .u8 (49 + (q : Int))] 5))).tyLater (ext_alloc (Below.refl _ _) (.cells #[.string (csName q), .slice A8 M.length c8] 36))
        have TTn := (TT.alloc (.cells #[.int .u8 (49 + (q : Int))] 5)).alloc (.cells #[.string (csName q), .slice A8 M.length c8] 36)
        have hzz := TT.size
        rw [hq] at hown4 ⊢
        clear hrep hcs hown3 hat3 TT hmade hc0 hcd hcm
        replace hq := hide hq
        go_wp2_with (at_builtin; (try rw [hcn]); refine wpList_own rfl _ _ rfl apd_currs (by decide) rfl hown4 ?d1 (by decide) ⟨w3.heap.size + 1, 0, none⟩ 1 rfl (csName q, M) [.string (csName q), .slice A8 M.length c8] ⟨[_], [_], rfl, rfl, hrep2⟩ (World.news_of_block (cs := #[.string (csName q), .slice A8 M.length c8]) (t := 36) (fr := (0, 0)) (heap_new2 _ _ _)) (by decide) (Nat.zero_le _) ?d2 ?_)
        case d1 => rw [hq.out]; omega
        case d2 => simp only [World.size_alloc]; omega
        intro v9 w9 hown9 hgrow
        have T9 : Thrown B w g w9 := TTn.grown hgrow (fun y hy => (hown4.lt y hy).1)
        have hat9 : At kStr (fun x => x ≠ g ∧ Ty [9] 0 w.heap.size w9 x) w9 A5 L := by
          obtain ⟨vss, -, ho, -⟩ := hown4
          exact hatn.tyGrown ho (by decide) hgrow
        clear hown4 hgrow hatn TTn hcn
        go_wp2
        go_roundw
        case rel => exact ⟨k, ls ++ [(csName q, M)], by go_num, by rw [List.length_append]; simp; omega, hmade2.out, hown9, T9, hat9⟩
        case measure => first | (simp [intOf]; done) | (simp [intOf]; omega)
    · have hgo' : ¬ (0 < (k : Int) ∧ 0 < (L.length : Int)) := by omega
      have hq' := hide hq
      have hfin := hide hown
      by_cases hk0 : 0 < k
      · have hk1 : (0 : Int) < (k : Int) := by omega
        have hL0 : ¬ (0 : Int) < (L.length : Int) := by omega
        clear hq hown
        go_wp2
        go_ret
        exact ⟨_, ls, rfl, hmade, hfin.out, T⟩
      · have hk1 : ¬ (0 : Int) < (k : Int) := by omega
        clear hq hown
        go_wp2
        go_ret
        exact ⟨_, ls, rfl, hmade, hfin.out, T⟩
end Go.Proofs.YtonpfohhedcjbaaGreatDoor

namespace Go.Proofs.YtonpfohhedcjbaaGreatDoor
open Go.RowKit
set_option maxRecDepth 100000

theorem apd_clss : Apd Tryz.prog 27 43 9 160 := apd Tryz.underlying27 (z := .agg #[.string ⟨#[]⟩, .string ⟨#[]⟩, .string ⟨#[]⟩, .int .i64 0, .slice none 0 0, .int .i64 0, .slice none 0 0, .slice none 0 0, .slice none 0 0]) (by kernel_rfl) rfl
abbrev clsTs : List TypeId := [3, 9, 89]
def DClss (B N : Nat) (d s : Int) (most : Nat) (names : List ByteArray) (w : World) (g : Nat) (e : Ending) (w' : World) : Prop :=
  ∃ v ls, e = .returned v ∧ ClassesMade N d s most names ls ∧ Own kCls 43 clsTs 0 w.heap.size w' v ls ∧ Thrown B w g w'
theorem clsName_is : ∀ q : Nat, q < 6 → (⟨#[99]⟩ : ByteArray) ++ (⟨#[dgB q]⟩ : ByteArray) = clsName q := by decide +kernel
/-- A class whose rows are known. -/
theorem cls_rep {S : Nat → Prop} {W : World} {q : Nine} {ps : List Int} {fs st : List ByteArray} {ss : List (Int × Int)} (h4 : (kSlice kInt).rep S W ps [.slice q.A4 q.n4 q.c4]) (h6 : (kSlice kStr).rep S W fs [.slice q.A6 q.n6 q.c6]) (h7 : (kSlice kStr).rep S W st [.slice q.A7 q.n7 q.c7]) (h8 : (kSlice kStart).rep S W ss [.slice q.A8 q.n8 q.c8]) :
    kCls.rep S W (q.z, q.co, q.pa, q.n, ps, q.m, fs, st, ss) (cboxV q).toList :=
  ⟨[_], _, rfl, rfl, [_], _, rfl, rfl, [_], _, rfl, rfl, [_], _, rfl, rfl, [_], _, rfl, h4, [_], _, rfl, rfl, [_], _, rfl, h6, [_], _, rfl, h7, h8⟩
theorem ClassesMade.snoc {N : Nat} {d s : Int} {most : Nat} {names : List ByteArray} {l : List Cls} {x : Cls} (h : ClassesMade N d s most names l) (hl : l.length < most) (h1 : x.1 = clsName l.length) (h2 : ClassMade N d s x) (h3 : x.2.2.2.2.2.2.2.1.Sublist names) : ClassesMade N d s most names (l ++ [x]) := by
  refine ⟨by rw [List.length_append]; simp; omega, fun j y hj => ?_⟩
  rcases Nat.lt_or_ge j l.length with hlt | hge
  · rw [List.getElem?_append_left hlt] at hj
    exact h.2 j y hj
  · rw [List.getElem?_append_right hge] at hj
    have : j = l.length := by
      have := (List.getElem?_eq_some_iff.1 hj).1
      simp at this; omega
    subst this
    simp at hj
    subst hj
    exact ⟨h1, h2, h3⟩
theorem Own.ne {α : Type} {K : Kind α} {t : TypeId} {ts : List TypeId} {C g n k : Nat} {W : World} {A : Option Addr} {l : List α} (h : Own K t ts 0 C W (.slice A n k) l) (hg : g < C) : At K (fun b => b ≠ g) W A l := by
  obtain ⟨A', c', e, -, h1⟩ := h.at
  injection e with e _ _
  subst e
  refine h1.more fun b hb => ?_
  rcases hb with hb | ⟨hb, -⟩
  · exact absurd hb (Nat.not_lt_zero _)
  · omega
/-- A class's box is written. -/
theorem Own.boxed {α : Type} {K : Kind α} {t : TypeId} {ts : List TypeId} {B x i : Nat} {W : World} {v u : Value} {l : List α} {q : Nine} (h : Own K t ts 0 B W v l) (hc : CBox W x q) (hx : ∀ y, v.ownBlock = some y → y ≠ x) (ht : 43 ∉ ts) : Own K t ts 0 B (W.setCell ⟨x, i, none⟩ u) v l := by
  refine h.kept (only_setCell (g := x) (World.grownBy.refl _ _) (Or.inl rfl) _) ?_ (fun y hy => ⟨Nat.zero_le _, fun ⟨_, cs, t', hcs, hm⟩ => ?_⟩)
  · cases hv : v.ownBlock with
    | none => exact .inl rfl
    | some y => exact .inr fun e => hx y hv (by injection e)
  · injection hy with hy
    subst hy
    unfold CBox at hc
    rw [hc] at hcs
    injection hcs with h1
    injection h1 with _ h2
    exact ht (h2 ▸ hm)
theorem Own.tsMore {α : Type} {K : Kind α} {t : TypeId} {ts : List TypeId} {B0 B : Nat} {W : World} {l : List α} {v : Value} (h : Own K t [] B0 B W v l) (ht : t ∈ ts) : (kSlice K).rep (Ty ts B0 B W) W l [v] :=
  (kSlice K).more h.rep fun b hb => by
    rcases hb with hb | ⟨hb, cs, t', hc, hm⟩
    · exact .inl hb
    · simp at hm; subst hm; exact .inr ⟨hb, cs, t', hc, ht⟩
theorem lect_code {S : Nat → Prop} {w : World} {A : Option Addr} {ls : List Lect} (h : At kLect S w A ls) {j : Nat} {l : Lect} (hj : ls[j]? = some l) :
    ∃ b off, A = some ⟨b, off, none⟩ ∧ b < w.heap.size ∧ w.cell? ⟨b, off + j * 2, none⟩ = some (.string l.1) := by
  obtain ⟨b, off, vs, e, hs, hlt, ⟨us, ts, rfl, h1, h2⟩, hcell⟩ := h.get hj
  rw [rep_str] at h1
  subst h1
  exact ⟨b, off, e, hlt, hcell 0 _ rfl⟩
/-- What stays while classes are made. -/
structure CsSt (B : Nat) (w : World) (g gd : Nat) (d s b m : Int) (A11 : Option Addr) (n11 c11 : Nat) (names : List ByteArray) (v13 : Value) (ls : List Cls) (W : World) : Prop where
  thrown : Thrown B w g W
  grid : Box4 W gd (.int .i64 d) (.int .i64 s) (.int .i64 b) (.int .i64 m)
  names : Own kStr 9 [] 0 (gd + 1) W (.slice A11 n11 c11) names
  list : Own kCls 43 clsTs 0 (gd + 1) W v13 ls
section
variable {B : Nat} {w W W' : World} {g gd : Nat} {d s b m : Int} {A11 : Option Addr} {n11 c11 : Nat} {names : List ByteArray} {v13 : Value} {ls : List Cls}
theorem CsSt.later (h : CsSt B w g gd d s b m A11 n11 c11 names v13 ls W) (hb : Below W.heap.size W W') : CsSt B w g gd d s b m A11 n11 c11 names v13 ls W' := ⟨h.thrown.later hb, h.grid.later hb, h.names.later hb, h.list.later hb⟩
theorem CsSt.alloc (h : CsSt B w g gd d s b m A11 n11 c11 names v13 ls W) (o : Obj) : CsSt B w g gd d s b m A11 n11 c11 names v13 ls (W.alloc o) := h.later (ext_alloc (Below.refl _ _) _)
theorem CsSt.on (h : CsSt B w g gd d s b m A11 n11 c11 names v13 ls W) (T : Thrown B W g W') (h1 : g < gd) : CsSt B w g gd d s b m A11 n11 c11 names v13 ls W' :=
  ⟨h.thrown.trans T, T.box (by omega) h.grid, h.names.thrown T (by omega) (Nat.zero_le _), h.list.thrown T (by omega) (Nat.zero_le _)⟩
theorem CsSt.set {x i : Nat} {q : Nine} {u : Value} (h : CsSt B w g gd d s b m A11 n11 c11 names v13 ls W) (hc : CBox W x q) (hw : w.heap.size ≤ x) (hgd : gd ≠ x) (hx : ∀ y, v13.ownBlock = some y → y ≠ x) : CsSt B w g gd d s b m A11 n11 c11 names v13 ls (W.setCell ⟨x, i, none⟩ u) :=
  ⟨h.thrown.set (p := ⟨x, i, none⟩) hw u, ⟨cell_set_other h.grid.c0 hgd u, cell_set_other h.grid.c1 hgd u, cell_set_other h.grid.c2 hgd u, cell_set_other h.grid.c3 hgd u⟩, own_setC h.names hc (by decide), h.list.boxed hc hx (by decide)⟩
end
def CsLoop (B N : Nat) (w : World) (g gd : Nat) (d s b m : Int) (most : Nat) (A11 : Option Addr) (n11 c11 : Nat) (names : List ByteArray) (v13 v14 : Value) (wr : World) : Prop :=
  ∃ (k : Nat) (ls : List Cls), v14 = .int .i64 (k : Int) ∧ ls.length + k ≤ most ∧ ClassesMade N d s most names ls ∧ CsSt B w g gd d s b m A11 n11 c11 names v13 ls wr
set_option maxHeartbeats 8000000 in
theorem dclss_walk (B g : Nat) (d s b m : Int) (N : Nat) (hd : 1 ≤ d ∧ d ≤ 1000) (hs : 1 ≤ s ∧ s ≤ 900) (hN1 : 1 ≤ N) (hN : N ≤ 20) (Al : Option Addr) (lects : List Lect) (cl : Nat) (hll : lects.length ≤ 1000) (most : Nat) (hmost : most ≤ 6) (w : World) (h : DiceOk B w g) (hFv : StrsVar B 0 featuresL w) (hAl : At kLect AnyB w Al lects) :
    Calls Tryz.prog 9 #[.pointer (some ⟨g, 0, none⟩), .agg #[.int .i64 d, .int .i64 s, .int .i64 b, .int .i64 m], .int .i64 N, .slice Al lects.length cl, .int .i64 most] w fun e w' => DClss B N d s most (lects.map fun x => x.1) w g e w' := by
  have hlt := h.lt
  have hBg := h.1
  obtain ⟨W, hW⟩ : ∃ W, w.alloc (.cells #[.int .i64 d, .int .i64 s, .int .i64 b, .int .i64 m] 30) = W := ⟨_, rfl⟩
  have hb0 : Below w.heap.size w W := by rw [← hW]; exact (by repeat (first | exact Below.refl _ _ | refine ext_alloc ?_ _ | refine ext_drewN ?_ _ | refine ext_drew ?_ | refine ext_trans ?_ (by assumption)))
  have hG : Box4 W w.heap.size (.int .i64 d) (.int .i64 s) (.int .i64 b) (.int .i64 m) := by rw [← hW]; exact Box4.new w 30 (.int .i64 d) (.int .i64 s) (.int .i64 b) (.int .i64 m)
  obtain ⟨nl, hnl⟩ : ∃ nl, lects.length = nl := ⟨_, rfl⟩
  rw [hnl] at hll ⊢
  obtain ⟨gd, hgd⟩ : ∃ gd, w.heap.size = gd := ⟨_, rfl⟩
  rw [hgd] at hG hlt
  have hWz : gd + 1 ≤ W.heap.size := by have := hG.lt; omega
  replace hnl := hide hnl
  replace hW := hide hW
  replace hgd := hide hgd
  go_enter Tryz.func9, Tryz.ntmps9
  go_wp2_with fail
  rw [hW.out, hgd.out]
  go_loopw [11, 12] (fun v11 i wr => ∃ j : Nat, j ≤ nl ∧ i = .int .i64 j ∧ Own kStr 9 [] 0 (gd + 1) wr v11 ((lects.map fun x => x.1).take j) ∧ Below w.heap.size w wr ∧ Box4 wr gd (.int .i64 d) (.int .i64 s) (.int .i64 b) (.int .i64 m) ∧ gd + 1 ≤ wr.heap.size) (fun _ i _ => nl - (intOf i).toNat)
  case atStart => exact ⟨0, Nat.zero_le _, rfl, Own.nil, hb0, hG, hWz⟩
  case round =>
    clear hb0 hG hW hWz
    obtain ⟨j, hj, rfl, hown, hb, hG, hWz⟩ := hrel
    by_cases hlt2 : j < nl
    · obtain ⟨l, hl⟩ : ∃ l, lects[j]? = some l := ⟨_, List.getElem?_eq_getElem (by rw [hnl.out]; exact hlt2)⟩
      obtain ⟨lb, lo, rfl, hlb, k0⟩ := lect_code (hAl.later hb) hl
      have ht : (lects.map fun x => x.1).take (j + 1) = (lects.map fun x => x.1).take j ++ [l.1] := by rw [List.take_add_one, List.getElem?_map, hl]; rfl
      have hlen : ((lects.map fun x => x.1).take j).length ≤ nl := by rw [List.length_take, List.length_map, hnl.out]; omega
      obtain ⟨L, hL⟩ : ∃ L, (lects.map fun x => x.1).take j = L := ⟨_, rfl⟩
      rw [hL] at hown ht hlen
      obtain ⟨code, ts⟩ := l
      dsimp only at k0 ht
      have hj0 : (0 : Int) ≤ (j : Int) := by omega
      have hj1 : (j : Int) < (nl : Int) := by omega
      replace ht := hide ht
      clear hl hL
      obtain ⟨A11, c11, rfl⟩ := hown.form
      go_wp2_with (at_builtin; refine wpList_own rfl _ _ rfl apd_strs (by decide) rfl (hown.alloc _) ?d1 (by decide) ⟨wr.heap.size, 0, none⟩ 1 rfl code [.string code] rfl (World.news_of_block (cs := #[.string code]) (t := 9) (fr := (0, 0)) (heap_alloc_new _ _)) (by decide) (Nat.zero_le _) ?d2 ?_)
      case d1 => omega
      case d2 => rw [World.size_alloc]; omega
      intro v4 w4 hown4 hgrow
      have hb4 := below_grown (ext_alloc hb (.cells #[.string code] 9)) hgrow (fun y hy => by have := (hown.lt y hy).1; rw [hgd.out]; omega)
      have hG4 : Box4 w4 gd (.int .i64 d) (.int .i64 s) (.int .i64 b) (.int .i64 m) := by
        have hne : some gd ≠ (Value.slice A11 L.length c11).ownBlock := fun e => by
          have := (hown.lt gd e.symm).1
          omega
        have hA := hG.later (ext_alloc (Below.refl _ _) (.cells #[.string code] 9))
        exact ⟨cell_grown hA.c0 hgrow hne, cell_grown hA.c1 hgrow hne, cell_grown hA.c2 hgrow hne, cell_grown hA.c3 hgrow hne⟩
      have hz4 : gd + 1 ≤ w4.heap.size := by have := hG4.lt; omega
      clear hown hgrow hG
      go_wp2
      go_roundw
      case rel => exact ⟨j + 1, by omega, by go_num, by rw [ht.out]; exact hown4, hb4, hG4, hz4⟩
      case measure => simp [intOf]; omega
    · obtain rfl : j = nl := by omega
      have hall : (lects.map fun x => x.1).take j = lects.map fun x => x.1 := by rw [← hnl.out, ← List.length_map (fun x : Lect => x.1), List.take_length]
      rw [hall] at hown
      obtain ⟨A11, c11, rfl⟩ := hown.form
      obtain ⟨names, hnm⟩ : ∃ names, (lects.map fun x => x.1) = names := ⟨_, rfl⟩
      obtain ⟨n11, hn11⟩ : ∃ n11, names.length = n11 := ⟨_, rfl⟩
      have hnn : names.length ≤ 1000 := by rw [← hnm, List.length_map, hnl.out]; exact hll
      rw [hnm] at hown ⊢
      rw [hn11] at hown ⊢
      have hT : Thrown B w g wr := ⟨by rw [hgd.out]; exact hlt, h.later hb, only_of_below hb _⟩
      have hC : CsSt B w g gd d s b m A11 n11 c11 names (.slice none 0 0) [] wr := ⟨hT, hG, hown, Own.nil⟩
      replace hn11 := hide hn11
      replace hnm := hide hnm
      clear hall hnl hll hAl hown hb hG hT h hj hlt2
      go_wp2_with fail
      refine (next_walk B g ((most : Int) + 1) (by omega) _ hC.thrown.dice).mono ?_
      rintro e w2 ⟨k, rfl, p1, p2, -, T2, -⟩
      have p2 := p2 (by omega)
      obtain ⟨k, rfl⟩ := Int.eq_ofNat_of_zero_le p1
      have hC2 := hC.on T2 hlt
      clear hC T2
      go_wp2_with fail
      go_loopw [13, 14] (fun v13 v14 wq => CsLoop B N w g gd d s b m most A11 n11 c11 names v13 v14 wq) (fun _ v14 _ => (intOf v14).toNat)
      case atStart => exact ⟨k, [], rfl, by simp; omega, ⟨by simp, fun j x h => by simp at h⟩, hC2⟩
      case round =>
        clear hC2
        obtain ⟨k, ls, rfl, hk, hmade, hC⟩ := hrel
        obtain ⟨q, hq⟩ : ∃ q, ls.length = q := ⟨_, rfl⟩
        by_cases hgo : 0 < k
        · obtain ⟨k, rfl⟩ : ∃ k', k = k' + 1 := ⟨k - 1, by omega⟩
          have hk1 : (0 : Int) < ((k + 1 : Nat) : Int) := by omega
          have hnw : IntKind.i64.wrap (((k + 1 : Nat) : Int) - 1) = (k : Int) := by rw [IntKind.wrap_i64]; omega
          have hwi : IntKind.i64.wrap (49 + (q : Int)) = 49 + (q : Int) := by rw [IntKind.wrap_i64]; omega
          rename World => wq
          have hcv := conv_small wq q (by omega) 1
          obtain ⟨g0, g1, g2, g3⟩ := id hC.grid
          obtain ⟨A13, c13, rfl⟩ := hC.list.form
          rw [hq] at hC ⊢
          go_wp2_with fail
          rw [clsName_is q (by omega)]
          have hgz := hC.grid.lt
          have hCa := hC.alloc (.cells #[.int .u8 (49 + (q : Int))] 5)
          have hFw := hFv.below (hCa.thrown.below hBg)
          refine (dclass_walk B g d s b m N (clsName q) hd hs hN1 hN _ hCa.thrown.dice hFw).mono ?_
          rintro e w3 ⟨cq, ps, fs, ss, rfl, a1, a2, a3, a4, a5, a6, a7, a8, o4, o6, o8, T3⟩
          replace a1 := hide a1
          have hza : gd + 1 ≤ (wq.alloc (.cells #[.int .u8 (49 + (q : Int))] 5)).heap.size := by rw [World.size_alloc]; omega
          have hC3 := hCa.on T3 hlt
          replace o4 := o4.lower hza
          replace o6 := o6.lower hza
          replace o8 := o8.lower hza
          have hx4 := cbox_new w3 cq
          have hC4 := hC3.alloc (.cells (cboxV cq) 43)
          have hrow : ∀ y, (Value.slice A13 q c13).ownBlock = some y → y ≠ w3.heap.size := fun y hy => by have := (hC3.list.lt y hy).2; omega
          replace o4 := o4.alloc (.cells (cboxV cq) 43)
          replace o6 := o6.alloc (.cells (cboxV cq) 43)
          replace o8 := o8.alloc (.cells (cboxV cq) 43)
          have hgw3 : gd < w3.heap.size := hC3.grid.lt
          obtain ⟨x, hxx⟩ : ∃ x, w3.heap.size = x := ⟨_, rfl⟩
          obtain ⟨W4, hW4⟩ : ∃ W4, w3.alloc (.cells #[.string cq.z, .string cq.co, .string cq.pa, .int .i64 cq.n, .slice cq.A4 cq.n4 cq.c4, .int .i64 cq.m, .slice cq.A6 cq.n6 cq.c6, .slice cq.A7 cq.n7 cq.c7, .slice cq.A8 cq.n8 cq.c8] 43) = W4 := ⟨_, rfl⟩
          have hW4' : w3.alloc (.cells (cboxV cq) 43) = W4 := hW4
          rw [hW4'] at hx4 hC4 o4 o6 o8
          rw [hxx] at hx4 hrow hgw3
          have hsm := some_walk B g A11 names c11 2 (by omega) (by omega) W4 hC4.thrown.dice (by omega) (hC4.names.ne (by omega))
          rw [hn11.out] at hsm
          have hz4 : gd + 1 ≤ W4.heap.size := by have := hC4.grid.lt; omega
          replace hW4 := hide hW4
          replace hxx := hide hxx
          clear hCa hFw T3 hC3 hza hcv hC g0 g1 g2 g3 hwi hW4'
          unfold cboxV
          go_upto_region 11 with fail
          rw [hW4.out, hxx.out]
          clear hW4 hxx
          go_wp2_with fail
          refine hsm.mono ?_
          clear hsm
          rintro e w5 ⟨v8, L, rfl, hsub, hoL, T5⟩
          obtain ⟨A8, c8, rfl⟩ := hoL.form
          have hC5 := hC4.on T5 hlt
          have hx5 := hx4.thrown T5 (by omega)
          replace o4 := o4.tossed T5 (by omega)
          replace o6 := o6.tossed T5 (by omega)
          replace o8 := o8.tossed T5 (by omega)
          replace hoL := hoL.lower hz4
          have hx6 := hx5.set7 A8 L.length c8
          have hC6 := hC5.set (i := 7) (u := .slice A8 L.length c8) hx5 (by rw [hgd.out]; omega) (by omega) hrow
          replace o4 := own_setC (i := 7) (u := .slice A8 L.length c8) o4 hx5 (by decide)
          replace o6 := own_setC (i := 7) (u := .slice A8 L.length c8) o6 hx5 (by decide)
          replace o8 := own_setC (i := 7) (u := .slice A8 L.length c8) o8 hx5 (by decide)
          replace hoL := own_setC (i := 7) (u := .slice A8 L.length c8) hoL hx5 (by decide)
          have n7 := hx5.c7
          have f7 := hx5.free 7
          have hxl := hx5.lt
          obtain ⟨W6, hW6⟩ : ∃ W6, w5.setCell ⟨x, 7, none⟩ (.slice A8 L.length c8) = W6 := ⟨_, rfl⟩
          rw [hW6] at hx6 hC6 o4 o6 o8 hoL
          replace hW6 := hide hW6
          have hz6 : gd + 1 ≤ W6.heap.size := by have := hC6.grid.lt; omega
          clear hC4 hx4 T5 hC5 hx5 hz4
          go_upto_region 12 with fail
          rw [hW6.out]
          clear n7 f7 hxl hW6
          have hcm : ClassMade N d s (cq.z, cq.co, cq.pa, cq.n, ps, cq.m, fs, L, ss) := ⟨a2, a3, a4, a5, a6, a7, a8⟩
          have hmade2 := hide (hmade.snoc (x := (cq.z, cq.co, cq.pa, cq.n, ps, cq.m, fs, L, ss)) (by omega) (by rw [hq]; exact a1.out) hcm hsub)
          obtain ⟨r, hr⟩ : ∃ r : Nine, { cq with A7 := A8, n7 := L.length, c7 := c8 } = r := ⟨_, rfl⟩
          have hrep : kCls.rep (Ty clsTs 0 (gd + 1) (W6.alloc (.cells (cboxV r) 43))) (W6.alloc (.cells (cboxV r) 43)) (cq.z, cq.co, cq.pa, cq.n, ps, cq.m, fs, L, ss) (cboxV r).toList := by
            have := cls_rep (S := Ty clsTs 0 (gd + 1) (W6.alloc (.cells (cboxV r) 43))) (W := W6.alloc (.cells (cboxV r) 43)) (q := { cq with A7 := A8, n7 := L.length, c7 := c8 }) (ps := ps) (fs := fs) (st := L) (ss := ss) ((o4.alloc _).tsMore (by decide)) ((o6.alloc _).tsMore (by decide)) ((hoL.alloc _).tsMore (by decide)) ((o8.alloc _).tsMore (by decide))
            rw [hr] at this
            rw [← hr] at this ⊢
            exact this
          rw [hr] at hx6
          have hC7 := hC6.alloc (.cells (cboxV r) 43)
          have y0 := hx6.c0
          have y1 := hx6.c1
          have y2 := hx6.c2
          have y3 := hx6.c3
          have y4 := hx6.c4
          have y5 := hx6.c5
          have y6 := hx6.c6
          have y7 := hx6.c7
          have y8 := hx6.c8
          replace hr := hide hr
          clear hmade hcm hsub o4 o6 o8 hoL a1 a2 a3 a4 a5 a6 a7 a8 hC6 hx6
          go_wp2_with (at_builtin; refine wpList_own rfl _ _ rfl apd_clss (by decide) rfl hC7.list ?d3 (by decide) ⟨W6.heap.size, 0, none⟩ 1 rfl (cq.z, cq.co, cq.pa, cq.n, ps, cq.m, fs, L, ss) (cboxV r).toList hrep (World.news_of_block (cs := cboxV r) (t := 43) (fr := (0, 0)) (heap_alloc_new _ _)) (by decide) (Nat.zero_le _) ?d4 ?_)
          case d3 => omega
          case d4 => rw [World.size_alloc]; omega
          intro v' w9 hown9 hgrow
          have hlow : ∀ y, (Value.slice A13 q c13).ownBlock = some y → gd + 1 ≤ y := fun y hy => (hC7.list.lt y hy).1
          have hne : some gd ≠ (Value.slice A13 q c13).ownBlock := fun e => by have := hlow gd e.symm; omega
          have hn9 : Own kStr 9 [] 0 (gd + 1) w9 (.slice A11 n11 c11) names := by
            obtain ⟨vss, -, ho, -⟩ := hC7.list
            exact hC7.names.grown ho (Nat.zero_le _) hgrow (by decide) (by simp)
          have hC9 : CsSt B w g gd d s b m A11 n11 c11 names v' (ls ++ [(cq.z, cq.co, cq.pa, cq.n, ps, cq.m, fs, L, ss)]) w9 :=
            ⟨hC7.thrown.grown hgrow (fun y hy => by have := hlow y hy; rw [hgd.out]; omega), ⟨cell_grown hC7.grid.c0 hgrow hne, cell_grown hC7.grid.c1 hgrow hne, cell_grown hC7.grid.c2 hgrow hne, cell_grown hC7.grid.c3 hgrow hne⟩, hn9, hown9⟩
          replace hC9 := hide hC9
          clear hC7 hown9 hgrow hne hn9 hlow y0 y1 y2 y3 y4 y5 y6 y7 y8 hrep hrow
          go_wp2
          go_roundw
          case rel => exact ⟨k, ls ++ [(cq.z, cq.co, cq.pa, cq.n, ps, cq.m, fs, L, ss)], by go_num, by rw [List.length_append]; simp; omega, hmade2.out, hC9.out⟩
          case measure => first | (simp [intOf]; done) | (simp [intOf]; omega)
        · have hk1 : ¬ (0 : Int) < (k : Int) := by omega
          have hfin := hide (hC.list.lower (show w.heap.size ≤ gd + 1 by rw [hgd.out]; omega))
          go_wp2
          go_ret
          exact ⟨_, ls, rfl, by rw [hnm.out]; exact hmade, hfin.out, hC.thrown⟩
end Go.Proofs.YtonpfohhedcjbaaGreatDoor

namespace Go.Proofs.YtonpfohhedcjbaaGreatDoor
open Go.RowKit
set_option maxRecDepth 100000

theorem ftr_of {L : List (String × DataW Unit)} {W : World} (hL : laidMetH Tryz.prog L W) (hplain : (L.all fun x => x.2.handleName?.isNone) = true)
    (hw : (L.filter fun x => x.1 == "timetable/timetablemade.features") = [("timetable/timetablemade.features", Rows.laid_timetable_timetablemade_features)]) : StrsVar W.heap.size 0 featuresL W := by
  rw [MakeChecks.laidMetH_plain _ _ _ hplain] at hL
  have h := laidMet.filter (fun x => x.1 == "timetable/timetablemade.features") hL
  rw [hw] at h
  exact strsVar_of_head (zs := featuresL) (rest := []) (g := 0) (t := 34) (e := 9) (by simp [featuresL]) (by kernel_rfl) (by kernel_rfl) Tryz.underlying34 Tryz.underlying9 (by kernel_rfl) h
end Go.Proofs.YtonpfohhedcjbaaGreatDoor

namespace Go.Proofs.YtonpfohhedcjbaaGreatDoor
open Go.RowKit
set_option maxRecDepth 100000

theorem recs_len11 {B : Nat} {w : World} {A : Option Addr} {rs : List Rec} (h : RecsAt B w A rs) (j : Nat) (hj : j < rs.length) :
    ∃ b off F c, A = some ⟨b, off, none⟩ ∧ b < B ∧ w.cell? ⟨b, off + j * 2, none⟩ = some (.int .i64 (rs.getD j (0, [])).1) ∧ w.cell? ⟨b, off + j * 2 + 1, none⟩ = some (.slice F (rs.getD j (0, [])).2.length c) := by
  obtain ⟨b, off, e, hb, hc⟩ := h (by omega)
  obtain ⟨F, c, c0, c1, -⟩ := hc j (rs.getD j (0, [])) (by rw [List.getD_eq_getElem?_getD, List.getElem?_eq_getElem hj]; rfl)
  exact ⟨b, off, F, c, e, hb, c0, c1⟩
section
variable {α : Type} {n : Nat} {P : Int → List Fld → List α → Option Prob} {f : List Fld → α}
theorem readAll_all {Pr : α → Prop} (hP : ∀ line fs ls, P line fs ls = none → Pr (f fs)) (rs : List Rec) : ∀ x ∈ (readAll n P f rs).ls, Pr x := by
  have key : ∀ (rs : List Rec) (s : RG α), (∀ x ∈ s.ls, Pr x) → ∀ x ∈ (rs.foldl (gathStep n P f) s).ls, Pr x := by
    intro rs
    induction rs with
    | nil => intro s h; exact h
    | cons r rs ih =>
      intro s h
      refine ih _ ?_
      unfold gathStep
      split
      · split
        · exact h
        · rename_i hp
          intro x hx
          rcases List.mem_append.1 hx with hx | hx
          · exact h x hx
          · simp at hx; subst hx; exact hP _ _ _ hp
      · exact h
  exact key rs ⟨[], [], []⟩ (fun x hx => by simp at hx)
end
theorem readCurr_short (rs : List Rec) : ∀ x ∈ (readCurr rs).ls, x.2.length ≤ 8 := readAll_all (Pr := fun x : Curr => x.2.length ≤ 8) (fun line fs ls h => by
  unfold currP at h
  split at h
  · have h1 := (noted_none (noted_none (noted_none h).1).1).1
    unfold codesP at h1
    have := of_decide_eq_false (noted_none h1).2
    show (listV (textAt fs 1)).2.length ≤ 8
    omega
  · cases h) rs
def PairSt (wr : World) (b o1 j k c1 : Nat) (F : Option Addr) (code : ByteArray) (P : List (Int × Int)) (n : Nat) (e : Ending) (V : World) : Prop :=
  ∃ A' c', e = .returned (.slice A' n c') ∧ Cn2 b ((o1 + j * 2)) (.string code) b ((o1 + j * 2 + 1)) (.slice F k c1) V ∧ Below wr.heap.size wr V ∧ At kStart AnyB V A' P
def PairSt2 (wr : World) (b o1 j k c1 : Nat) (F : Option Addr) (code : ByteArray) (P : List (Int × Int)) (n : Nat) (A1 : Option Addr) (e : Ending) (V : World) : Prop :=
  ∃ A' c', e = .returned (.slice A' n c') ∧ Cn2 b ((o1 + j * 2)) (.string code) b ((o1 + j * 2 + 1)) (.slice F k c1) V ∧ Below wr.heap.size wr V ∧ At kStart AnyB V A' P ∧ At kStart AnyB V A1 P
theorem At.drewK {α : Type} {K : Kind α} {S : Nat → Prop} {w : World} {A : Option Addr} {l : List α} (h : At K S w A l) : At K S w.drew A l := h.later (ext_drew (Below.refl _ _))
set_option maxHeartbeats 8000000 in
theorem exact11_walk (A : Option Addr) (l : List Curr) (c : Nat) (R : Option Addr) (rs : List Rec) (cap : Nat) (Q : Option Addr) (cls : List Cls) (cq : Nat) (w : World) (hS : Std w) (hn : l.length ≤ 9223372036854775807) (hlc : l.length ≤ c) (hm : ∀ x ∈ l, x.2.length ≤ 9223372036854775807) (h : At kCurr AnyB w A l)
    (hR : RecsAt w.heap.size w R rs) (hN : rs.length ≤ 1048576) (hs : ∀ r ∈ rs, ∀ f ∈ r.2, f.1.size < 1073741824) (hQ : At kCls AnyB w Q cls) (hql : cls.length ≤ 9223372036854775807) :
    Calls Tryz.prog 20 #[.slice A l.length c, .slice R rs.length cap, .slice Q cls.length cq] w fun e w' => e = .returned (.bool true) ∧ Below w.heap.size w w' := by
  have hwr := cwrite_walk A l c w hS hn hlc hm h
  have hwr2 := hide (fun (V : World) (hV : Below w.heap.size w V) => r11write_walk A l c V hn hm (h.later hV))
  have hrd := hide (fun (V : World) (hV : Below w.heap.size w V) => cRead_walk R rs cap V (hS.after hV) ((hR.below hV).more hV.size) (by omega) hs)
  have hrd2 := hide (fun (V : World) (hV : Below w.heap.size w V) => r11Read_walk R rs cap V (hS.after hV) ((hR.below hV).more hV.size) (by omega) hs)
  have hv1 := hide (fun (V : World) (hV : Below w.heap.size w V) => cval_walk A l c V hn hlc hm (h.later hV))
  have hv2 := hide (fun (V : World) (hV : Below w.heap.size w V) => r11valid_walk A l c V hn hm (h.later hV))
  have hpr := hide (fun (j : Nat) (x : Curr) (hx : l[j]? = some x) (hq : cls.length ≤ 40) (F : Option Addr) (dc : Nat) (V : World) (hV : Below w.heap.size w V) (hF : At kStr AnyB V F x.2) => (⟨pairs_walk x.1 F x.2 dc Q cls cq V (by omega) (hm x (List.mem_of_getElem? hx)) hF (hQ.later hV), r11pairs_walk x.1 F x.2 dc Q cls cq V (by omega) (hm x (List.mem_of_getElem? hx)) hF (hQ.later hV)⟩ : _ ∧ _))
  obtain ⟨N, hNN⟩ : ∃ N, rs.length = N := ⟨_, rfl⟩
  obtain ⟨L, hLL⟩ : ∃ L, l.length = L := ⟨_, rfl⟩
  obtain ⟨q, hqq⟩ : ∃ q, cls.length = q := ⟨_, rfl⟩
  obtain ⟨xs, hxs⟩ : ∃ xs, rowsC l = xs := ⟨_, rfl⟩
  have hxl : xs.length ≤ 9223372036854775807 ∧ ∀ x ∈ xs, x.length ≤ 9223372036854775807 := by
    rw [← hxs]
    unfold rowsC
    split
    · refine ⟨by rw [List.length_map]; exact hn, fun x hx => ?_⟩
      obtain ⟨y, -, rfl⟩ := List.mem_map.1 hx
      show 2 ≤ 9223372036854775807
      decide
    · exact ⟨by simp, fun x hx => by simp at hx⟩
  have hlsl : (readCurr rs).ls.length ≤ 16 := (readCurr_len rs).1
  have hsam := hide (fun (A1 A2 : Option Addr) (c1 c2 : Nat) (V : World) (h1 : At kCurr AnyB V A1 (readCurr rs).ls) (h2 : At kCurr AnyB V A2 (readCurr rs).ls) => r11Same_walk A1 A2 (readCurr rs).ls c1 c2 V (by omega) (fun x hx => by have := readCurr_short rs x hx; omega) h1 h2)
  rw [hLL] at hwr hwr2 hv1 hv2 hn hlc ⊢
  rw [hNN] at hrd hrd2 hN ⊢
  rw [hqq] at hpr hql ⊢
  replace hNN := hide hNN
  replace hLL := hide hLL
  replace hqq := hide hqq
  replace hm := hide hm
  replace hs := hide hs
  clear hQ
  go_enter Tryz.func20, Tryz.ntmps20
  go_wp2_with fail
  go_loopw [7] (fun i wr => ∃ j : Nat, j ≤ N ∧ i = .int .i64 j ∧ w = wr) (fun i _ => N - (intOf i).toNat)
  case atStart => exact ⟨0, Nat.zero_le _, rfl, rfl⟩
  case round =>
    obtain ⟨j, hj, rfl, rfl⟩ := hrel
    by_cases hlt : j < N
    · obtain ⟨rb, off, F, c, rfl, hrb, q0, q1⟩ := recs_len11 hR j (by rw [hNN.out]; exact hlt)
      obtain ⟨k, hk⟩ : ∃ k, (rs.getD j (0, [])).2.length = k := ⟨_, rfl⟩
      rw [hk] at q1
      have hj0 : (0 : Int) ≤ (j : Int) := by omega
      have hj1 : (j : Int) < (N : Int) := by omega
      have haw := awake11_walk _ hS
      clear hk hR hwr hwr2 hrd hrd2 hv1 hv2 hpr hsam h hm hs hlsl
      by_cases h20 : 20 < k
      · go_wp2_with fail
        refine haw.mono ?_
        rintro e w1 ⟨rfl, hb1⟩
        go_wp2
        go_ret
        exact ⟨rfl, hb1⟩
      · clear haw
        go_wp2
        go_roundw
        case rel => exact ⟨j + 1, by omega, by go_num, by first | rfl | trivial⟩
        case measure => simp [intOf]; omega
    · obtain rfl : j = N := by omega
      clear hR
      go_wp2_with fail
      refine hwr.mono ?_
      rintro e w1 ⟨va, rfl, hOa, hb1⟩
      clear hwr
      go_wp2_with fail
      refine (hwr2.out _ hb1).mono ?_
      rintro e w2 ⟨vb, rfl, hOb, hb2⟩
      replace hOa := hOa.later hb2
      replace hb1 := ext_trans hb1 hb2
      clear hwr2 hb2
      go_wp2_with fail
      refine (hrd.out _ hb1).mono ?_
      rintro e w3 ⟨vm, vp, rfl, hLm, hPm, hb3⟩
      replace hOa := hOa.later hb3
      replace hOb := hOb.later hb3
      replace hb1 := ext_trans hb1 hb3
      clear hrd hb3
      go_wp2_with fail
      refine (hrd2.out _ hb1).mono ?_
      rintro e w4 ⟨vn, vq, rfl, hLn, hPn, hb4⟩
      replace hOa := hOa.later hb4
      replace hOb := hOb.later hb4
      replace hLm := hLm.later hb4
      replace hPm := owns_later hPm hb4
      replace hb1 := ext_trans hb1 hb4
      clear hrd2 hb4
      obtain ⟨Aa, ca, rfl, -, hAa⟩ := hOa.any
      obtain ⟨Ab, cb, rfl, -, hAb⟩ := hOb.any
      obtain ⟨Am, cm, rfl, -, hAm⟩ := hLm.any
      obtain ⟨An, cn, rfl, -, hAn⟩ := hLn.any
      rw [hxs] at hAa hAb ⊢
      go_wp2_with fail
      generalize hcr : (readCurr rs).ls.length = nm at *
      replace hcr := hide hcr
      have hq0 : Hid (∀ k : Nat, k = k) := hide fun _ => rfl
      go_loopw [16] (fun i V => ∃ j : Nat, j ≤ L ∧ i = .int .i64 j ∧ Below w.heap.size w V ∧ At (kSlice kStr) AnyB V Aa xs ∧ At (kSlice kStr) AnyB V Ab xs ∧ At kCurr AnyB V Am (readCurr rs).ls ∧ At kCurr AnyB V An (readCurr rs).ls ∧ ProbsOwn w2.heap.size V vp (readCurr rs).ps ∧ ProbsOwn w3.heap.size V vq (readCurr rs).ps) (fun i _ => L - (intOf i).toNat)
      case atStart => exact ⟨0, Nat.zero_le _, rfl, hb1, hAa.any, hAb.any, hAm.any, hAn.any, hPm, hPn⟩
      case round =>
        clear hAa hAb hAm hAn hPm hPn hOa hOb hLm hLn hb1
        obtain ⟨j, hj, rfl, hb, hAa, hAb, hAm, hAn, hPm, hPn⟩ := hrel
        by_cases hlt : j < L
        · have hj0 : (0 : Int) ≤ (j : Int) := by omega
          have hj1 : (j : Int) < (L : Int) := by omega
          by_cases hq40 : q ≤ 40
          · have hqi : (q : Int) ≤ 40 := by omega
            obtain ⟨x, hx⟩ : ∃ x, l[j]? = some x := ⟨_, List.getElem?_eq_getElem (by rw [hLL.out]; exact hlt)⟩
            obtain ⟨b, o1, F, c1, rfl, -, hbl, a0, a1, -, hF⟩ := (h.later hb).curr hx
            have hc1 := hide (fun (V : World) (hV : Below wr.heap.size wr V) => hpr.out j x hx (hq40) F c1 V (ext_trans hb hV) (hF.later hV).any)
            obtain ⟨P, hP⟩ : ∃ P, pairsV x.2 cls = P := ⟨_, rfl⟩
            obtain ⟨k, hk⟩ : ∃ k, x.2.length = k := ⟨_, rfl⟩
            obtain ⟨np, hnp⟩ : ∃ np, P.length = np := ⟨_, rfl⟩
            obtain ⟨code, cs⟩ := x
            dsimp only at a0 a1 hc1 hP hk
            rw [hP, hk] at hc1
            rw [hk] at a1
            have hSL : Cn2 b ((o1 + j * 2)) (.string code) b ((o1 + j * 2 + 1)) (.slice F k c1) wr := ⟨a0, a1⟩
            have hp1 := hide (fun (V : World) (hV : Below wr.heap.size wr V) => (hc1.out V hV).1.mono fun e V' ⟨v, he, hO, hbv⟩ => (by
              obtain ⟨A', c', rfl, -, hAt⟩ := hO.any
              rw [hnp] at he
              exact ⟨A', c', he, hSL.later (ext_trans hV hbv), ext_trans hV hbv, hAt.any⟩ : PairSt wr b o1 j k c1 F code P np e V'))
            have hp2 := hide (fun (A1 : Option Addr) (V : World) (hA1 : At kStart AnyB V A1 P) (hV : Below wr.heap.size wr V) => (hc1.out V hV).2.mono fun e V' ⟨v, he, hO, hbv⟩ => (by
              obtain ⟨A', c', rfl, -, hAt⟩ := hO.any
              rw [hnp] at he
              exact ⟨A', c', he, hSL.later (ext_trans hV hbv), ext_trans hV hbv, hAt.any, hA1.later hbv⟩ : PairSt2 wr b o1 j k c1 F code P np A1 e V'))
            have hpl : Hid (P.length ≤ 9223372036854775807) := hide (by
              rw [← hP]
              unfold pairsV
              have h1 := pairsL_len ((List.range cls.length).filter (okC cs cls))
              have h2 : ((List.range cls.length).filter (okC cs cls)).length ≤ 40 := Nat.le_trans (List.length_filter_le (okC cs cls) (List.range cls.length)) (by rw [List.length_range, hqq.out]; exact hq40)
              have h3 : ((List.range cls.length).filter (okC cs cls)).length * ((List.range cls.length).filter (okC cs cls)).length ≤ 40 * 40 := Nat.mul_le_mul h2 h2
              omega)
            have hp3 := hide (fun (A1 A2 : Option Addr) (k1 k2 : Nat) (V : World) (h1 : At kStart AnyB V A1 P) (h2 : At kStart AnyB V A2 P) (hV : Below wr.heap.size wr V) => (by
              have := samepairs_walk A1 A2 P k1 k2 V hpl.out h1 h2
              rw [hnp] at this
              exact this.mono fun e V' ⟨he, hbv⟩ => ⟨he, ext_trans hV hbv, hSL.later (ext_trans hV hbv)⟩ : Calls Tryz.prog 25 #[.slice A1 np k1, .slice A2 np k2] V fun e V' => e = .returned (.bool true) ∧ Below wr.heap.size wr V' ∧ Cn2 b ((o1 + j * 2)) (.string code) b ((o1 + j * 2 + 1)) (.slice F k c1) V'))
            have hSd := hSL.drew
            have hrefl := Below.refl wr.heap.size wr
            have hkeep := hide (fun (V : World) (hV : Below wr.heap.size wr V) => (⟨hAa.later hV, hAb.later hV, hAm.later hV, hAn.later hV, owns_later hPm hV, owns_later hPn hV⟩ : _ ∧ _ ∧ _ ∧ _ ∧ _ ∧ _))
            clear hAa hAb hAm hAn hPm hPn hx hP hnp hk hc1 hF h hm hs hpr hxl hxs
            go_wp2_with fail
            go_region_held3 (fun W' => Cn2 b ((o1 + j * 2)) (.string code) b ((o1 + j * 2 + 1)) (.slice F k c1) W') (first | ((repeat (first | (with_reducible assumption) | (with_reducible refine Cn2.alloc ?_ _) | (with_reducible refine Cn2.drew ?_))); done)) (first | (go_at_call 12; (with_reducible refine (hp1.out _ (by repeat (first | (with_reducible assumption) | (with_reducible refine ext_alloc ?_ _) | (with_reducible refine ext_drew ?_)))).mono ?_); rintro e w5 ⟨A5, c5, rfl, hx5, hb5, hA5⟩) | (go_at_call 35; (with_reducible refine (hp2.out A5 _ ?_ ?_).mono ?_); (repeat (first | (with_reducible assumption) | (with_reducible refine At.drewK ?_) | (with_reducible refine ext_drew ?_))); rintro e w6 ⟨A6, c6, rfl, hx6, hb6, hA6, hA56⟩) | (go_at_call 25; (with_reducible refine (hp3.out A5 A6 c5 c6 _ ?_ ?_ ?_).mono ?_); (repeat (first | (with_reducible assumption) | (with_reducible refine At.drewK ?_) | (with_reducible refine ext_drew ?_))); rintro e w7 ⟨rfl, hb7, hx7⟩))
            all_goals
              clear hp1 hp2 hp3 hpl
              go_wp2
              go_roundw
              case rel =>
                first
                  | (obtain ⟨z1, z2, z3, z4, z5, z6⟩ := hkeep.out _ hb7
                     exact ⟨j + 1, by omega, by go_num, ext_trans hb hb7, z1, z2, z3, z4, z5, z6⟩)
                  | (obtain ⟨z1, z2, z3, z4, z5, z6⟩ := hkeep.out _ (ext_drew hb7)
                     exact ⟨j + 1, by omega, by go_num, ext_trans hb (ext_drew hb7), z1, z2, z3, z4, z5, z6⟩)
              case measure => simp [intOf]; omega
          · have hqi : ¬ (q : Int) ≤ 40 := by omega
            clear hj1
            (
                        have hSv := hS.after hb
                        have haw := awake11_walk wr hSv
                        have hv1' := hide (fun (V : World) (hV : Below wr.heap.size wr V) => hv1.out V (ext_trans hb hV))
                        have hv2' := hide (fun (V : World) (hV : Below wr.heap.size wr V) => hv2.out V (ext_trans hb hV))
                        have hsl := hide (fun (V : World) (hV : Below wr.heap.size wr V) => r2SameL_walk Aa Ab xs ca cb V hxl.1 hxl.2 (hAa.later hV) (hAb.later hV))
                        have hsc := hide (fun (V : World) (hV : Below wr.heap.size wr V) => hsam.out Am An cm cn V (hAm.later hV) (hAn.later hV))
                        have hsp := hide (fun (V : World) (hV : Below wr.heap.size wr V) => probs_same _ _ vp vq _ V (owns_later hPm hV) (owns_later hPn hV))
                        clear hAa hAb hAm hAn hPm hPn h hm hs hpr hsam hv1 hv2 hxs hSv
                        go_wp2_with fail
                        refine haw.mono ?_
                        rintro e w5 ⟨rfl, hb5⟩
                        clear haw
                        go_wp2_with fail
                        refine (hv1'.out _ hb5).mono ?_
                        rintro e w6 ⟨rfl, hb6⟩
                        replace hb5 := ext_trans hb5 hb6
                        clear hb6
                        go_wp2_with fail
                        refine (hv2'.out _ hb5).mono ?_
                        rintro e w7 ⟨rfl, hb7⟩
                        replace hb5 := ext_trans hb5 hb7
                        clear hb7
                        go_wp2_with fail
                        refine (hsl.out _ hb5).mono ?_
                        rintro e w8 ⟨rfl, hb8⟩
                        replace hb5 := ext_trans hb5 hb8
                        clear hb8
                        go_wp2_with fail
                        refine (hsc.out _ hb5).mono ?_
                        rintro e w9 ⟨rfl, hb9⟩
                        replace hb5 := ext_trans hb5 hb9
                        clear hb9
                        go_wp2_with fail
                        refine (hsp.out _ hb5).mono ?_
                        rintro e w10 ⟨rfl, hb10⟩
                        replace hb5 := ext_trans hb5 hb10
                        go_wp2
                        go_ret
                        exact ⟨rfl, ext_trans hb hb5⟩)
        · obtain rfl : j = L := by omega
          (
                      have hSv := hS.after hb
                      have haw := awake11_walk wr hSv
                      have hv1' := hide (fun (V : World) (hV : Below wr.heap.size wr V) => hv1.out V (ext_trans hb hV))
                      have hv2' := hide (fun (V : World) (hV : Below wr.heap.size wr V) => hv2.out V (ext_trans hb hV))
                      have hsl := hide (fun (V : World) (hV : Below wr.heap.size wr V) => r2SameL_walk Aa Ab xs ca cb V hxl.1 hxl.2 (hAa.later hV) (hAb.later hV))
                      have hsc := hide (fun (V : World) (hV : Below wr.heap.size wr V) => hsam.out Am An cm cn V (hAm.later hV) (hAn.later hV))
                      have hsp := hide (fun (V : World) (hV : Below wr.heap.size wr V) => probs_same _ _ vp vq _ V (owns_later hPm hV) (owns_later hPn hV))
                      clear hAa hAb hAm hAn hPm hPn h hm hs hpr hsam hv1 hv2 hxs hSv
                      go_wp2_with fail
                      refine haw.mono ?_
                      rintro e w5 ⟨rfl, hb5⟩
                      clear haw
                      go_wp2_with fail
                      refine (hv1'.out _ hb5).mono ?_
                      rintro e w6 ⟨rfl, hb6⟩
                      replace hb5 := ext_trans hb5 hb6
                      clear hb6
                      go_wp2_with fail
                      refine (hv2'.out _ hb5).mono ?_
                      rintro e w7 ⟨rfl, hb7⟩
                      replace hb5 := ext_trans hb5 hb7
                      clear hb7
                      go_wp2_with fail
                      refine (hsl.out _ hb5).mono ?_
                      rintro e w8 ⟨rfl, hb8⟩
                      replace hb5 := ext_trans hb5 hb8
                      clear hb8
                      go_wp2_with fail
                      refine (hsc.out _ hb5).mono ?_
                      rintro e w9 ⟨rfl, hb9⟩
                      replace hb5 := ext_trans hb5 hb9
                      clear hb9
                      go_wp2_with fail
                      refine (hsp.out _ hb5).mono ?_
                      rintro e w10 ⟨rfl, hb10⟩
                      replace hb5 := ext_trans hb5 hb10
                      go_wp2
                      go_ret
                      exact ⟨rfl, ext_trans hb hb5⟩)
end Go.Proofs.YtonpfohhedcjbaaGreatDoor

namespace Go.Proofs.YtonpfohhedcjbaaGreatDoor
open Go.RowKit
set_option maxRecDepth 100000

/-- A row of its own from block B on; what its elements point to lies in blocks S. -/
def OwnS {α : Type} (K : Kind α) (t : TypeId) (S : Nat → Prop) (B : Nat) (w : World) (v : Value) (l : List α) : Prop :=
  ∃ vss : List (List Value), vss.length = l.length ∧ w.ownsRow B t K.k v l.length vss.flatten ∧ ∀ (j : Nat) (x : α) (vs : List Value), l[j]? = some x → vss[j]? = some vs → K.rep S w x vs
section
variable {α : Type} {K : Kind α} {t : TypeId} {S : Nat → Prop} {B : Nat} {w : World} {v : Value} {l : List α}
theorem OwnS.form (h : OwnS K t S B w v l) : ∃ A c, v = .slice A l.length c := by obtain ⟨vss, -, h, -⟩ := h; exact owns_form h
theorem OwnS.tossed {C g : Nat} {b : World} (h : OwnS K t S B w v l) (T : Thrown C w g b) (hg : g < B) (hS : ∀ x, S x → x ≠ g) : OwnS K t S B b v l := by
  obtain ⟨vss, e1, e2, e3⟩ := h
  refine ⟨vss, e1, e2.kept T.only ?_, fun j x vs hj hv => K.kept (e3 j x vs hj hv) fun y hs hlt => ⟨hs, Nat.lt_of_lt_of_le hlt T.size, T.only.block y hlt (fun e => hS y hs (by injection e))⟩⟩
  cases hv : v.ownBlock with
  | none => exact .inl rfl
  | some y => exact .inr fun e => by have := (World.ownsRow.lt e2 y hv).1; injection e with e; omega
theorem OwnS.own {ts : List TypeId} (h : OwnS K t S B w v l) (hS : ∀ x, S x → x < B) : Own K t ts B B w v l := by
  obtain ⟨vss, e1, e2, e3⟩ := h
  exact ⟨vss, e1, e2, fun j x vs hj hv => K.more (e3 j x vs hj hv) fun b hb => .inl (hS b hb)⟩
theorem wpList_at_copy {P : Program} {t2 : TypeId} {bytes : Nat} {ops : Array Oper} {rest : List Oper} {o : Oper} {a : Act} {Q : Exit → Act → World → Prop} (hgd : o.guard = none) (s x : Operand)
    (ho : o.op = .call { callee := .builtin .append, args := #[s, x], argTypes := #[t2, t2] }) (hA : Apd P t2 t K.k bytes) (hk0 : 0 < K.k) (hs : a.eval s = .slice none 0 0) {A : Option Addr} {n c : Nat} (hn : l.length = n) (hx : a.eval x = .slice A n c) (h : At K S w A l) (hl : n ≤ 4000000000) (hby : bytes ≤ 1000)
    (hk : ∀ v' w', OwnS K t S w.heap.size w' v' l → (∀ y, v'.ownBlock = some y → w.heap.size ≤ y) → w.grownBy w' none → wpList P ops Q rest (a.put o.dst v') w') : wpList P ops Q (o :: rest) a w := by
  obtain ⟨i, z, hi, hz, h1, h2, h3⟩ := hA.i
  by_cases h0 : n = 0
  · subst h0
    obtain rfl : l = [] := List.eq_nil_of_length_eq_zero hn
    refine wpList_plain hgd fun K' hK => ?_
    have hrun : (Builtin.append_ #[t2, t2] o.type #[.slice none 0 0, .slice A 0 c]).run P w = .ok (.slice none 0 0) w := by
      cases A <;> simp [Builtin.append_, run_underlying hA.u, sizeOf, typeInfo, hi, Builtin.lenOf, Builtin.firstCells, loadCells, loadCellsFrom]
    unfold Oper.wp
    simp [execOp, ho, resolve, invoke, builtin, hs, hx, hrun, Result.andThen]
    exact hK _ _ (hk (.slice none 0 0) w ⟨[], rfl, World.ownsRow_nil _ _ _ _, fun j x vs h => by simp at h⟩ (fun y e => by simp [Value.ownBlock] at e) (World.grownBy.refl _ _))
  · obtain ⟨b, off, vss, rfl, hb, hvl, hrep, hc⟩ := h.rows (by omega)
    obtain ⟨r1, r2⟩ := reps_len l vss hvl hrep
    refine wpList_append_own w hgd s x t2 ho w.heap.size t i z K.k bytes hA.u hi hz h1 h2 h3 hk0 (.slice none 0 0) 0 [] hs (World.ownsRow_nil _ _ _ _) ⟨b, off, none⟩ n c vss.flatten hx (by rw [r1, hn]) (fun j u hj => by rw [Addr.add_lit]; exact hc j u hj) r2 (by unfold maxLen; omega) ?_ (Nat.le_refl _) fun v' w' hown hgr _ => hk v' w' ⟨vss, hvl, by rw [hn]; simpa using hown, fun j x vs hj hv => K.kept (hrep j x vs hj hv) fun y hs hlt => ⟨hs, Nat.lt_of_lt_of_le hlt hgr.size, hgr.block y hlt (by simp [Value.ownBlock])⟩⟩ (fun y hy => (World.ownsRow.lt hown y hy).1) hgr
    exact Nat.le_trans (Nat.mul_le_mul (by omega : 0 + n ≤ 4000000000) hby) (by decide)
end
end Go.Proofs.YtonpfohhedcjbaaGreatDoor

namespace Go.Proofs.YtonpfohhedcjbaaGreatDoor
open Go.RowKit
set_option maxRecDepth 100000

theorem Own.curr_at {t : TypeId} {ts : List TypeId} {B0 B n c k : Nat} {w : World} {A : Option Addr} {ls : List Curr} {l : Curr} (h : Own kCurr t ts B0 B w (.slice A n c) ls) (hk : ls[k]? = some l) :
    ∃ g T cT, A = some ⟨g, 0, none⟩ ∧ B ≤ g ∧ g < w.heap.size ∧ w.cell? ⟨g, k * 2, none⟩ = some (.string l.1) ∧ w.cell? ⟨g, k * 2 + 1, none⟩ = some (.slice T l.2.length cT) ∧ l.2.length ≤ cT ∧ (∀ j, w.frozen? ⟨g, j, none⟩ = false) ∧ (kSlice kStr).rep (Ty ts B0 B w) w l.2 [.slice T l.2.length cT] := by
  obtain ⟨vss, e1, e2, e3⟩ := h
  have hkl := (List.getElem?_eq_some_iff.1 hk).1
  have hv : vss[k]? = some (vss[k]'(by omega)) := List.getElem?_eq_getElem (by omega)
  have hr := e3 k l _ hk hv
  obtain ⟨us, ts', hvs, h1, T, cT, rfl, h2, h3⟩ := hr
  rw [rep_str] at h1
  subst h1
  have hall : ∀ vs ∈ vss, vs.length = 2 := by
    intro vs hvm
    obtain ⟨j, hj⟩ := List.getElem?_of_mem hvm
    have hjl := (List.getElem?_eq_some_iff.1 hj).1
    exact kCurr.len (e3 j _ vs (List.getElem?_eq_getElem (by omega)) hj)
  rcases e2.2 with ⟨h4, h0⟩ | ⟨g, cap, cur, h4, hB, hg, _, _, _, htake⟩
  · injection h4; omega
  · injection h4 with h4 h5 h6
    subst h4
    have c0 := e2.cells (g := g) rfl (k * 2 + 0) (.string l.1) ((flatten_at vss hall k 0 _ hv (by omega)).trans (by rw [hvs]; rfl))
    have c1 := e2.cells (g := g) rfl (k * 2 + 1) (.slice T l.2.length cT) ((flatten_at vss hall k 1 _ hv (by omega)).trans (by rw [hvs]; rfl))
    rw [show (⟨g, 0, none⟩ : Addr).add (k * 2 + 0) = ⟨g, k * 2, none⟩ from by rw [Addr.add_lit]; simp] at c0
    rw [show (⟨g, 0, none⟩ : Addr).add (k * 2 + 1) = ⟨g, k * 2 + 1, none⟩ from by rw [Addr.add_lit]; simp] at c1
    exact ⟨g, T, cT, rfl, hB, blk_lt hg, c0, c1, h2, fun j => by simp [World.frozen?, hg], T, cT, rfl, h2, h3⟩
def DOddC (B C : Nat) (w : World) (g : Nat) (e : Ending) (w' : World) : Prop :=
  ∃ v ls', e = .returned v ∧ ls'.length ≤ 4 ∧ (∀ l ∈ ls', l.2.length ≤ 3) ∧ Own kCurr 36 [9] C C w' v ls' ∧ Thrown B w g w'
set_option maxHeartbeats 8000000 in
theorem oddCurr_walk (B g : Nat) (A : Option Addr) (ls : List Curr) (c : Nat) (w : World) (h : DiceOk B w g) (hl : ls.length ≤ 3) (hts : ∀ l ∈ ls, l.2.length ≤ 3) (hat : At kCurr (fun b => b ≠ g) w A ls) :
    Calls Tryz.prog 19 #[.pointer (some ⟨g, 0, none⟩), .slice A ls.length c] w fun e w' => DOddC B w.heap.size w g e w' := by
  have hlt := h.lt
  obtain ⟨C, hC⟩ : ∃ C, w.heap.size = C := ⟨_, rfl⟩
  have hgC : g < C := by omega
  have hatC : At kCurr (fun b => b ≠ g ∧ b < C) w A ls := hat.kept fun b h1 h2 => ⟨⟨h1, by omega⟩, h2, rfl⟩
  have hSg : ∀ x, (x ≠ g ∧ x < C) → x ≠ g := fun x h => h.1
  have hSC : ∀ x, (x ≠ g ∧ x < C) → x < C := fun x h => h.2
  replace hSg := hide hSg
  replace hSC := hide hSC
  replace hC := hide hC
  clear hat
  go_enter Tryz.func19, Tryz.ntmps19
  go_wp2_with (at_builtin; refine wpList_at_copy rfl _ _ rfl apd_currs (by decide) rfl rfl rfl hatC (by omega) (by decide) ?_)
  intro v' w1 hown1 hhigh hgrow
  rw [hC.out] at hown1 hhigh
  have hb1 : Below w.heap.size w w1 := Below.grown (Below.refl _ _) hgrow (Nat.le_refl _) (fun y e => by cases e)
  have D1 := h.later hb1
  have hz1 := hb1.size
  obtain ⟨A1, c1, rfl⟩ := hown1.form
  clear hgrow h hatC
  by_cases hn : ls.length = 0
  · obtain rfl := List.eq_nil_of_length_eq_zero hn
    clear hn hown1 hhigh hts
    obtain ⟨G, hG⟩ : ∃ G, w1.heap.size = G := ⟨_, rfl⟩
    obtain ⟨W4, hW4⟩ : ∃ W4, ((w1.alloc (.cells #[.string ⟨#[120]⟩] 9)).alloc (.cells #[.string ⟨#[120]⟩, .string ⟨#[120]⟩] 9)).alloc (.cells #[.slice none 0 0, .slice (some ⟨w1.heap.size, 0, none⟩) 1 1, .slice (some ⟨w1.heap.size + 1, 0, none⟩) 2 2] 34) = W4 := ⟨_, rfl⟩
    have k1 : W4.heap[G]? = some (.cells #[.string ⟨#[120]⟩] 9 (0, 0)) := by rw [← hW4, ← hG]; exact block_after (block_after (heap_alloc_new _ _))
    have k2 : W4.heap[G + 1]? = some (.cells #[.string ⟨#[120]⟩, .string ⟨#[120]⟩] 9 (0, 0)) := by rw [← hW4, ← hG]; exact block_after (heap_new2 _ _ _)
    have k3 : W4.heap[G + 2]? = some (.cells #[.slice none 0 0, .slice (some ⟨G, 0, none⟩) 1 1, .slice (some ⟨G + 1, 0, none⟩) 2 2] 34 (0, 0)) := by rw [← hW4, ← hG]; exact heap_new3 _ _ _ _
    have hb4 : Below w1.heap.size w1 W4 := by rw [← hW4]; exact (by repeat (first | exact Below.refl _ _ | refine ext_alloc ?_ _ | refine ext_drewN ?_ _ | refine ext_drew ?_ | refine ext_trans ?_ (by assumption)))
    have hCG : C ≤ G := by rw [← hG, ← hC.out]; exact hz1
    have T4 : Thrown B w g W4 := ⟨hlt, D1.later hb4, only_of_below (ext_trans hb1 hb4) _⟩
    rw [hG] at hW4
    replace hG := hide hG
    replace hW4 := hide hW4
    clear hb4 hb1 D1 hz1
    go_wp2_with fail
    rw [hG.out, hW4.out]
    refine (next_walk B g 3 (by omega) W4 T4.dice).mono ?_
    rintro e w5 ⟨v, rfl, p1, q1, -, T5, -⟩
    have q1 := q1 (by omega)
    have hkb : ∀ (x : Nat) (o : Obj), W4.heap[x]? = some o → x ≠ g → w5.heap[x]? = some o := fun x o hx hne => (T5.only.block x (blk_lt hx) (fun e => hne (by injection e))).trans hx
    have j1 := hkb _ _ k1 (by omega)
    have j2 := hkb _ _ k2 (by omega)
    have j3 := hkb _ _ k3 (by omega)
    have T := T4.trans T5
    have hg2 := blk_lt j3
    clear k1 k2 k3 hkb T4 T5 hW4 hG
    have hcell : ∀ (i : Nat) u, (#[.slice none 0 0, .slice (some ⟨G, 0, none⟩) 1 1, .slice (some ⟨G + 1, 0, none⟩) 2 2] : Array Value)[i]? = some u → w5.cell? ⟨G + 2, i, none⟩ = some u := fun i u hu => by rw [cell_of_row _ _ _ _ _ _ j3]; exact hu
    have hr0 : (kSlice kStr).rep (Ty [9] C C w5) w5 [] [.slice none 0 0] := ⟨none, 0, rfl, Nat.le_refl _, fun h => absurd h (Nat.lt_irrefl 0)⟩
    have hr1 : (kSlice kStr).rep (Ty [9] C C w5) w5 [⟨#[120]⟩] [.slice (some ⟨G, 0, none⟩) 1 1] := rep_lit_strs [⟨#[120]⟩] j1 rfl rfl hCG (by decide)
    have hr2 : (kSlice kStr).rep (Ty [9] C C w5) w5 [⟨#[120]⟩, ⟨#[120]⟩] [.slice (some ⟨G + 1, 0, none⟩) 2 2] := rep_lit_strs [⟨#[120]⟩, ⟨#[120]⟩] j2 rfl rfl (by omega) (by decide)
    have key : ∀ (cs : List ByteArray) (u : Value), cs.length ≤ 3 → (kSlice kStr).rep (Ty [9] C C w5) w5 cs [u] → DOddC B C w g (.returned (.slice (some ⟨w5.heap.size, 0, none⟩) 1 1)) (w5.alloc (.cells #[.string ⟨#[97]⟩, u] 36)) := fun cs u hcs hr => by
      refine ⟨_, [(⟨#[97]⟩, cs)], rfl, by simp, fun l hl => by simp at hl; subst hl; exact hcs, ?_, T.alloc _⟩
      exact Own.lit (K := kCurr) (heap_alloc_new _ _) [(⟨#[97]⟩, cs)] [[.string ⟨#[97]⟩, u]] rfl rfl (by simp) (fun j x vs hj hv => by
        match j, hj, hv with
        | 0, hj, hv => simp at hj hv; subst hj hv; exact ⟨[_], [_], rfl, rfl, (kSlice kStr).tyLater hr (ext_alloc (Below.refl _ _) _)⟩
        | j + 1, hj, _ => simp at hj) (by omega)
    replace key := hide key
    replace hr0 := hide hr0
    replace hr1 := hide hr1
    replace hr2 := hide hr2
    obtain rfl | rfl | rfl : v = 0 ∨ v = 1 ∨ v = 2 := by omega
    · have c0 := hcell 0 _ rfl
      clear hcell j1 j2 j3 T
      go_wp2
      go_ret
      rw [hC.out]
      exact key.out [] _ (by decide) hr0.out
    · have c0 := hcell 1 _ rfl
      clear hcell j1 j2 j3 T
      go_wp2
      go_ret
      rw [hC.out]
      exact key.out _ _ (by decide) hr1.out
    · have c0 := hcell 2 _ rfl
      clear hcell j1 j2 j3 T
      go_wp2
      go_ret
      rw [hC.out]
      exact key.out _ _ (by decide) hr2.out
  · have hn0 : (0 : Int) < (ls.length : Int) := by omega
    have hn1 : decide (ls.length = 0) = false := by simpa using hn
    go_wp2_with fail
    refine (next_walk B g (ls.length : Int) (by omega) w1 D1).mono ?_
    rintro e w2 ⟨k, rfl, p1, q1, -, T1, -⟩
    have q1 := q1 (by omega)
    obtain ⟨k, rfl⟩ := Int.eq_ofNat_of_zero_le p1
    have hkl : k < ls.length := by omega
    go_wp2_with fail
    refine (next_walk B g 4 (by omega) w2 T1.dice).mono ?_
    rintro e w3 ⟨v, rfl, p2, q2, -, T2, -⟩
    have q2 := q2 (by omega)
    have T := T1.trans T2
    have hown3 := ((hown1.tossed T1 hgC hSg.out).tossed T2 hgC hSg.out).own (ts := [9]) hSC.out
    have TT : Thrown B w g w3 := ⟨hlt, T.dice, (only_of_below hb1 _).trans T.only⟩
    obtain ⟨l, hlk⟩ : ∃ l, ls[k]? = some l := ⟨_, List.getElem?_eq_getElem hkl⟩
    have hl4 := hts l (List.mem_of_getElem? hlk)
    obtain ⟨gr, Tm, cT, rfl, hgC2, hgl, c0, c1', hcT, hfr, hrep⟩ := hown3.curr_at hlk
    have hgrw : w.heap.size ≤ gr := by rw [hC.out]; exact hhigh gr rfl
    have f0 := hfr (k * 2)
    have f1 := hfr (k * 2 + 1)
    have hset : ∀ l' : Curr, l'.2.length ≤ 3 → ∀ q ∈ ls.set k l', q.2.length ≤ 3 := fun l' h5 q hq => by
      rcases List.mem_or_eq_of_mem_set hq with h | h
      · have := hts q h; omega
      · rw [h]; exact h5
    have hlen : ∀ l' : Curr, (ls.set k l').length = ls.length := fun l' => List.length_set
    obtain ⟨code, ts⟩ := l
    dsimp only at c0 c1' hl4 hcT hrep
    obtain ⟨n, hnn⟩ : ∃ n, ls.length = n := ⟨_, rfl⟩
    obtain ⟨m, hmm⟩ : ∃ m, ts.length = m := ⟨_, rfl⟩
    rw [hnn] at hown3 hkl q1 hn0 hn1 hl ⊢
    rw [hmm] at c1'
    have hk0 : (0 : Int) ≤ (k : Int) := by omega
    have hk1 : (k : Int) < (n : Int) := by omega
    replace hlk := hide hlk
    replace hnn := hide hnn
    replace hmm := hide hmm
    clear hown1 T1 T2 T hfr hb1 D1 p1 hhigh hn
    obtain rfl | rfl | rfl | rfl : v = 0 ∨ v = 1 ∨ v = 2 ∨ v = 3 := by omega
    · have hS := Own.set (i := 0) (u := .string ⟨#[]⟩) (x' := (⟨#[]⟩, ts)) hown3 hlk.out (by decide) (by decide) (Nat.le_refl _) (fun vs ⟨us, ts', e, h1, h2⟩ => by rw [rep_str] at h1; subst h1; subst e; exact ⟨[_], ts', rfl, rfl, h2⟩)
      have hfin : DOddC B C w g (.returned (.slice (some ⟨gr, 0, none⟩) n c1)) (w3.setCell ⟨gr, k * 2 + 0, none⟩ (.string ⟨#[]⟩)) :=
        ⟨_, _, rfl, by rw [hlen, hnn.out]; omega, hset _ hl4, hS.1, TT.set (p := ⟨gr, k * 2 + 0, none⟩) hgrw _⟩
      replace hfin := hide hfin
      clear hS hown3 hrep hset hlen TT
      go_wp2
      go_ret
      rw [hC.out]
      exact hfin.out
    · have hnew : (kSlice kStr).rep (Ty [9] C C w3) w3 [] [.slice none 0 0] := ⟨none, 0, rfl, Nat.le_refl _, fun h => absurd h (Nat.lt_irrefl 0)⟩
      have hS := Own.set (i := 1) (u := .slice none 0 0) (x' := (code, [])) hown3 hlk.out (by decide) (by decide) (Nat.le_refl _) (fun vs ⟨us, ts', e, h1, T', c', h2, _⟩ => by rw [rep_str] at h1; subst h1; subst h2; subst e; exact ⟨[_], [_], rfl, rfl, hnew⟩)
      have hfin : DOddC B C w g (.returned (.slice (some ⟨gr, 0, none⟩) n c1)) (w3.setCell ⟨gr, k * 2 + 1, none⟩ (.slice none 0 0)) :=
        ⟨_, _, rfl, by rw [hlen, hnn.out]; omega, hset _ (by show 0 ≤ 3; omega), hS.1, TT.set (p := ⟨gr, k * 2 + 1, none⟩) hgrw _⟩
      replace hfin := hide hfin
      clear hS hown3 hrep hset hlen TT hnew
      go_wp2
      go_ret
      rw [hC.out]
      exact hfin.out
    · have e0 := cell_alloc_of c0 (.cells #[.string ⟨#[77, 65, 49]⟩, .string ⟨#[110, 111, 110, 101]⟩] 9)
      have e1 := cell_alloc_of c1' (.cells #[.string ⟨#[77, 65, 49]⟩, .string ⟨#[110, 111, 110, 101]⟩] 9)
      have hown5 := hown3.alloc (.cells #[.string ⟨#[77, 65, 49]⟩, .string ⟨#[110, 111, 110, 101]⟩] 9)
      have hz3 := TT.size
      have hnew : (kSlice kStr).rep (Ty [9] C C (w3.alloc (.cells #[.string ⟨#[77, 65, 49]⟩, .string ⟨#[110, 111, 110, 101]⟩] 9))) (w3.alloc (.cells #[.string ⟨#[77, 65, 49]⟩, .string ⟨#[110, 111, 110, 101]⟩] 9)) [⟨#[77, 65, 49]⟩, ⟨#[110, 111, 110, 101]⟩] [.slice (some ⟨w3.heap.size, 0, none⟩) 2 2] :=
        rep_lit_strs [⟨#[77, 65, 49]⟩, ⟨#[110, 111, 110, 101]⟩] (heap_alloc_new _ _) rfl rfl (by omega) (by decide)
      have hS := Own.set (i := 1) (u := .slice (some ⟨w3.heap.size, 0, none⟩) 2 2) (x' := (code, [⟨#[77, 65, 49]⟩, ⟨#[110, 111, 110, 101]⟩])) hown5 hlk.out (by decide) (by decide) (Nat.le_refl _) (fun vs ⟨us, ts', e, h1, T', c', h2, _⟩ => by rw [rep_str] at h1; subst h1; subst h2; subst e; exact ⟨[_], [_], rfl, rfl, hnew⟩)
      have hfin : DOddC B C w g (.returned (.slice (some ⟨gr, 0, none⟩) n c1)) ((w3.alloc (.cells #[.string ⟨#[77, 65, 49]⟩, .string ⟨#[110, 111, 110, 101]⟩] 9)).setCell ⟨gr, k * 2 + 1, none⟩ (.slice (some ⟨w3.heap.size, 0, none⟩) 2 2)) :=
        ⟨_, _, rfl, by rw [hlen, hnn.out]; omega, hset _ (by show 2 ≤ 3; omega), hS.1, (TT.alloc _).set (p := ⟨gr, k * 2 + 1, none⟩) hgrw _⟩
      have f5 : (w3.alloc (.cells #[.string ⟨#[77, 65, 49]⟩, .string ⟨#[110, 111, 110, 101]⟩] 9)).frozen? ⟨gr, k * 2 + 1, none⟩ = false := by
        obtain ⟨_, _, _, e, _, _, _, _, _, hf, _⟩ := hown5.curr_at hlk.out
        injection e with e
        injection e with e
        subst e
        exact hf _
      rw [World.setCell_alloc_past _ gr (k * 2 + 1) _ hgl] at hfin
      replace hfin := hide hfin
      clear hS hown5 hown3 hset hlen TT c0 c1' f0 f1 hnew hrep
      go_wp2
      go_ret
      rw [hC.out]
      exact hfin.out
    · have hown4 := hown3
      clear hown3
      go_wp2_with (at_builtin; refine wpList_own rfl _ _ rfl apd_currs (by decide) rfl (hown4.alloc _) ?d1 (by decide) ⟨w3.heap.size, 0, none⟩ 1 rfl (code, ts) [.string code, .slice Tm m cT] ?d2 (World.news_of_block (cs := #[.string code, .slice Tm m cT]) (t := 36) (fr := (0, 0)) (heap_alloc_new _ _)) (by decide) (Nat.le_refl _) ?d3 ?_)
      case d1 => rw [hnn.out]; omega
      case d2 =>
        have h5 := (kSlice kStr).tyLater hrep (ext_alloc (Below.refl w3.heap.size w3) (.cells #[.string code, .slice Tm m cT] 36))
        rw [hmm.out] at h5
        exact ⟨[_], [_], rfl, rfl, h5⟩
      case d3 => rw [World.size_alloc]; have := TT.size; omega
      intro v' w5 hown5 hgrow
      have hfin : DOddC B C w g (.returned v') w5 :=
        ⟨v', _, rfl, by rw [List.length_append, hnn.out]; simp; omega, fun q hq => by
          rcases List.mem_append.1 hq with h | h
          · have := hts q h; omega
          · simp at h; subst h; exact hl4, hown5, Thrown.grown (TT.alloc _) hgrow (fun y hy => by simp [Value.ownBlock] at hy; omega)⟩
      replace hfin := hide hfin
      clear hown5 hgrow hown4 hset hlen TT
      go_wp2
      go_ret
      rw [hC.out]
      exact hfin.out
end Go.Proofs.YtonpfohhedcjbaaGreatDoor

namespace Go.Proofs.YtonpfohhedcjbaaGreatDoor
open Go.RowKit
set_option maxRecDepth 100000

def RowsC (n : Nat) (xs : List (List ByteArray)) : Prop := xs.length ≤ n ∧ ∀ x ∈ xs, x.length ≤ 2 ∧ ∀ z ∈ x, z.size ≤ 1001
/-- What stays while the statement's data are made. -/
structure M11 (w0 : World) (g B7 : Nat) (A4 A5 : Option Addr) (v7 : Value) (cls : List Cls) (ls : List Curr) (xs : List (List ByteArray)) (W : World) : Prop where
  dice : DiceOk w0.heap.size W g
  below : Below w0.heap.size w0 W
  clss : At kCls (fun b => b ≠ g ∧ b < B7) W A4 cls
  currs : At kCurr (fun b => b ≠ g ∧ b < B7) W A5 ls
  rows : Own (kSlice kStr) 34 [9] 0 B7 W v7 xs
  big : B7 ≤ W.heap.size
section
variable {w0 : World} {g B7 : Nat} {A4 A5 : Option Addr} {v7 : Value} {cls : List Cls} {ls : List Curr} {xs : List (List ByteArray)} {W W' : World}
theorem M11.later (h : M11 w0 g B7 A4 A5 v7 cls ls xs W) (hb : Below W.heap.size W W') : M11 w0 g B7 A4 A5 v7 cls ls xs W' := ⟨h.dice.later hb, ext_trans h.below hb, h.clss.later hb, h.currs.later hb, h.rows.later hb, Nat.le_trans h.big hb.size⟩
theorem M11.alloc (h : M11 w0 g B7 A4 A5 v7 cls ls xs W) (o : Obj) : M11 w0 g B7 A4 A5 v7 cls ls xs (W.alloc o) := h.later (ext_alloc (Below.refl _ _) _)
theorem M11.drew (h : M11 w0 g B7 A4 A5 v7 cls ls xs W) : M11 w0 g B7 A4 A5 v7 cls ls xs W.drew := h.later (ext_drew (Below.refl _ _))
theorem M11.on (h : M11 w0 g B7 A4 A5 v7 cls ls xs W) (hg : w0.heap.size ≤ g) (h3 : g < B7) (T : Thrown w0.heap.size W g W') : M11 w0 g B7 A4 A5 v7 cls ls xs W' :=
  ⟨T.dice, T.ext h.below hg, h.clss.tossed (fun _ hb => hb.1) T, h.currs.tossed (fun _ hb => hb.1) T, h.rows.thrown T h3 (Nat.zero_le _), Nat.le_trans h.big T.size⟩
theorem M11.store (h : M11 w0 g B7 A4 A5 v7 cls ls xs W) (hg : w0.heap.size ≤ g) (h3 : g < B7) {sb o n : Nat} {z : ByteArray} (ht : TyAt [9] W sb) (hB : B7 ≤ sb) (hx : RowsC n xs) (hz : z.size ≤ 1001) :
    ∃ xs', xs'.length = xs.length ∧ RowsC n xs' ∧ M11 w0 g B7 A4 A5 v7 cls ls xs' (W.setCell ⟨sb, o, none⟩ (.string z)) := by
  obtain ⟨cs, t, hc, ht⟩ := ht
  simp only [List.mem_singleton] at ht
  subst ht
  obtain ⟨xs', hr, hl, hm⟩ := h.rows.restore (o' := o) (z := z) hc (by decide) hB
  have hk : ∀ b, b < B7 → (W.setCell ⟨sb, o, none⟩ (.string z)).heap[b]? = W.heap[b]? := fun b hb => Below.heap_setCell _ _ _ _ (fun e => by have : b = sb := e; omega)
  have hk2 : ∀ b, (b ≠ g ∧ b < B7) → b < W.heap.size → (b ≠ g ∧ b < B7) ∧ b < (W.setCell ⟨sb, o, none⟩ (.string z)).heap.size ∧ (W.setCell ⟨sb, o, none⟩ (.string z)).heap[b]? = W.heap[b]? := fun b h1 h2 => ⟨h1, by rw [size_set]; exact h2, hk b h1.2⟩
  refine ⟨xs', hl, ⟨by rw [hl]; exact hx.1, fun x' hx' => ?_⟩, h.dice.set (p := ⟨sb, o, none⟩) (by show w0.heap.size ≤ sb; omega) (by show sb ≠ g; omega) _, ext_set h.below (p := ⟨sb, o, none⟩) (by show w0.heap.size ≤ sb; omega) _,
    h.clss.kept hk2, h.currs.kept hk2, hr, by rw [size_set]; exact h.big⟩
  obtain ⟨j, hj⟩ := List.getElem?_of_mem hx'
  obtain ⟨x, hxj, h2, h4⟩ := hm j x' hj
  obtain ⟨h5, h6⟩ := hx.2 x (List.mem_of_getElem? hxj)
  refine ⟨by omega, fun y hy => ?_⟩
  rcases h4 y hy with h | rfl
  · exact h6 y h
  · exact hz
end
/-- What stays while a string is spoilt. -/
structure SpC (w0 : World) (g B7 : Nat) (A4 A5 : Option Addr) (v7 : Value) (cls : List Cls) (ls : List Curr) (xs : List (List ByteArray)) (fg k sb so j cF : Nat) (z : ByteArray) (W : World) : Prop where
  st : M11 w0 g B7 A4 A5 v7 cls ls xs W
  cells : Cn2 fg k (.slice (some ⟨sb, so, none⟩) 2 cF) sb (so + j) (.string z) W
  ty : TyAt [9] W sb
theorem TyAt.after {ts : List TypeId} {W W' : World} {sb : Nat} (h : TyAt ts W sb) (hb : Below W.heap.size W W') : TyAt ts W' sb := by obtain ⟨cs, t, h1, h2⟩ := h; exact ⟨cs, t, (hb.block _ (blk_lt h1)).trans h1, h2⟩
section
variable {w0 : World} {g B7 : Nat} {A4 A5 : Option Addr} {v7 : Value} {cls : List Cls} {ls : List Curr} {xs : List (List ByteArray)} {fg k sb so j cF : Nat} {z : ByteArray} {W W' : World}
theorem SpC.later (h : SpC w0 g B7 A4 A5 v7 cls ls xs fg k sb so j cF z W) (hb : Below W.heap.size W W') : SpC w0 g B7 A4 A5 v7 cls ls xs fg k sb so j cF z W' := ⟨h.st.later hb, h.cells.later hb, h.ty.after hb⟩
theorem SpC.alloc (h : SpC w0 g B7 A4 A5 v7 cls ls xs fg k sb so j cF z W) (o : Obj) : SpC w0 g B7 A4 A5 v7 cls ls xs fg k sb so j cF z (W.alloc o) := h.later (ext_alloc (Below.refl _ _) _)
theorem SpC.drew (h : SpC w0 g B7 A4 A5 v7 cls ls xs fg k sb so j cF z W) : SpC w0 g B7 A4 A5 v7 cls ls xs fg k sb so j cF z W.drew := h.later (ext_drew (Below.refl _ _))
theorem SpC.on (h : SpC w0 g B7 A4 A5 v7 cls ls xs fg k sb so j cF z W) (hg : w0.heap.size ≤ g) (h3 : g < B7) (h4 : fg ≠ g) (h5 : sb ≠ g) (T : Thrown w0.heap.size W g W') : SpC w0 g B7 A4 A5 v7 cls ls xs fg k sb so j cF z W' :=
  ⟨h.st.on hg h3 T, h.cells.only T.only h4 h5, by obtain ⟨cs, t, k1, k2⟩ := h.ty; exact ⟨cs, t, (T.only.block _ (blk_lt k1) (fun e => h5 (by injection e))).trans k1, k2⟩⟩
end
def SpCEnd (w0 : World) (g B7 : Nat) (A4 A5 : Option Addr) (v7 : Value) (cls : List Cls) (ls : List Curr) (xs : List (List ByteArray)) (fg k sb so j cF : Nat) (z : ByteArray) (e : Ending) (W : World) : Prop :=
  ∃ r : ByteArray, e = .returned (.string r) ∧ r.size ≤ 1001 ∧ Cn2 fg k (.slice (some ⟨sb, so, none⟩) 2 cF) sb (so + j) (.string z) W ∧ SpC w0 g B7 A4 A5 v7 cls ls xs fg k sb so j cF z W ∧ W.frozen? ⟨sb, so + j, none⟩ = false
/-- What the last lines start from. -/
structure L11 (w0 : World) (A4 : Option Addr) (s5 : Value) (v7 : Value) (cls : List Cls) (xs : List (List ByteArray)) (A5 : Option Addr) (c5 : Nat) (ls : List Curr) (W : World) : Prop where
  eq : s5 = .slice A5 ls.length c5
  len : ls.length ≤ 4
  each : ∀ l ∈ ls, l.2.length ≤ 3
  cap : ls.length ≤ c5
  below : Below w0.heap.size w0 W
  clss : At kCls AnyB W A4 cls
  currs : At kCurr AnyB W A5 ls
  rows : ∃ B7, Own (kSlice kStr) 34 [9] 0 B7 W v7 xs
set_option maxHeartbeats 16000000 in
theorem cmade11_walk (A : Option Addr) (n c : Nat) (w : World) (hS : Std w) (hP : StrsVar w.heap.size 0 featuresL w) (hA : 0 < n → ∃ b off, A = some ⟨b, off, none⟩ ∧ ∀ j, j < n → ∃ x : Int, w.cell? ⟨b, off + j, none⟩ = some (.int .i64 x)) :
    Calls Tryz.prog 4 #[.slice A n c] w fun e w' => e = .returned (.bool true) ∧ Below w.heap.size w w' := by
  by_cases hn : n ≤ 400
  · have hd400 : decide (n ≤ 400) = true := by simpa using hn
    have D0 := dice_new (c := c) hn hA
    have hS0 := hS.big
    obtain ⟨g, hgw⟩ : ∃ g, w.heap.size = g := ⟨_, rfl⟩
    obtain ⟨W1, hW1⟩ : ∃ W1, w.alloc (.cells #[.slice A n c, .int .i64 0] 63) = W1 := ⟨_, rfl⟩
    have hb1 : Below w.heap.size w W1 := by rw [← hW1]; exact (by repeat (first | exact Below.refl _ _ | refine ext_alloc ?_ _ | refine ext_drewN ?_ _ | refine ext_drew ?_ | refine ext_trans ?_ (by assumption)))
    have hS1 := hS.after hb1
    have hP1 := hP.below hb1
    rw [hW1] at D0
    have hg : w.heap.size ≤ g := Nat.le_of_eq hgw
    have D1 : DiceOk w.heap.size W1 g := by rw [← hgw]; exact D0
    replace hW1 := hide hW1
    replace hgw := hide hgw
    clear D0 hA hP
    go_enter Tryz.func4, Tryz.ntmps4
    go_wp2_with (go_at_call 6; refine (light_walk _ _ _ _).mono ?_; rintro e w' ⟨rfl, rfl⟩)
    refine (roll_walk _ _ _ _).mono ?_
    rintro e w' ⟨rfl, rfl⟩
    rw [hW1.out, hgw.out]
    clear hW1 hgw
    go_wp2_with fail
    refine (grid_walk w.heap.size g W1 D1).mono ?_
    rintro e w2 ⟨d, s, b, m, rfl, ⟨d1, d2, s1, s2, z1, z2, z3, z4⟩, T2⟩
    have hcw : Calls Tryz.prog 9 #[.pointer (some ⟨g, 0, none⟩), .agg #[.int .i64 d, .int .i64 s, .int .i64 b, .int .i64 m], .int .i64 1, .slice none 0 0, .int .i64 6] w2 fun e w' => DClss w.heap.size 1 d s 6 [] w2 g e w' :=
      dclss_walk w.heap.size g d s b m 1 (by omega) (by omega) (by omega) (by omega) none [] 0 (by simp) 6 (by omega) w2 T2.dice (hP1.below (T2.below hg)) (fun h => absurd h (by simp))
    go_wp2_with fail
    refine hcw.mono ?_
    clear hcw
    rintro e w3 ⟨v4, cls, rfl, hcm, hcown, T3⟩
    obtain ⟨A4, c4, rfl⟩ := hcown.form
    have hat3 := hcown.ne T2.dice.lt
    have hmc : ∀ x ∈ cls, x.2.1 ∈ mcourses := fun x hx => by obtain ⟨j, hj⟩ := List.getElem?_of_mem hx; exact (hcm.2 j x hj).2.1.course
    have hcl := hcm.1
    have hcu := dcurr_walk w.heap.size g A4 cls c4 w3 T3.dice (by omega) hat3 hmc
    have hg3 := T3.dice.lt
    clear hcm hcown hmc
    go_wp2_with fail
    refine hcu.mono ?_
    clear hcu
    rintro e w4 ⟨v5, ls, rfl, hmade, hlown, T4⟩
    obtain ⟨A5, c5, rfl⟩ := hlown.form
    have hcap := hlown.cap
    have hat5 := hlown.ne hg3
    have hat4 := hat3.tossed (fun b hb => hb) T4
    have T := (T2.trans T3).trans T4
    have hS4 := T.std hS1 (by omega)
    have hb4 := T.ext hb1 hg
    have hval := validC_made hmade
    obtain ⟨hrl, hrx⟩ := rowsC_small hmade
    have hl3 := hmade.1
    have hl2 := made_short hmade
    obtain ⟨B7, hB7⟩ : ∃ B7, w4.heap.size = B7 := ⟨_, rfl⟩
    have hgB : g < B7 := by rw [← hB7]; exact T4.dice.lt
    have hc4 : At kCls (fun b => b ≠ g ∧ b < B7) w4 A4 cls := hat4.kept fun b h1 h2 => ⟨⟨h1, by omega⟩, h2, rfl⟩
    have hc5 : At kCurr (fun b => b ≠ g ∧ b < B7) w4 A5 ls := hat5.kept fun b h1 h2 => ⟨⟨h1, by omega⟩, h2, rfl⟩
    have hwr := r11write_walk A5 ls c5 w4 (by omega) (fun x hx => by have := hl2 x hx; omega) hat5.any
    have hD4 := T4.dice
    unfold CWriteIs at hwr
    rw [hval] at hwr
    replace hl2 := hide hl2
    clear hmade hlown hval T T2 T3 T4 hS1 hb1 D1 hP1 hat3 hat4 hat5
    go_wp2_with fail
    refine hwr.mono ?_
    clear hwr
    rintro e w5 ⟨v7, rfl, hof, hb5⟩
    obtain ⟨A7, c7, rfl⟩ := hof.form
    rw [hB7] at hof
    have hz5 : B7 ≤ w5.heap.size := by rw [← hB7]; exact hb5.size
    have hst : M11 w g B7 A4 A5 (.slice A7 (rowsC ls).length c7) cls ls (rowsC ls) w5 := ⟨hD4.later hb5, ext_trans hb4 hb5, hc4.later hb5, hc5.later hb5, hof, hz5⟩
    have hxB : RowsC 3 (rowsC ls) := ⟨hrl, fun x hx => by obtain ⟨h1, h2⟩ := hrx x hx; exact ⟨by omega, fun z hz => by have := h2 z hz; omega⟩⟩
    obtain ⟨xs, hxs⟩ : ∃ xs, rowsC ls = xs := ⟨_, rfl⟩
    rw [hxs] at hst hxB hrx hrl ⊢
    obtain ⟨M, hM⟩ : ∃ M, xs.length = M := ⟨_, rfl⟩
    rw [hM] at hst hrl ⊢
    replace hrx := hide hrx
    replace hM := hide hM
    clear hof hS4 hb4 hc4 hc5 hD4 hb5 hz5 hxs hB7
    go_upto_region 7 with fail
    go_cut [34] (fun s34 wx => ∃ o : Bool, s34 = .bool o ∧ (o = true → 0 < M) ∧ M11 w g B7 A4 A5 (.slice A7 M c7) cls ls xs wx)
    case first =>
      by_cases hx0 : 0 < M
      · have hx1 : (0 : Int) < (M : Int) := by omega
        go_wp2_with fail
        refine (one_walk w.heap.size g 2 (by omega) (by omega) _ hst.dice).mono ?_
        rintro e w7 ⟨o1, rfl, T7⟩
        have hst' := hst.on hg hgB T7
        clear T7 hst
        go_wp2_with fail
        go_meet
        exact ⟨o1, rfl, fun _ => hx0, hst'⟩
      · have hx1 : ¬ (0 : Int) < (M : Int) := by omega
        go_wp2_with fail
        go_meet
        exact ⟨false, rfl, (fun h => by cases h), hst⟩
    case rest =>
      clear hst
      obtain ⟨o1, rfl, ho1, hst⟩ := hcut
      replace ho1 := hide ho1
      go_upto_if 34 with fail
      go_cut [] (fun wx => ∃ xs, xs.length = M ∧ RowsC 3 xs ∧ M11 w g B7 A4 A5 (.slice A7 M c7) cls ls xs wx)
      case first =>
        cases o1 with
        | false =>
          go_wp2_with fail
          go_meet
          exact ⟨xs, hM.out, hxB, hst⟩
        | true =>
          have hx0 := ho1.out rfl
          go_wp2_with fail
          refine (next_walk w.heap.size g (M : Int) (by omega) _ hst.dice).mono ?_
          rintro e w7 ⟨k, rfl, p1, q1, -, T7, -⟩
          have q1 := q1 (by omega)
          obtain ⟨k, rfl⟩ := Int.eq_ofNat_of_zero_le p1
          have hkl : k < xs.length := by rw [hM.out]; omega
          have hst7 := hst.on hg hgB T7
          clear hst T7
          go_wp2_with fail
          refine (next_walk w.heap.size g 2 (by omega) _ hst7.dice).mono ?_
          rintro e w8 ⟨j, rfl, p2, q2, -, T8, -⟩
          have q2 := q2 (by omega)
          obtain ⟨j, rfl⟩ := Int.eq_ofNat_of_zero_le p2
          have hst8 := hst7.on hg hgB T8
          clear hst7 T8
          obtain ⟨x, hx⟩ : ∃ x, xs[k]? = some x := ⟨_, List.getElem?_eq_getElem hkl⟩
          obtain ⟨hxl2, hxz⟩ := hrx.out x (List.mem_of_getElem? hx)
          obtain ⟨z, hz⟩ : ∃ z, x[j]? = some z := ⟨_, List.getElem?_eq_getElem (by omega)⟩
          have hzz := hxz z (List.mem_of_getElem? hz)
          obtain ⟨fg, c7', F, cF, e7, -, hfB, hfl, r0, -, hF⟩ := hst8.rows.row_at hx
          obtain ⟨sb, so, rfl, hsS, hsl, r1⟩ := hF.str hz
          have hsB : B7 ≤ sb := by rcases hsS with h | h; exact absurd h (Nat.not_lt_zero _); exact h.1
          have hty : TyAt [9] w8 sb := by rcases hsS with h | h; exact absurd h (Nat.not_lt_zero _); exact h.2
          injection e7 with e7 e9 e8
          clear e9
          subst e7
          subst e8
          rw [hxl2] at r0
          have hsp : SpC w g B7 A4 A5 (.slice (some ⟨fg, 0, none⟩) M c7) cls ls xs fg k sb so j cF z w8 := ⟨hst8, ⟨r0, r1⟩, hty⟩
          have hspd := hsp.drew
          have hcd := hsp.cells
          have hcdd := hcd.drew
          have hsc := hide (fun (V : World) (hV : SpC w g B7 A4 A5 (.slice (some ⟨fg, 0, none⟩) M c7) cls ls xs fg k sb so j cF z V) => (spoil_walk w.heap.size g z ⟨#[48, 49, 50, 57, 59, 58, 47, 45, 46, 32, 77, 65]⟩ (by decide) (by decide) hzz V hV.st.dice).mono fun e V' ⟨r, he, hr, T'⟩ => (by
            have hs' := hV.on hg hgB (by omega) (by omega) T'
            exact ⟨r, he, by omega, hs'.cells, hs', hs'.ty.free _⟩ : SpCEnd w g B7 A4 A5 (.slice (some ⟨fg, 0, none⟩) M c7) cls ls xs fg k sb so j cF z e V'))
          have f0 := hty.free (so + j)
          have hk0 : (0 : Int) ≤ (k : Int) := by omega
          have hk1 : (k : Int) < (M : Int) := by omega
          have hj0 : (0 : Int) ≤ (j : Int) := by omega
          have hj1 : (j : Int) < 2 := by omega
          have hfs : fg ≠ sb := by
            intro e
            subst e
            obtain ⟨vss, -, hr2, -⟩ := hst8.rows
            rcases hr2.2 with ⟨h, _⟩ | ⟨g', cap, cur, h, _, hgg, _⟩
            · injection h with h; cases h
            · injection h with h
              injection h with h
              injection h with h
              subst h
              obtain ⟨cs, t, hc, ht⟩ := hty
              rw [hgg] at hc
              injection hc with h1
              injection h1 with _ h2
              rw [← h2] at ht
              exact absurd ht (by decide)
          clear hx hz hst8 hF hsS hxl2 hxz
          go_wp2_with fail
          go_region_law (first | (go_simp; go_at_call 18; (with_reducible refine (hsc.out _ ?_).mono ?_); (repeat (first | (with_reducible assumption) | (with_reducible refine SpC.alloc ?_ _) | (with_reducible refine SpC.drew ?_))); rintro e w9 ⟨r, rfl, hr, ⟨y0, y1⟩, hs9, f9⟩))
          all_goals
            have hst9 := hs9.st.store (o := so + j) (z := r) (n := 3) hg hgB hs9.ty hsB hxB hr
            clear hsc hsp hspd hcd hcdd y0 y1
            go_wp2_with fail
            go_meet
            obtain ⟨xs', hlx, hxB', hst'⟩ := hst9
            exact ⟨xs', by rw [hlx, hM.out], hxB', by first | exact hst' | exact hst'.drew⟩
      case rest =>
        clear hst hxB hrx ho1 hM xs
        obtain ⟨xs, hM, hxB, hst⟩ := hcut
        replace hM := hide hM
        go_wp2_with fail
        rename World => wd
        refine (one_walk w.heap.size g 2 (by omega) (by omega) _ hst.dice).mono ?_
        rintro e w7 ⟨o3, rfl, T7⟩
        have hst7 := hst.on hg hgB T7
        clear T7 hst
        go_upto_if 57 with fail
        go_cut [5] (fun s5 wx => ∃ A5 c5 ls, L11 w A4 s5 (.slice A7 M c7) cls xs A5 c5 ls wx)
        case first =>
          cases o3 with
          | false =>
            go_wp2_with fail
            go_meet
            exact ⟨A5, c5, ls, rfl, by omega, hl2.out, hcap, hst7.below, hst7.clss.any, hst7.currs.any, ⟨B7, hst7.rows⟩⟩
          | true =>
            have hod := oddCurr_walk w.heap.size g A5 ls c5 w7 hst7.dice hl3 hl2.out (hst7.currs.more fun b hb => hb.1)
            go_wp2_with fail
            refine hod.mono ?_
            clear hod
            rintro e w8 ⟨v', ls', rfl, hl5, ht5, hown', T8⟩
            have hst8 := hst7.on hg hgB T8
            obtain ⟨A9, c9, rfl, hc9, hat9⟩ := hown'.any
            clear hst7 T8 hown'
            go_wp2_with fail
            go_meet
            exact ⟨A9, c9, ls', rfl, hl5, ht5, hc9, hst8.below, hst8.clss.any, hat9.any, ⟨B7, hst8.rows⟩⟩
        case rest =>
          clear hst7 hl2 hl3 hcap o3
          obtain ⟨A5, c5, ls, rfl, hl4, hl3, hcap, hbw, hcls, hcur, ⟨B8, hrow⟩⟩ := hcut
          have hpl := plain_walk A7 xs c7 wc (by
            have := lists_in_of_at (hrow.any')
            exact this) (by have := hxB.1; omega) (fun x hx => ⟨by have := (hxB.2 x hx).1; omega, fun z hz => by have := (hxB.2 x hx).2 z hz; omega⟩)
          rw [hM.out] at hpl
          clear hrow
          go_wp2_with fail
          refine hpl.mono ?_
          clear hpl
          rintro e w9 ⟨v8, rfl, hR, hb9⟩
          obtain ⟨A8, c8, rfl⟩ : ∃ A8 c8, v8 = .slice A8 M c8 := by obtain ⟨us, -, h, -⟩ := hR; have := owns_form h; rw [plainR_len, hM.out] at this; exact this
          have hby := ext_trans hbw hb9
          have hex := exact11_walk A5 ls c5 A8 (plainR 1 xs) c8 A4 cls c4 w9 (hS.after hby) (by omega) hcap (fun x hx => by have := hl3 x hx; omega) (hcur.later hb9) (recs_at hR) (by rw [plainR_len]; have := hxB.1; omega) (fun r hr f hf => by have := plainR_sizes (fun x hx => (hxB.2 x hx).2) r hr f hf; omega) (hcls.later hb9) (by omega)
          rw [plainR_len, hM.out] at hex
          clear hR hcur hcls hbw hb9
          go_wp2_with fail
          refine hex.mono ?_
          clear hex
          rintro e w10 ⟨rfl, hb10⟩
          go_wp2
          go_ret
          exact ⟨rfl, ext_trans hby hb10⟩
  · have hd400 : decide (n ≤ 400) = false := by simpa using hn
    go_enter Tryz.func4, Tryz.ntmps4
    go_wp2_with (go_at_call 6; refine (light_walk _ _ _ _).mono ?_; rintro e w' ⟨rfl, rfl⟩)
    refine (awake11_walk w hS).mono ?_
    rintro e w1 ⟨rfl, hb1⟩
    go_wp2
    go_ret
    exact ⟨rfl, hb1⟩
end Go.Proofs.YtonpfohhedcjbaaGreatDoor
