/- Walks of timetablemade.Courses and Dice.Curricula: what is made, told by bounds. Conditions: the dice's cells; the classes'. Walk of Dice.Classes: classes that are made. Conditions: the dice's cells; the variable features; the lecturers'. The variable features, from what the row lays. No condition. Plain: pairs of a curriculum with further courses; classes of a pair have no parallel one. No walk. A copy of a row of data that lie elsewhere. No condition. The statement CurriculumGrows: its walk. Conditions: the numbers can be read; what the program's variables hold. -/
import Derived.Test.YtonpfohhedcjbaaGreatDoorKDSome
import Derived.Test.YtonpfohhedcjbaaGreatDoorKDCls
import Derived.Test.YtonpfohhedcjbaaGreatDoorKCWriteR
import Derived.Test.YtonpfohhedcjbaaGreatDoorKDiceU
import Derived.Test.YtonpfohhedcjbaaGreatDoorKVars
import Derived.Test.YtonpfohhedcjbaaGreatDoorKIdxS
import Derived.Test.YtonpfohhedcjbaaGreatDoorKAwake11
namespace Go.Proofs.YtonpfohhedcjbaaGreatDoor
open Go.RowKit
set_option maxRecDepth 100000

/-- The courses of classes, each once. -/
def coursesV : List Cls → List ByteArray → List ByteArray
  | [], out => out
  | x :: r, out => coursesV r (if 0 ≤ idxS x.2.1 out then out else out ++ [x.2.1])
def crsTo (l : List Cls) (n : Nat) : List ByteArray := coursesV (l.take n) []
theorem coursesV_app : ∀ (l r : List Cls) (out : List ByteArray), coursesV (l ++ r) out = coursesV r (coursesV l out)
  | [], r, out => rfl
  | x :: l, r, out => by rw [List.cons_append, coursesV, coursesV_app l r]; rfl
theorem crsTo_next {l : List Cls} {j : Nat} {x : Cls} (h : l[j]? = some x) : crsTo l (j + 1) = if 0 ≤ idxS x.2.1 (crsTo l j) then crsTo l j else crsTo l j ++ [x.2.1] := by
  unfold crsTo
  rw [List.take_add_one, h, coursesV_app]; rfl
theorem coursesV_len : ∀ (l : List Cls) (out : List ByteArray), (coursesV l out).length ≤ out.length + l.length
  | [], out => by simp [coursesV]
  | x :: r, out => by
    rw [coursesV]
    have := coursesV_len r (if 0 ≤ idxS x.2.1 out then out else out ++ [x.2.1])
    split at this
    · rename_i h; rw [if_pos h]; simp only [List.length_cons]; omega
    · rename_i h; rw [if_neg h]; simp only [List.length_append, List.length_cons, List.length_nil] at this ⊢; omega
theorem crsTo_len (l : List Cls) (n : Nat) : (crsTo l n).length ≤ l.length := by
  have h1 := coursesV_len (l.take n) []
  have h2 := List.length_take_le n l
  simp only [List.length_nil] at h1
  unfold crsTo
  have h3 : (l.take n).length ≤ l.length := by rw [List.length_take]; omega
  omega
theorem coursesV_nodup : ∀ (l : List Cls) (out : List ByteArray), out.Nodup → (coursesV l out).Nodup
  | [], out, h => h
  | x :: r, out, h => by
    rw [coursesV]
    refine coursesV_nodup r _ ?_
    split
    · exact h
    · rename_i hi
      rw [List.nodup_append]
      refine ⟨h, by simp, fun y hy z hz e => ?_⟩
      simp at hz
      subst hz
      exact hi (idx_mem.2 (e ▸ hy))
theorem coursesV_mem : ∀ (l : List Cls) (out : List ByteArray), ∀ z ∈ coursesV l out, z ∈ out ∨ ∃ x ∈ l, x.2.1 = z
  | [], out, z, h => .inl h
  | x :: r, out, z, h => by
    rw [coursesV] at h
    rcases coursesV_mem r _ z h with h | ⟨y, hy, e⟩
    · split at h
      · exact .inl h
      · rcases List.mem_append.1 h with h | h
        · exact .inl h
        · simp at h; exact .inr ⟨x, by simp, h.symm⟩
    · exact .inr ⟨y, by simp [hy], e⟩
def CrsIs (l : List Cls) (w : World) (e : Ending) (w' : World) : Prop := ∃ v, e = .returned v ∧ Own kStr 9 [] 0 w.heap.size w' v (coursesV l []) ∧ Below w.heap.size w w'
set_option maxHeartbeats 4000000 in
theorem courses_walk (A : Option Addr) (l : List Cls) (c : Nat) (w : World) (hl : l.length ≤ 1000000) (hA : At kCls AnyB w A l) :
    Calls Tryz.prog 28 #[.slice A l.length c] w fun e w' => CrsIs l w e w' := by
  obtain ⟨n, hnn⟩ : ∃ n, l.length = n := ⟨_, rfl⟩
  rw [hnn] at hl ⊢
  replace hnn := hide hnn
  go_enter Tryz.func28, Tryz.ntmps28
  go_wp2
  go_loopw [3, 4] (fun v i wr => ∃ j : Nat, j ≤ n ∧ i = .int .i64 j ∧ Own kStr 9 [] 0 w.heap.size wr v (crsTo l j) ∧ Below w.heap.size w wr) (fun _ i _ => n - (intOf i).toNat)
  case atStart => exact ⟨0, Nat.zero_le _, rfl, Own.nil, Below.refl _ _⟩
  case round =>
    obtain ⟨j, hj, rfl, hown, hb⟩ := hrel
    have hcl := crsTo_len l j
    rw [hnn.out] at hcl
    by_cases hlt : j < n
    · obtain ⟨x, hx⟩ : ∃ x, l[j]? = some x := ⟨_, List.getElem?_eq_getElem (by rw [hnn.out]; exact hlt)⟩
      have hj0 : (0 : Int) ≤ (j : Int) := by omega
      have hj1 : (j : Int) < (n : Int) := by omega
      obtain ⟨b, off, q, rfl, -, hbl, hq, e1, e2⟩ := (hA.later hb).cls hx
      have k1 := hq.2.1
      rw [e1] at k1
      obtain ⟨z, hz⟩ : ∃ z, x.2.1 = z := ⟨_, rfl⟩
      rw [hz] at k1
      have hnx := crsTo_next hx
      rw [hz] at hnx
      obtain ⟨A3, c3, rfl, -, hat⟩ := hown.any
      obtain ⟨L, hL⟩ : ∃ L, crsTo l j = L := ⟨_, rfl⟩
      rw [hL] at hown hat hnx hcl ⊢
      have hhas := mhas_walk A3 L c3 z wr hown.le hat.any
      replace hnx := hide hnx
      clear hx hq e1 e2 hz hL hat
      cases hd : decide (0 ≤ idxS z L) with
      | true =>
        rw [hd] at hhas
        have hnx' : Hid (crsTo l (j + 1) = L) := hide (by rw [hnx.out, if_pos (of_decide_eq_true hd)])
        clear hd hnx
        go_wp2_with (go_at_call 43; (with_reducible refine hhas.mono ?_); rintro e w6 ⟨rfl, rfl⟩)
        go_roundw
        case rel => exact ⟨j + 1, by omega, by go_num, by rw [hnx'.out]; exact hown, hb⟩
        case measure => simp [intOf]; omega
      | false =>
        rw [hd] at hhas
        have hnx' : Hid (crsTo l (j + 1) = L ++ [z]) := hide (by rw [hnx.out, if_neg (of_decide_eq_false hd)])
        clear hd hnx
        go_wp2_with (first | (go_at_call 43; (with_reducible refine hhas.mono ?_); rintro e w6 ⟨rfl, rfl⟩) | (at_builtin; refine wpList_own rfl _ _ rfl apd_strs (by decide) rfl (hown.alloc _) ?d1 (by decide) ⟨wr.heap.size, 0, none⟩ 1 rfl z [.string z] rfl (World.news_of_block (cs := #[.string z]) (t := 9) (fr := (0, 0)) (heap_alloc_new _ _)) (by decide) (Nat.zero_le _) ?d2 ?_))
        case d1 => omega
        case d2 => rw [World.size_alloc]; have := hb.size; omega
        intro v4 w4 hown4 hgrow
        have hb4 := below_grown (ext_alloc hb (.cells #[.string z] 9)) hgrow (fun y hy => (hown.lt y hy).1)
        clear hown hgrow
        go_wp2
        go_roundw
        case rel => exact ⟨j + 1, by omega, by go_num, by rw [hnx'.out]; exact hown4, hb4⟩
        case measure => simp [intOf]; omega
    · obtain rfl : j = n := by omega
      have hall : Hid (crsTo l j = coursesV l []) := hide (by unfold crsTo; rw [← hnn.out, List.take_length])
      rw [hall.out] at hown
      go_wp2
      go_ret
      exact ⟨_, rfl, hown, hb⟩

def dgB (q : Nat) : UInt8 := UInt8.ofNat (49 + q)
theorem conv_small (W : World) (q : Nat) (hq : q ≤ 100) (cap : Nat) : (convert 69 9 (.slice (some ⟨W.heap.size, 0, none⟩) 1 cap)).run Tryz.prog (W.alloc (.cells #[.int .u8 (49 + (q : Int))] 5)) = .ok (.string ⟨#[dgB q]⟩) (W.alloc (.cells #[.int .u8 (49 + (q : Int))] 5)) :=
  run_convert_bytes_back _ 69 9 5 ⟨W.heap.size, 0, none⟩ cap [UInt8.ofNat (49 + q)] Tryz.underlying69 Tryz.underlying5 Tryz.underlying9 (by
    intro j hj
    have hj : j = 0 := by simp at hj; omega
    subst hj
    have he : ((UInt8.ofNat (49 + q)).toNat : Int) = 49 + (q : Int) := by
      rw [UInt8.toNat_ofNat']; omega
    simp [Addr.add]
    omega)
theorem apd_currs : Apd Tryz.prog 32 36 2 40 := apd Tryz.underlying32 (z := .agg #[.string ⟨#[]⟩, .slice none 0 0]) (by kernel_rfl) rfl
def DCurr (B : Nat) (w : World) (g : Nat) (e : Ending) (w' : World) : Prop :=
  ∃ v ls, e = .returned v ∧ CurrMade ls ∧ Own kCurr 36 [9] 0 w.heap.size w' v ls ∧ Thrown B w g w'
def DCLoop (B : Nat) (w : World) (g : Nat) (L : List ByteArray) (A5 : Option Addr) (v6 v7 : Value) (wr : World) : Prop :=
  ∃ (k : Nat) (ls : List Curr), v7 = .int .i64 k ∧ ls.length + k ≤ 3 ∧ CurrMade ls ∧ Own kCurr 36 [9] 0 w.heap.size wr v6 ls ∧ Thrown B w g wr ∧ At kStr (fun b => b ≠ g ∧ Ty [9] 0 w.heap.size wr b) wr A5 L
theorem csName_is (q : Nat) (h : q < 3) : (⟨#[67, 83]⟩ : ByteArray) ++ ⟨#[dgB q]⟩ = csName q := by
  have : ∀ q : Fin 3, (⟨#[67, 83]⟩ : ByteArray) ++ ⟨#[dgB q.val]⟩ = csName q.val := by decide +kernel
  exact this ⟨q, h⟩
theorem CurrMade.snoc {ls : List Curr} {x : Curr} (h : CurrMade ls) (hl : ls.length < 3) (h1 : x.1 = csName ls.length) (h2 : 0 < x.2.length) (h3 : x.2.Nodup) (h4 : ∀ z ∈ x.2, z ∈ mcourses) : CurrMade (ls ++ [x]) := by
  refine ⟨by rw [List.length_append]; simp; omega, fun j y hy => ?_⟩
  by_cases hj : j < ls.length
  · rw [List.getElem?_append_left hj] at hy; exact h.2 j y hy
  · rw [List.getElem?_append_right (by omega)] at hy
    have hj0 : j - ls.length = 0 := by
      have := (List.getElem?_eq_some_iff.1 hy).1
      simp at this; omega
    rw [hj0] at hy
    simp at hy
    subst hy
    obtain rfl : j = ls.length := by omega
    exact ⟨h1, h2, h3, h4⟩
theorem At.tyTossed {g B C : Nat} {a b : World} {A : Option Addr} {L : List ByteArray} (h : At kStr (fun x => x ≠ g ∧ Ty [9] 0 C a x) a A L) (T : Thrown B a g b) : At kStr (fun x => x ≠ g ∧ Ty [9] 0 C b x) b A L :=
  h.kept fun x ⟨h1, h2⟩ hlt => by
    have hb := T.only.block x hlt (fun e => h1 (by injection e))
    refine ⟨⟨h1, ?_⟩, Nat.lt_of_lt_of_le hlt T.size, hb⟩
    rcases h2 with h2 | ⟨h2, cs, t, h3, h4⟩
    · exact .inl h2
    · exact .inr ⟨h2, cs, t, hb.trans h3, h4⟩
theorem At.tyLater {g C : Nat} {a b : World} {A : Option Addr} {L : List ByteArray} (h : At kStr (fun x => x ≠ g ∧ Ty [9] 0 C a x) a A L) (hb : Below a.heap.size a b) : At kStr (fun x => x ≠ g ∧ Ty [9] 0 C b x) b A L :=
  h.kept fun x ⟨h1, h2⟩ hlt => by
    have hx := hb.block x hlt
    refine ⟨⟨h1, ?_⟩, Nat.lt_of_lt_of_le hlt hb.size, hx⟩
    rcases h2 with h2 | ⟨h2, cs, t, h3, h4⟩
    · exact .inl h2
    · exact .inr ⟨h2, cs, t, hx.trans h3, h4⟩
theorem At.tyGrown {g C e s n D : Nat} {u : Value} {xs : List Value} {a b : World} {A : Option Addr} {L : List ByteArray} (h : At kStr (fun x => x ≠ g ∧ Ty [9] 0 C a x) a A L) (ho : a.ownsRow D e s u n xs) (he : e ≠ 9) (hg : a.grownBy b u.ownBlock) : At kStr (fun x => x ≠ g ∧ Ty [9] 0 C b x) b A L :=
  h.kept fun x ⟨h1, h2⟩ hlt => by
    have hne : u.ownBlock ≠ some x := by
      rcases ho.2 with ⟨rfl, _⟩ | ⟨y, cap', cur', rfl, _, hy, _⟩
      · simp [Value.ownBlock]
      · intro e1
        have e1 : y = x := by simpa [Value.ownBlock] using e1
        subst e1
        rcases h2 with h2 | ⟨-, cs, t, h3, h4⟩
        · exact absurd h2 (Nat.not_lt_zero _)
        · rw [hy] at h3
          injection h3 with h3
          injection h3 with _ h5
          subst h5
          simp at h4
          exact he h4
    have hx := hg.block x hlt (fun e1 => hne e1.symm)
    refine ⟨⟨h1, ?_⟩, Nat.lt_of_lt_of_le hlt hg.size, hx⟩
    rcases h2 with h2 | ⟨h2, cs, t, h3, h4⟩
    · exact .inl h2
    · exact .inr ⟨h2, cs, t, hx.trans h3, h4⟩
theorem Kind.tyL {α : Type} (K : Kind α) {ts : List TypeId} {B0 B : Nat} {w w' : World} {a : α} {vs : List Value} (h : K.rep (Ty ts B0 B w) w a vs) (hb : Below w.heap.size w w') : K.rep (Ty ts B0 B w') w' a vs :=
  K.kept h fun b hs hlt => ⟨by
    rcases hs with hs | ⟨hs, cs, t, hc, ht⟩
    · exact .inl hs
    · exact .inr ⟨hs, cs, t, (hb.block b hlt).trans hc, ht⟩, Nat.lt_of_lt_of_le hlt hb.size, hb.block b hlt⟩
set_option maxHeartbeats 4000000 in
theorem dcurr_walk (B g : Nat) (A : Option Addr) (l : List Cls) (c : Nat) (w : World) (h : DiceOk B w g) (hl : l.length ≤ 1000) (hA : At kCls (fun b => b ≠ g) w A l) (hm : ∀ x ∈ l, x.2.1 ∈ mcourses) :
    Calls Tryz.prog 11 #[.pointer (some ⟨g, 0, none⟩), .slice A l.length c] w fun e w' => DCurr B w g e w' := by
  have hcw := courses_walk A l c w (by omega) hA.any
  obtain ⟨L, hL⟩ : ∃ L, coursesV l [] = L := ⟨_, rfl⟩
  have hLn : L.Nodup := by rw [← hL]; exact coursesV_nodup l [] (by simp)
  have hLm : ∀ z ∈ L, z ∈ mcourses := fun z hz => by
    rw [← hL] at hz
    rcases coursesV_mem l [] z hz with h | ⟨x, hx, rfl⟩
    · simp at h
    · exact hm x hx
  have hLl : L.length ≤ 3 := hLn.length_le_of_subset hLm
  unfold CrsIs at hcw
  rw [hL] at hcw
  clear hL hA hm
  obtain ⟨n, hnn⟩ : ∃ n, l.length = n := ⟨_, rfl⟩
  rw [hnn] at hcw ⊢
  clear hnn hl
  have hgw := h.lt
  replace hLn := hide hLn
  replace hLm := hide hLm
  go_enter Tryz.func11, Tryz.ntmps11
  go_wp2_with fail
  refine hcw.mono ?_
  clear hcw
  rintro e w1 ⟨v5, rfl, hown, hb1⟩
  obtain ⟨A5, c5, rfl⟩ := hown.form
  have hat : At kStr (fun b => b ≠ g ∧ Ty [9] 0 w.heap.size w1 b) w1 A5 L := by
    obtain ⟨A', c', e, -, h1⟩ := hown.at
    injection e with e _ _
    subst e
    refine h1.more fun b hb => ⟨?_, hb⟩
    rcases hb with hb | ⟨hb, -⟩
    · exact absurd hb (Nat.not_lt_zero _)
    · omega
  have hcap := hown.cap
  have D1 := h.later hb1
  have T1 : Thrown B w g w1 := ⟨hgw, D1, only_of_below hb1 _⟩
  clear hown h D1 hb1
  go_wp2_with fail
  refine (next_walk B g 4 (by omega) w1 T1.dice).mono ?_
  rintro e w2 ⟨k0, rfl, p2, q2, -, T2, -⟩
  have q2 := q2 (by omega)
  obtain ⟨k0, rfl⟩ := Int.eq_ofNat_of_zero_le p2
  replace hat := hat.tyTossed T2
  replace T1 := T1.trans T2
  clear T2 p2
  go_wp2_with fail
  go_loopw [6, 7] (fun v6 v7 wr => DCLoop B w g L A5 v6 v7 wr) (fun _ v7 _ => (intOf v7).toNat)
  case atStart => exact ⟨k0, [], rfl, by simp; omega, ⟨by simp, fun j x h => by simp at h⟩, Own.nil, T1, hat⟩
  case round =>
    clear hat T1
    obtain ⟨k, ls, rfl, hk, hmade, hown, T, hat⟩ := hrel
    obtain ⟨q, hq⟩ : ∃ q, ls.length = q := ⟨_, rfl⟩
    by_cases hgo : 0 < k ∧ 0 < L.length
    · obtain ⟨hk0, hL0⟩ := hgo
      obtain ⟨k, rfl⟩ : ∃ k', k = k' + 1 := ⟨k - 1, by omega⟩
      have hk1 : (0 : Int) < ((k + 1 : Nat) : Int) := by omega
      have hL1 : (0 : Int) < (L.length : Int) := by omega
      have hnw : IntKind.i64.wrap (((k + 1 : Nat) : Int) - 1) = (k : Int) := by rw [IntKind.wrap_i64]; omega
      have hsm := some_walk B g A5 L c5 2 (by omega) (by omega) wr T.dice (by omega) (hat.more fun b hb => hb.1)
      go_wp2_with fail
      refine hsm.mono ?_
      clear hsm
      rintro e w3 ⟨v8, M, rfl, hsub, hownM, T3⟩
      have hown3 := hown.thrown T3 hgw (Nat.zero_le _)
      have hat3 := hat.tyTossed T3
      have hzr := T.size
      have TT := T.trans T3
      obtain ⟨A6, c6, rfl⟩ := hown3.form
      obtain ⟨A8, c8, rfl⟩ := hownM.form
      clear hown hat T T3
      have hq3 : q < 3 := by omega
      have hM3 : M.length ≤ 3 := by have := hsub.length_le; omega
      have hwi : IntKind.i64.wrap (49 + (q : Int)) = 49 + (q : Int) := by rw [IntKind.wrap_i64]; omega
      have hcv := conv_small w3 q (by omega) 1
      by_cases hM0 : M.length = 0
      · have hM0i : decide (M.length = 0) = true := by simpa using hM0
        obtain rfl := List.eq_nil_of_length_eq_zero hM0
        have hlt1 : (L.take 1).length = 1 := by rw [List.length_take]; omega
        obtain ⟨cs, hcse⟩ : ∃ cs, L.take 1 = cs := ⟨_, rfl⟩
        have hcs : (kSlice kStr).rep (Ty [9] 0 w.heap.size w3) w3 cs [.slice A5 1 c5] := by
          rw [← hcse]
          exact ⟨A5, c5, by rw [hlt1], by omega, (hat3.more fun b hb => hb.2).take⟩
        rw [hcse] at hlt1
        have hc0 : 0 < cs.length := by omega
        have hcd : cs.Nodup := by rw [← hcse]; exact hLn.out.sublist (List.take_sublist _ _)
        have hcm : ∀ z ∈ cs, z ∈ mcourses := fun z hz => hLm.out z (List.mem_of_mem_take (by rw [hcse]; exact hz))
        clear hM0 hsub hownM hM3 hlt1 hcse
        have hrep : (kSlice kStr).rep (Ty [9] 0 w.heap.size w3) w3 cs [.slice A5 1 c5] := hcs
        have hrep2 := (kSlice kStr).tyL hrep (ext_alloc (ext_alloc (Below.refl w3.heap.size w3) (.cells #[.int .u8 (49 + (q : Int))] 5)) (.cells #[.string (csName q), .slice A5 1 c5] 36))
        have hcn := csName_is q hq3
        have hmade2 := hide (hmade.snoc (x := (csName q, cs)) (by omega) (by rw [hq]) hc0 hcd hcm)
        have hown4 := (hown3.alloc (.cells #[.int .u8 (49 + (q : Int))] 5)).alloc (.cells #[.string (csName q), .slice A5 1 c5] 36)
        have hatn := (hat3.tyLater (ext_alloc (Below.refl _ _) (.cells #[.int .u8 (49 + (q : Int))] 5))).tyLater (ext_alloc (Below.refl _ _) (.cells #[.string (csName q), .slice A5 1 c5] 36))
        have TTn := (TT.alloc (.cells #[.int .u8 (49 + (q : Int))] 5)).alloc (.cells #[.string (csName q), .slice A5 1 c5] 36)
        have hzz := TT.size
        rw [hq] at hown4 ⊢
        clear hrep hcs hown3 hat3 TT hmade hc0 hcd hcm
        replace hq := hide hq
        go_wp2_with (at_builtin; (try rw [hcn]); refine wpList_own rfl _ _ rfl apd_currs (by decide) rfl hown4 ?d1 (by decide) ⟨w3.heap.size + 1, 0, none⟩ 1 rfl (csName q, cs) [.string (csName q), .slice A5 1 c5] ⟨[_], [_], rfl, rfl, hrep2⟩ (World.news_of_block (cs := #[.string (csName q), .slice A5 1 c5]) (t := 36) (fr := (0, 0)) (heap_new2 _ _ _)) (by decide) (Nat.zero_le _) ?d2 ?_)
        case d1 => rw [hq.out]; omega
        case d2 => simp only [World.size_alloc]; omega
        intro v9 w9 hown9 hgrow
        have T9 : Thrown B w g w9 := TTn.grown hgrow (fun y hy => (hown4.lt y hy).1)
        have hat9 : At kStr (fun x => x ≠ g ∧ Ty [9] 0 w.heap.size w9 x) w9 A5 L := by
          obtain ⟨vss, -, ho, -⟩ := hown4
          exact hatn.tyGrown ho (by decide) hgrow
        clear hown4 hgrow hatn TTn hcn
        go_wp2
        go_roundw
        case rel => exact ⟨k, ls ++ [(csName q, cs)], by go_num, by rw [List.length_append]; simp; omega, hmade2.out, hown9, T9, hat9⟩
        case measure => first | (simp [intOf]; done) | (simp [intOf]; omega)
      · have hM0i : ((M.length : Int) == 0) = false := beq_false_of_ne (by omega)
        have hcs : (kSlice kStr).rep (Ty [9] 0 w.heap.size w3) w3 M [.slice A8 M.length c8] := (hownM.lower hzr).rep
        have hc0 : 0 < M.length := by omega
        have hcd : M.Nodup := hLn.out.sublist hsub
        have hcm : ∀ z ∈ M, z ∈ mcourses := fun z hz => hLm.out z (hsub.subset hz)
        clear hM0 hsub hownM
        have hrep : (kSlice kStr).rep (Ty [9] 0 w.heap.size w3) w3 M [.slice A8 M.length c8] := hcs
        have hrep2 := (kSlice kStr).tyL hrep (ext_alloc (ext_alloc (Below.refl w3.heap.size w3) (.cells #[.int .u8 (49 + (q : Int))] 5)) (.cells #[.string (csName q), .slice A8 M.length c8] 36))
        have hcn := csName_is q hq3
        have hmade2 := hide (hmade.snoc (x := (csName q, M)) (by omega) (by rw [hq]) hc0 hcd hcm)
        have hown4 := (hown3.alloc (.cells #[.int .u8 (49 + (q : Int))] 5)).alloc (.cells #[.string (csName q), .slice A8 M.length c8] 36)
        have hatn := (hat3.tyLater (ext_alloc (Below.refl _ _) (.cells #[.int .u8 (49 + (q : Int))] 5))).tyLater (ext_alloc (Below.refl _ _) (.cells #[.string (csName q), .slice A8 M.length c8] 36))
        have TTn := (TT.alloc (.cells #[.int .u8 (49 + (q : Int))] 5)).alloc (.cells #[.string (csName q), .slice A8 M.length c8] 36)
        have hzz := TT.size
        rw [hq] at hown4 ⊢
        clear hrep hcs hown3 hat3 TT hmade hc0 hcd hcm
        replace hq := hide hq
        go_wp2_with (at_builtin; (try rw [hcn]); refine wpList_own rfl _ _ rfl apd_currs (by decide) rfl hown4 ?d1 (by decide) ⟨w3.heap.size + 1, 0, none⟩ 1 rfl (csName q, M) [.string (csName q), .slice A8 M.length c8] ⟨[_], [_], rfl, rfl, hrep2⟩ (World.news_of_block (cs := #[.string (csName q), .slice A8 M.length c8]) (t := 36) (fr := (0, 0)) (heap_new2 _ _ _)) (by decide) (Nat.zero_le _) ?d2 ?_)
        case d1 => rw [hq.out]; omega
        case d2 => simp only [World.size_alloc]; omega
        intro v9 w9 hown9 hgrow
        have T9 : Thrown B w g w9 := TTn.grown hgrow (fun y hy => (hown4.lt y hy).1)
        have hat9 : At kStr (fun x => x ≠ g ∧ Ty [9] 0 w.heap.size w9 x) w9 A5 L := by
          obtain ⟨vss, -, ho, -⟩ := hown4
          exact hatn.tyGrown ho (by decide) hgrow
        clear hown4 hgrow hatn TTn hcn
        go_wp2
        go_roundw
        case rel => exact ⟨k, ls ++ [(csName q, M)], by go_num, by rw [List.length_append]; simp; omega, hmade2.out, hown9, T9, hat9⟩
        case measure => first | (simp [intOf]; done) | (simp [intOf]; omega)
    · have hgo' : ¬ (0 < (k : Int) ∧ 0 < (L.length : Int)) := by omega
      have hq' := hide hq
      have hfin := hide hown
      by_cases hk0 : 0 < k
      · have hk1 : (0 : Int) < (k : Int) := by omega
        have hL0 : ¬ (0 : Int) < (L.length : Int) := by omega
        clear hq hown
        go_wp2
        go_ret
        exact ⟨_, ls, rfl, hmade, hfin.out, T⟩
      · have hk1 : ¬ (0 : Int) < (k : Int) := by omega
        clear hq hown
        go_wp2
        go_ret
        exact ⟨_, ls, rfl, hmade, hfin.out, T⟩
end Go.Proofs.YtonpfohhedcjbaaGreatDoor

namespace Go.Proofs.YtonpfohhedcjbaaGreatDoor
open Go.RowKit
set_option maxRecDepth 100000

theorem apd_clss : Apd Tryz.prog 27 43 9 160 := apd Tryz.underlying27 (z := .agg #[.string ⟨#[]⟩, .string ⟨#[]⟩, .string ⟨#[]⟩, .int .i64 0, .slice none 0 0, .int .i64 0, .slice none 0 0, .slice none 0 0, .slice none 0 0]) (by kernel_rfl) rfl
abbrev clsTs : List TypeId := [3, 9, 89]
def DClss (B N : Nat) (d s : Int) (most : Nat) (names : List ByteArray) (w : World) (g : Nat) (e : Ending) (w' : World) : Prop :=
  ∃ v ls, e = .returned v ∧ ClassesMade N d s most names ls ∧ Own kCls 43 clsTs 0 w.heap.size w' v ls ∧ Thrown B w g w'
theorem clsName_is : ∀ q : Nat, q < 6 → (⟨#[99]⟩ : ByteArray) ++ (⟨#[dgB q]⟩ : ByteArray) = clsName q := by decide +kernel
/-- A class whose rows are known. -/
theorem cls_rep {S : Nat → Prop} {W : World} {q : Nine} {ps : List Int} {fs st : List ByteArray} {ss : List (Int × Int)} (h4 : (kSlice kInt).rep S W ps [.slice q.A4 q.n4 q.c4]) (h6 : (kSlice kStr).rep S W fs [.slice q.A6 q.n6 q.c6]) (h7 : (kSlice kStr).rep S W st [.slice q.A7 q.n7 q.c7]) (h8 : (kSlice kStart).rep S W ss [.slice q.A8 q.n8 q.c8]) :
    kCls.rep S W (q.z, q.co, q.pa, q.n, ps, q.m, fs, st, ss) (cboxV q).toList :=
  ⟨[_], _, rfl, rfl, [_], _, rfl, rfl, [_], _, rfl, rfl, [_], _, rfl, rfl, [_], _, rfl, h4, [_], _, rfl, rfl, [_], _, rfl, h6, [_], _, rfl, h7, h8⟩
theorem ClassesMade.snoc {N : Nat} {d s : Int} {most : Nat} {names : List ByteArray} {l : List Cls} {x : Cls} (h : ClassesMade N d s most names l) (hl : l.length < most) (h1 : x.1 = clsName l.length) (h2 : ClassMade N d s x) (h3 : x.2.2.2.2.2.2.2.1.Sublist names) : ClassesMade N d s most names (l ++ [x]) := by
  refine ⟨by rw [List.length_append]; simp; omega, fun j y hj => ?_⟩
  rcases Nat.lt_or_ge j l.length with hlt | hge
  · rw [List.getElem?_append_left hlt] at hj
    exact h.2 j y hj
  · rw [List.getElem?_append_right hge] at hj
    have : j = l.length := by
      have := (List.getElem?_eq_some_iff.1 hj).1
      simp at this; omega
    subst this
    simp at hj
    subst hj
    exact ⟨h1, h2, h3⟩
theorem Own.ne {α : Type} {K : Kind α} {t : TypeId} {ts : List TypeId} {C g n k : Nat} {W : World} {A : Option Addr} {l : List α} (h : Own K t ts 0 C W (.slice A n k) l) (hg : g < C) : At K (fun b => b ≠ g) W A l := by
  obtain ⟨A', c', e, -, h1⟩ := h.at
  injection e with e _ _
  subst e
  refine h1.more fun b hb => ?_
  rcases hb with hb | ⟨hb, -⟩
  · exact absurd hb (Nat.not_lt_zero _)
  · omega
/-- A class's box is written. -/
theorem Own.boxed {α : Type} {K : Kind α} {t : TypeId} {ts : List TypeId} {B x i : Nat} {W : World} {v u : Value} {l : List α} {q : Nine} (h : Own K t ts 0 B W v l) (hc : CBox W x q) (hx : ∀ y, v.ownBlock = some y → y ≠ x) (ht : 43 ∉ ts) : Own K t ts 0 B (W.setCell ⟨x, i, none⟩ u) v l := by
  refine h.kept (only_setCell (g := x) (World.grownBy.refl _ _) (Or.inl rfl) _) ?_ (fun y hy => ⟨Nat.zero_le _, fun ⟨_, cs, t', hcs, hm⟩ => ?_⟩)
  · cases hv : v.ownBlock with
    | none => exact .inl rfl
    | some y => exact .inr fun e => hx y hv (by injection e)
  · injection hy with hy
    subst hy
    unfold CBox at hc
    rw [hc] at hcs
    injection hcs with h1
    injection h1 with _ h2
    exact ht (h2 ▸ hm)
theorem Own.tsMore {α : Type} {K : Kind α} {t : TypeId} {ts : List TypeId} {B0 B : Nat} {W : World} {l : List α} {v : Value} (h : Own K t [] B0 B W v l) (ht : t ∈ ts) : (kSlice K).rep (Ty ts B0 B W) W l [v] :=
  (kSlice K).more h.rep fun b hb => by
    rcases hb with hb | ⟨hb, cs, t', hc, hm⟩
    · exact .inl hb
    · simp at hm; subst hm; exact .inr ⟨hb, cs, t', hc, ht⟩
theorem lect_code {S : Nat → Prop} {w : World} {A : Option Addr} {ls : List Lect} (h : At kLect S w A ls) {j : Nat} {l : Lect} (hj : ls[j]? = some l) :
    ∃ b off, A = some ⟨b, off, none⟩ ∧ b < w.heap.size ∧ w.cell? ⟨b, off + j * 2, none⟩ = some (.string l.1) := by
  obtain ⟨b, off, vs, e, hs, hlt, ⟨us, ts, rfl, h1, h2⟩, hcell⟩ := h.get hj
  rw [rep_str] at h1
  subst h1
  exact ⟨b, off, e, hlt, hcell 0 _ rfl⟩
/-- What stays while classes are made. -/
structure CsSt (B : Nat) (w : World) (g gd : Nat) (d s b m : Int) (A11 : Option Addr) (n11 c11 : Nat) (names : List ByteArray) (v13 : Value) (ls : List Cls) (W : World) : Prop where
  thrown : Thrown B w g W
  grid : Box4 W gd (.int .i64 d) (.int .i64 s) (.int .i64 b) (.int .i64 m)
  names : Own kStr 9 [] 0 (gd + 1) W (.slice A11 n11 c11) names
  list : Own kCls 43 clsTs 0 (gd + 1) W v13 ls
section
variable {B : Nat} {w W W' : World} {g gd : Nat} {d s b m : Int} {A11 : Option Addr} {n11 c11 : Nat} {names : List ByteArray} {v13 : Value} {ls : List Cls}
theorem CsSt.later (h : CsSt B w g gd d s b m A11 n11 c11 names v13 ls W) (hb : Below W.heap.size W W') : CsSt B w g gd d s b m A11 n11 c11 names v13 ls W' := ⟨h.thrown.later hb, h.grid.later hb, h.names.later hb, h.list.later hb⟩
theorem CsSt.alloc (h : CsSt B w g gd d s b m A11 n11 c11 names v13 ls W) (o : Obj) : CsSt B w g gd d s b m A11 n11 c11 names v13 ls (W.alloc o) := h.later (ext_alloc (Below.refl _ _) _)
theorem CsSt.on (h : CsSt B w g gd d s b m A11 n11 c11 names v13 ls W) (T : Thrown B W g W') (h1 : g < gd) : CsSt B w g gd d s b m A11 n11 c11 names v13 ls W' :=
  ⟨h.thrown.trans T, T.box (by omega) h.grid, h.names.thrown T (by omega) (Nat.zero_le _), h.list.thrown T (by omega) (Nat.zero_le _)⟩
theorem CsSt.set {x i : Nat} {q : Nine} {u : Value} (h : CsSt B w g gd d s b m A11 n11 c11 names v13 ls W) (hc : CBox W x q) (hw : w.heap.size ≤ x) (hgd : gd ≠ x) (hx : ∀ y, v13.ownBlock = some y → y ≠ x) : CsSt B w g gd d s b m A11 n11 c11 names v13 ls (W.setCell ⟨x, i, none⟩ u) :=
  ⟨h.thrown.set (p := ⟨x, i, none⟩) hw u, ⟨cell_set_other h.grid.c0 hgd u, cell_set_other h.grid.c1 hgd u, cell_set_other h.grid.c2 hgd u, cell_set_other h.grid.c3 hgd u⟩, own_setC h.names hc (by decide), h.list.boxed hc hx (by decide)⟩
end
def CsLoop (B N : Nat) (w : World) (g gd : Nat) (d s b m : Int) (most : Nat) (A11 : Option Addr) (n11 c11 : Nat) (names : List ByteArray) (v13 v14 : Value) (wr : World) : Prop :=
  ∃ (k : Nat) (ls : List Cls), v14 = .int .i64 (k : Int) ∧ ls.length + k ≤ most ∧ ClassesMade N d s most names ls ∧ CsSt B w g gd d s b m A11 n11 c11 names v13 ls wr
set_option maxHeartbeats 8000000 in
theorem dclss_walk (B g : Nat) (d s b m : Int) (N : Nat) (hd : 1 ≤ d ∧ d ≤ 1000) (hs : 1 ≤ s ∧ s ≤ 900) (hN1 : 1 ≤ N) (hN : N ≤ 20) (Al : Option Addr) (lects : List Lect) (cl : Nat) (hll : lects.length ≤ 1000) (most : Nat) (hmost : most ≤ 6) (w : World) (h : DiceOk B w g) (hFv : StrsVar B 0 featuresL w) (hAl : At kLect AnyB w Al lects) :
    Calls Tryz.prog 9 #[.pointer (some ⟨g, 0, none⟩), .agg #[.int .i64 d, .int .i64 s, .int .i64 b, .int .i64 m], .int .i64 N, .slice Al lects.length cl, .int .i64 most] w fun e w' => DClss B N d s most (lects.map fun x => x.1) w g e w' := by
  have hlt := h.lt
  have hBg := h.1
  obtain ⟨W, hW⟩ : ∃ W, w.alloc (.cells #[.int .i64 d, .int .i64 s, .int .i64 b, .int .i64 m] 30) = W := ⟨_, rfl⟩
  have hb0 : Below w.heap.size w W := by rw [← hW]; exact (by repeat (first | exact Below.refl _ _ | refine ext_alloc ?_ _ | refine ext_drewN ?_ _ | refine ext_drew ?_ | refine ext_trans ?_ (by assumption)))
  have hG : Box4 W w.heap.size (.int .i64 d) (.int .i64 s) (.int .i64 b) (.int .i64 m) := by rw [← hW]; exact Box4.new w 30 (.int .i64 d) (.int .i64 s) (.int .i64 b) (.int .i64 m)
  obtain ⟨nl, hnl⟩ : ∃ nl, lects.length = nl := ⟨_, rfl⟩
  rw [hnl] at hll ⊢
  obtain ⟨gd, hgd⟩ : ∃ gd, w.heap.size = gd := ⟨_, rfl⟩
  rw [hgd] at hG hlt
  have hWz : gd + 1 ≤ W.heap.size := by have := hG.lt; omega
  replace hnl := hide hnl
  replace hW := hide hW
  replace hgd := hide hgd
  go_enter Tryz.func9, Tryz.ntmps9
  go_wp2_with fail
  rw [hW.out, hgd.out]
  go_loopw [11, 12] (fun v11 i wr => ∃ j : Nat, j ≤ nl ∧ i = .int .i64 j ∧ Own kStr 9 [] 0 (gd + 1) wr v11 ((lects.map fun x => x.1).take j) ∧ Below w.heap.size w wr ∧ Box4 wr gd (.int .i64 d) (.int .i64 s) (.int .i64 b) (.int .i64 m) ∧ gd + 1 ≤ wr.heap.size) (fun _ i _ => nl - (intOf i).toNat)
  case atStart => exact ⟨0, Nat.zero_le _, rfl, Own.nil, hb0, hG, hWz⟩
  case round =>
    clear hb0 hG hW hWz
    obtain ⟨j, hj, rfl, hown, hb, hG, hWz⟩ := hrel
    by_cases hlt2 : j < nl
    · obtain ⟨l, hl⟩ : ∃ l, lects[j]? = some l := ⟨_, List.getElem?_eq_getElem (by rw [hnl.out]; exact hlt2)⟩
      obtain ⟨lb, lo, rfl, hlb, k0⟩ := lect_code (hAl.later hb) hl
      have ht : (lects.map fun x => x.1).take (j + 1) = (lects.map fun x => x.1).take j ++ [l.1] := by rw [List.take_add_one, List.getElem?_map, hl]; rfl
      have hlen : ((lects.map fun x => x.1).take j).length ≤ nl := by rw [List.length_take, List.length_map, hnl.out]; omega
      obtain ⟨L, hL⟩ : ∃ L, (lects.map fun x => x.1).take j = L := ⟨_, rfl⟩
      rw [hL] at hown ht hlen
      obtain ⟨code, ts⟩ := l
      dsimp only at k0 ht
      have hj0 : (0 : Int) ≤ (j : Int) := by omega
      have hj1 : (j : Int) < (nl : Int) := by omega
      replace ht := hide ht
      clear hl hL
      obtain ⟨A11, c11, rfl⟩ := hown.form
      go_wp2_with (at_builtin; refine wpList_own rfl _ _ rfl apd_strs (by decide) rfl (hown.alloc _) ?d1 (by decide) ⟨wr.heap.size, 0, none⟩ 1 rfl code [.string code] rfl (World.news_of_block (cs := #[.string code]) (t := 9) (fr := (0, 0)) (heap_alloc_new _ _)) (by decide) (Nat.zero_le _) ?d2 ?_)
      case d1 => omega
      case d2 => rw [World.size_alloc]; omega
      intro v4 w4 hown4 hgrow
      have hb4 := below_grown (ext_alloc hb (.cells #[.string code] 9)) hgrow (fun y hy => by have := (hown.lt y hy).1; rw [hgd.out]; omega)
      have hG4 : Box4 w4 gd (.int .i64 d) (.int .i64 s) (.int .i64 b) (.int .i64 m) := by
        have hne : some gd ≠ (Value.slice A11 L.length c11).ownBlock := fun e => by
          have := (hown.lt gd e.symm).1
          omega
        have hA := hG.later (ext_alloc (Below.refl _ _) (.cells #[.string code] 9))
        exact ⟨cell_grown hA.c0 hgrow hne, cell_grown hA.c1 hgrow hne, cell_grown hA.c2 hgrow hne, cell_grown hA.c3 hgrow hne⟩
      have hz4 : gd + 1 ≤ w4.heap.size := by have := hG4.lt; omega
      clear hown hgrow hG
      go_wp2
      go_roundw
      case rel => exact ⟨j + 1, by omega, by go_num, by rw [ht.out]; exact hown4, hb4, hG4, hz4⟩
      case measure => simp [intOf]; omega
    · obtain rfl : j = nl := by omega
      have hall : (lects.map fun x => x.1).take j = lects.map fun x => x.1 := by rw [← hnl.out, ← List.length_map (fun x : Lect => x.1), List.take_length]
      rw [hall] at hown
      obtain ⟨A11, c11, rfl⟩ := hown.form
      obtain ⟨names, hnm⟩ : ∃ names, (lects.map fun x => x.1) = names := ⟨_, rfl⟩
      obtain ⟨n11, hn11⟩ : ∃ n11, names.length = n11 := ⟨_, rfl⟩
      have hnn : names.length ≤ 1000 := by rw [← hnm, List.length_map, hnl.out]; exact hll
      rw [hnm] at hown ⊢
      rw [hn11] at hown ⊢
      have hT : Thrown B w g wr := ⟨by rw [hgd.out]; exact hlt, h.later hb, only_of_below hb _⟩
      have hC : CsSt B w g gd d s b m A11 n11 c11 names (.slice none 0 0) [] wr := ⟨hT, hG, hown, Own.nil⟩
      replace hn11 := hide hn11
      replace hnm := hide hnm
      clear hall hnl hll hAl hown hb hG hT h hj hlt2
      go_wp2_with fail
      refine (next_walk B g ((most : Int) + 1) (by omega) _ hC.thrown.dice).mono ?_
      rintro e w2 ⟨k, rfl, p1, p2, -, T2, -⟩
      have p2 := p2 (by omega)
      obtain ⟨k, rfl⟩ := Int.eq_ofNat_of_zero_le p1
      have hC2 := hC.on T2 hlt
      clear hC T2
      go_wp2_with fail
      go_loopw [13, 14] (fun v13 v14 wq => CsLoop B N w g gd d s b m most A11 n11 c11 names v13 v14 wq) (fun _ v14 _ => (intOf v14).toNat)
      case atStart => exact ⟨k, [], rfl, by simp; omega, ⟨by simp, fun j x h => by simp at h⟩, hC2⟩
      case round =>
        clear hC2
        obtain ⟨k, ls, rfl, hk, hmade, hC⟩ := hrel
        obtain ⟨q, hq⟩ : ∃ q, ls.length = q := ⟨_, rfl⟩
        by_cases hgo : 0 < k
        · obtain ⟨k, rfl⟩ : ∃ k', k = k' + 1 := ⟨k - 1, by omega⟩
          have hk1 : (0 : Int) < ((k + 1 : Nat) : Int) := by omega
          have hnw : IntKind.i64.wrap (((k + 1 : Nat) : Int) - 1) = (k : Int) := by rw [IntKind.wrap_i64]; omega
          have hwi : IntKind.i64.wrap (49 + (q : Int)) = 49 + (q : Int) := by rw [IntKind.wrap_i64]; omega
          rename World => wq
          have hcv := conv_small wq q (by omega) 1
          obtain ⟨g0, g1, g2, g3⟩ := id hC.grid
          obtain ⟨A13, c13, rfl⟩ := hC.list.form
          rw [hq] at hC ⊢
          go_wp2_with fail
          rw [clsName_is q (by omega)]
          have hgz := hC.grid.lt
          have hCa := hC.alloc (.cells #[.int .u8 (49 + (q : Int))] 5)
          have hFw := hFv.below (hCa.thrown.below hBg)
          refine (dclass_walk B g d s b m N (clsName q) hd hs hN1 hN _ hCa.thrown.dice hFw).mono ?_
          rintro e w3 ⟨cq, ps, fs, ss, rfl, a1, a2, a3, a4, a5, a6, a7, a8, o4, o6, o8, T3⟩
          replace a1 := hide a1
          have hza : gd + 1 ≤ (wq.alloc (.cells #[.int .u8 (49 + (q : Int))] 5)).heap.size := by rw [World.size_alloc]; omega
          have hC3 := hCa.on T3 hlt
          replace o4 := o4.lower hza
          replace o6 := o6.lower hza
          replace o8 := o8.lower hza
          have hx4 := cbox_new w3 cq
          have hC4 := hC3.alloc (.cells (cboxV cq) 43)
          have hrow : ∀ y, (Value.slice A13 q c13).ownBlock = some y → y ≠ w3.heap.size := fun y hy => by have := (hC3.list.lt y hy).2; omega
          replace o4 := o4.alloc (.cells (cboxV cq) 43)
          replace o6 := o6.alloc (.cells (cboxV cq) 43)
          replace o8 := o8.alloc (.cells (cboxV cq) 43)
          have hgw3 : gd < w3.heap.size := hC3.grid.lt
          obtain ⟨x, hxx⟩ : ∃ x, w3.heap.size = x := ⟨_, rfl⟩
          obtain ⟨W4, hW4⟩ : ∃ W4, w3.alloc (.cells #[.string cq.z, .string cq.co, .string cq.pa, .int .i64 cq.n, .slice cq.A4 cq.n4 cq.c4, .int .i64 cq.m, .slice cq.A6 cq.n6 cq.c6, .slice cq.A7 cq.n7 cq.c7, .slice cq.A8 cq.n8 cq.c8] 43) = W4 := ⟨_, rfl⟩
          have hW4' : w3.alloc (.cells (cboxV cq) 43) = W4 := hW4
          rw [hW4'] at hx4 hC4 o4 o6 o8
          rw [hxx] at hx4 hrow hgw3
          have hsm := some_walk B g A11 names c11 2 (by omega) (by omega) W4 hC4.thrown.dice (by omega) (hC4.names.ne (by omega))
          rw [hn11.out] at hsm
          have hz4 : gd + 1 ≤ W4.heap.size := by have := hC4.grid.lt; omega
          replace hW4 := hide hW4
          replace hxx := hide hxx
          clear hCa hFw T3 hC3 hza hcv hC g0 g1 g2 g3 hwi hW4'
          unfold cboxV
          go_upto_region 11 with fail
          rw [hW4.out, hxx.out]
          clear hW4 hxx
          go_wp2_with fail
          refine hsm.mono ?_
          clear hsm
          rintro e w5 ⟨v8, L, rfl, hsub, hoL, T5⟩
          obtain ⟨A8, c8, rfl⟩ := hoL.form
          have hC5 := hC4.on T5 hlt
          have hx5 := hx4.thrown T5 (by omega)
          replace o4 := o4.tossed T5 (by omega)
          replace o6 := o6.tossed T5 (by omega)
          replace o8 := o8.tossed T5 (by omega)
          replace hoL := hoL.lower hz4
          have hx6 := hx5.set7 A8 L.length c8
          have hC6 := hC5.set (i := 7) (u := .slice A8 L.length c8) hx5 (by rw [hgd.out]; omega) (by omega) hrow
          replace o4 := own_setC (i := 7) (u := .slice A8 L.length c8) o4 hx5 (by decide)
          replace o6 := own_setC (i := 7) (u := .slice A8 L.length c8) o6 hx5 (by decide)
          replace o8 := own_setC (i := 7) (u := .slice A8 L.length c8) o8 hx5 (by decide)
          replace hoL := own_setC (i := 7) (u := .slice A8 L.length c8) hoL hx5 (by decide)
          have n7 := hx5.c7
          have f7 := hx5.free 7
          have hxl := hx5.lt
          obtain ⟨W6, hW6⟩ : ∃ W6, w5.setCell ⟨x, 7, none⟩ (.slice A8 L.length c8) = W6 := ⟨_, rfl⟩
          rw [hW6] at hx6 hC6 o4 o6 o8 hoL
          replace hW6 := hide hW6
          have hz6 : gd + 1 ≤ W6.heap.size := by have := hC6.grid.lt; omega
          clear hC4 hx4 T5 hC5 hx5 hz4
          go_upto_region 12 with fail
          rw [hW6.out]
          clear n7 f7 hxl hW6
          have hcm : ClassMade N d s (cq.z, cq.co, cq.pa, cq.n, ps, cq.m, fs, L, ss) := ⟨a2, a3, a4, a5, a6, a7, a8⟩
          have hmade2 := hide (hmade.snoc (x := (cq.z, cq.co, cq.pa, cq.n, ps, cq.m, fs, L, ss)) (by omega) (by rw [hq]; exact a1.out) hcm hsub)
          obtain ⟨r, hr⟩ : ∃ r : Nine, { cq with A7 := A8, n7 := L.length, c7 := c8 } = r := ⟨_, rfl⟩
          have hrep : kCls.rep (Ty clsTs 0 (gd + 1) (W6.alloc (.cells (cboxV r) 43))) (W6.alloc (.cells (cboxV r) 43)) (cq.z, cq.co, cq.pa, cq.n, ps, cq.m, fs, L, ss) (cboxV r).toList := by
            have := cls_rep (S := Ty clsTs 0 (gd + 1) (W6.alloc (.cells (cboxV r) 43))) (W := W6.alloc (.cells (cboxV r) 43)) (q := { cq with A7 := A8, n7 := L.length, c7 := c8 }) (ps := ps) (fs := fs) (st := L) (ss := ss) ((o4.alloc _).tsMore (by decide)) ((o6.alloc _).tsMore (by decide)) ((hoL.alloc _).tsMore (by decide)) ((o8.alloc _).tsMore (by decide))
            rw [hr] at this
            rw [← hr] at this ⊢
            exact this
          rw [hr] at hx6
          have hC7 := hC6.alloc (.cells (cboxV r) 43)
          have y0 := hx6.c0
          have y1 := hx6.c1
          have y2 := hx6.c2
          have y3 := hx6.c3
          have y4 := hx6.c4
          have y5 := hx6.c5
          have y6 := hx6.c6
          have y7 := hx6.c7
          have y8 := hx6.c8
          replace hr := hide hr
          clear hmade hcm hsub o4 o6 o8 hoL a1 a2 a3 a4 a5 a6 a7 a8 hC6 hx6
          go_wp2_with (at_builtin; refine wpList_own rfl _ _ rfl apd_clss (by decide) rfl hC7.list ?d3 (by decide) ⟨W6.heap.size, 0, none⟩ 1 rfl (cq.z, cq.co, cq.pa, cq.n, ps, cq.m, fs, L, ss) (cboxV r).toList hrep (World.news_of_block (cs := cboxV r) (t := 43) (fr := (0, 0)) (heap_alloc_new _ _)) (by decide) (Nat.zero_le _) ?d4 ?_)
          case d3 => omega
          case d4 => rw [World.size_alloc]; omega
          intro v' w9 hown9 hgrow
          have hlow : ∀ y, (Value.slice A13 q c13).ownBlock = some y → gd + 1 ≤ y := fun y hy => (hC7.list.lt y hy).1
          have hne : some gd ≠ (Value.slice A13 q c13).ownBlock := fun e => by have := hlow gd e.symm; omega
          have hn9 : Own kStr 9 [] 0 (gd + 1) w9 (.slice A11 n11 c11) names := by
            obtain ⟨vss, -, ho, -⟩ := hC7.list
            exact hC7.names.grown ho (Nat.zero_le _) hgrow (by decide) (by simp)
          have hC9 : CsSt B w g gd d s b m A11 n11 c11 names v' (ls ++ [(cq.z, cq.co, cq.pa, cq.n, ps, cq.m, fs, L, ss)]) w9 :=
            ⟨hC7.thrown.grown hgrow (fun y hy => by have := hlow y hy; rw [hgd.out]; omega), ⟨cell_grown hC7.grid.c0 hgrow hne, cell_grown hC7.grid.c1 hgrow hne, cell_grown hC7.grid.c2 hgrow hne, cell_grown hC7.grid.c3 hgrow hne⟩, hn9, hown9⟩
          replace hC9 := hide hC9
          clear hC7 hown9 hgrow hne hn9 hlow y0 y1 y2 y3 y4 y5 y6 y7 y8 hrep hrow
          go_wp2
          go_roundw
          case rel => exact ⟨k, ls ++ [(cq.z, cq.co, cq.pa, cq.n, ps, cq.m, fs, L, ss)], by go_num, by rw [List.length_append]; simp; omega, hmade2.out, hC9.out⟩
          case measure => first | (simp [intOf]; done) | (simp [intOf]; omega)
        · have hk1 : ¬ (0 : Int) < (k : Int) := by omega
          have hfin := hide (hC.list.lower (show w.heap.size ≤ gd + 1 by rw [hgd.out]; omega))
          go_wp2
          go_ret
          exact ⟨_, ls, rfl, by rw [hnm.out]; exact hmade, hfin.out, hC.thrown⟩
end Go.Proofs.YtonpfohhedcjbaaGreatDoor

namespace Go.Proofs.YtonpfohhedcjbaaGreatDoor
open Go.RowKit
set_option maxRecDepth 100000

theorem ftr_of {L : List (String × DataW Unit)} {W : World} (hL : laidMetH Tryz.prog L W) (hplain : (L.all fun x => x.2.handleName?.isNone) = true)
    (hw : (L.filter fun x => x.1 == "timetable/timetablemade.features") = [("timetable/timetablemade.features", Rows.laid_timetable_timetablemade_features)]) : StrsVar W.heap.size 0 featuresL W := by
  rw [MakeChecks.laidMetH_plain _ _ _ hplain] at hL
  have h := laidMet.filter (fun x => x.1 == "timetable/timetablemade.features") hL
  rw [hw] at h
  exact strsVar_of_head (zs := featuresL) (rest := []) (g := 0) (t := 34) (e := 9) (by simp [featuresL]) (by kernel_rfl) (by kernel_rfl) Tryz.underlying34 Tryz.underlying9 (by kernel_rfl) h
end Go.Proofs.YtonpfohhedcjbaaGreatDoor

namespace Go.Proofs.YtonpfohhedcjbaaGreatDoor
open Go.RowKit
set_option maxRecDepth 100000

theorem pairsL_sub {a b : List Nat} (h : a.Sublist b) : (pairsL a).Sublist (pairsL b) := by
  induction h with
  | slnil => exact .slnil
  | cons x h ih => rw [pairsL]; exact List.Sublist.trans ih (List.sublist_append_right _ _)
  | cons_cons x h ih => rw [pairsL, pairsL]; exact List.Sublist.append (h.map _) ih
theorem filter_sub {ok ok' : Nat → Bool} (h : ∀ i, ok i = true → ok' i = true) : ∀ l : List Nat, (l.filter ok).Sublist (l.filter ok')
  | [] => .slnil
  | i :: r => by
    cases h1 : ok i with
    | true => rw [List.filter_cons_of_pos h1, List.filter_cons_of_pos (h i h1)]; exact (filter_sub h r).cons_cons i
    | false =>
      rw [List.filter_cons_of_neg (by rw [h1]; simp)]
      cases h2 : ok' i with
      | true => rw [List.filter_cons_of_pos h2]; exact (filter_sub h r).cons i
      | false => rw [List.filter_cons_of_neg (by rw [h2]; simp)]; exact filter_sub h r
theorem idxF_some {z : ByteArray} : ∀ (xs : List ByteArray) (k : Int), 0 ≤ k → (0 ≤ idxFrom z xs k ↔ ∃ x ∈ xs, (x.toList == z.toList) = true)
  | [], k, _ => by simp [idxFrom]
  | x :: xs, k, hk => by
    unfold idxFrom
    cases h : (x.toList == z.toList) with
    | true => rw [if_pos rfl]; exact ⟨fun _ => ⟨x, by simp, h⟩, fun _ => hk⟩
    | false =>
      rw [if_neg (by simp), idxF_some xs (k + 1) (by omega)]
      refine ⟨fun ⟨y, hy, e⟩ => ⟨y, by simp [hy], e⟩, fun ⟨y, hy, e⟩ => ?_⟩
      rcases List.mem_cons.1 hy with rfl | hy
      · rw [h] at e; cases e
      · exact ⟨y, hy, e⟩
theorem pairs_grow (cs ds : List ByteArray) (l : List Cls) : (pairsV cs l).Sublist (pairsV (cs ++ ds) l) := by
  unfold pairsV
  refine pairsL_sub (filter_sub (fun i h => ?_) _)
  unfold okC at h ⊢
  cases hx : l[i]? with
  | none => rw [hx] at h; exact h
  | some x =>
    rw [hx] at h
    dsimp only at h ⊢
    rw [Bool.and_eq_true] at h ⊢
    refine ⟨?_, h.2⟩
    have h1 := of_decide_eq_true h.1
    unfold idxS at h1 ⊢
    obtain ⟨y, hy, e⟩ := (idxF_some cs 0 (Int.le_refl _)).1 h1
    exact decide_eq_true ((idxF_some (cs ++ ds) 0 (Int.le_refl _)).2 ⟨y, List.mem_append_left _ hy, e⟩)
theorem pairsL_mem {p : Int × Int} : ∀ {l : List Nat}, p ∈ pairsL l → ∃ i k, i ∈ l ∧ k ∈ l ∧ p = pairI i k ∧ ∃ r s t, l = r ++ i :: s ++ k :: t
  | [], h => by simp [pairsL] at h
  | x :: r, h => by
    rw [pairsL, List.mem_append] at h
    rcases h with h | h
    · obtain ⟨k, hk, rfl⟩ := List.mem_map.1 h
      obtain ⟨s, t, e⟩ := List.append_of_mem hk
      exact ⟨x, k, by simp, by simp [hk], rfl, [], s, t, by rw [e]; rfl⟩
    · obtain ⟨i, k, hi, hk, e, r', s, t, e2⟩ := pairsL_mem h
      exact ⟨i, k, by simp [hi], by simp [hk], e, x :: r', s, t, by rw [e2]; rfl⟩
theorem range_sorted (n : Nat) : (List.range n).Pairwise (· < ·) := List.pairwise_lt_range
/-- The two classes of a pair: both alone of their kind, and not parallel. -/
theorem pairs_of {cs : List ByteArray} {l : List Cls} {p : Int × Int} (h : p ∈ pairsV cs l) : ∃ (i k : Nat) (x y : Cls), p = ((i : Int), (k : Int)) ∧ l[i]? = some x ∧ l[k]? = some y ∧ singB l i = true ∧ singB l k = true ∧ i < k := by
  unfold pairsV at h
  obtain ⟨i, k, hi, hk, e, r, s, t, e2⟩ := pairsL_mem h
  have h1 := (List.mem_filter.1 hi).2
  have h2 := (List.mem_filter.1 hk).2
  have hs : ((List.range l.length).filter (okC cs l)).Pairwise (· < ·) := (range_sorted _).filter _
  rw [e2, List.append_assoc, List.pairwise_append] at hs
  have hs := hs.2.1
  rw [List.cons_append, List.pairwise_cons] at hs
  have hlt := hs.1 k (by simp)
  unfold okC at h1 h2
  cases hx : l[i]? with
  | none => rw [hx] at h1; cases h1
  | some x =>
    cases hy : l[k]? with
    | none => rw [hy] at h2; cases h2
    | some y =>
      rw [hx, Bool.and_eq_true] at h1
      rw [hy, Bool.and_eq_true] at h2
      exact ⟨i, k, x, y, e, hx, hy, h1.2, h2.2, hlt⟩
theorem singTo_at {l : List Cls} {x : Cls} {i : Nat} : ∀ {n : Nat}, singTo l x i n = true → ∀ k, k < n → k ≠ i → ∀ y, l[k]? = some y → parB x y = false
  | 0, _, k, hk, _, _, _ => by omega
  | n + 1, h, k, hk, hne, y, hy => by
    rw [singTo, Bool.and_eq_true] at h
    by_cases e : k = n
    · subst e
      have h2 := h.2
      rw [hy, Bool.or_eq_true] at h2
      rcases h2 with h2 | h2
      · exact absurd (of_decide_eq_true h2) hne
      · simpa using h2
    · exact singTo_at h.1 k (by omega) hne y hy
theorem sing_par {l : List Cls} {i k : Nat} {x y : Cls} (h : singB l i = true) (hx : l[i]? = some x) (hy : l[k]? = some y) (hne : k ≠ i) : parB x y = false := by
  unfold singB at h
  rw [hx] at h
  exact singTo_at h k (List.getElem?_eq_some_iff.1 hy).1 hne y hy
/-- One step of the search. -/
theorem sub_skip {α : Type} {a b : List α} {x y : α} (h : (x :: a).Sublist (y :: b)) (hne : y ≠ x) : (x :: a).Sublist b := by
  cases h with
  | cons _ h => exact h
  | cons_cons _ h => exact absurd rfl hne
theorem sub_hit {α : Type} {a b : List α} {x : α} (h : (x :: a).Sublist b) : a.Sublist b := List.Sublist.trans (List.sublist_cons_self x a) h
end Go.Proofs.YtonpfohhedcjbaaGreatDoor

namespace Go.Proofs.YtonpfohhedcjbaaGreatDoor
open Go.RowKit
set_option maxRecDepth 100000

/-- A row of its own from block B on; what its elements point to lies in blocks S. -/
def OwnS {α : Type} (K : Kind α) (t : TypeId) (S : Nat → Prop) (B : Nat) (w : World) (v : Value) (l : List α) : Prop :=
  ∃ vss : List (List Value), vss.length = l.length ∧ w.ownsRow B t K.k v l.length vss.flatten ∧ ∀ (j : Nat) (x : α) (vs : List Value), l[j]? = some x → vss[j]? = some vs → K.rep S w x vs
section
variable {α : Type} {K : Kind α} {t : TypeId} {S : Nat → Prop} {B : Nat} {w : World} {v : Value} {l : List α}
theorem OwnS.form (h : OwnS K t S B w v l) : ∃ A c, v = .slice A l.length c := by obtain ⟨vss, -, h, -⟩ := h; exact owns_form h
theorem OwnS.tossed {C g : Nat} {b : World} (h : OwnS K t S B w v l) (T : Thrown C w g b) (hg : g < B) (hS : ∀ x, S x → x ≠ g) : OwnS K t S B b v l := by
  obtain ⟨vss, e1, e2, e3⟩ := h
  refine ⟨vss, e1, e2.kept T.only ?_, fun j x vs hj hv => K.kept (e3 j x vs hj hv) fun y hs hlt => ⟨hs, Nat.lt_of_lt_of_le hlt T.size, T.only.block y hlt (fun e => hS y hs (by injection e))⟩⟩
  cases hv : v.ownBlock with
  | none => exact .inl rfl
  | some y => exact .inr fun e => by have := (World.ownsRow.lt e2 y hv).1; injection e with e; omega
theorem OwnS.own {ts : List TypeId} (h : OwnS K t S B w v l) (hS : ∀ x, S x → x < B) : Own K t ts B B w v l := by
  obtain ⟨vss, e1, e2, e3⟩ := h
  exact ⟨vss, e1, e2, fun j x vs hj hv => K.more (e3 j x vs hj hv) fun b hb => .inl (hS b hb)⟩
theorem wpList_at_copy {P : Program} {t2 : TypeId} {bytes : Nat} {ops : Array Oper} {rest : List Oper} {o : Oper} {a : Act} {Q : Exit → Act → World → Prop} (hgd : o.guard = none) (s x : Operand)
    (ho : o.op = .call { callee := .builtin .append, args := #[s, x], argTypes := #[t2, t2] }) (hA : Apd P t2 t K.k bytes) (hk0 : 0 < K.k) (hs : a.eval s = .slice none 0 0) {A : Option Addr} {n c : Nat} (hn : l.length = n) (hx : a.eval x = .slice A n c) (h : At K S w A l) (hl : n ≤ 4000000000) (hby : bytes ≤ 1000)
    (hk : ∀ v' w', OwnS K t S w.heap.size w' v' l → (∀ y, v'.ownBlock = some y → w.heap.size ≤ y) → w.grownBy w' none → wpList P ops Q rest (a.put o.dst v') w') : wpList P ops Q (o :: rest) a w := by
  obtain ⟨i, z, hi, hz, h1, h2, h3⟩ := hA.i
  by_cases h0 : n = 0
  · subst h0
    obtain rfl : l = [] := List.eq_nil_of_length_eq_zero hn
    refine wpList_plain hgd fun K' hK => ?_
    have hrun : (Builtin.append_ #[t2, t2] o.type #[.slice none 0 0, .slice A 0 c]).run P w = .ok (.slice none 0 0) w := by
      cases A <;> simp [Builtin.append_, run_underlying hA.u, sizeOf, typeInfo, hi, Builtin.lenOf, Builtin.firstCells, loadCells, loadCellsFrom]
    unfold Oper.wp
    simp [execOp, ho, resolve, invoke, builtin, hs, hx, hrun, Result.andThen]
    exact hK _ _ (hk (.slice none 0 0) w ⟨[], rfl, World.ownsRow_nil _ _ _ _, fun j x vs h => by simp at h⟩ (fun y e => by simp [Value.ownBlock] at e) (World.grownBy.refl _ _))
  · obtain ⟨b, off, vss, rfl, hb, hvl, hrep, hc⟩ := h.rows (by omega)
    obtain ⟨r1, r2⟩ := reps_len l vss hvl hrep
    refine wpList_append_own w hgd s x t2 ho w.heap.size t i z K.k bytes hA.u hi hz h1 h2 h3 hk0 (.slice none 0 0) 0 [] hs (World.ownsRow_nil _ _ _ _) ⟨b, off, none⟩ n c vss.flatten hx (by rw [r1, hn]) (fun j u hj => by rw [Addr.add_lit]; exact hc j u hj) r2 (by unfold maxLen; omega) ?_ (Nat.le_refl _) fun v' w' hown hgr _ => hk v' w' ⟨vss, hvl, by rw [hn]; simpa using hown, fun j x vs hj hv => K.kept (hrep j x vs hj hv) fun y hs hlt => ⟨hs, Nat.lt_of_lt_of_le hlt hgr.size, hgr.block y hlt (by simp [Value.ownBlock])⟩⟩ (fun y hy => (World.ownsRow.lt hown y hy).1) hgr
    exact Nat.le_trans (Nat.mul_le_mul (by omega : 0 + n ≤ 4000000000) hby) (by decide)
end
end Go.Proofs.YtonpfohhedcjbaaGreatDoor

namespace Go.Proofs.YtonpfohhedcjbaaGreatDoor
open Go.RowKit
set_option maxRecDepth 100000

/-- Some are appended that lie elsewhere. -/
theorem wpList_own_at {P : Program} {t2 t : TypeId} {B bytes : Nat} {w : World} {v : Value} {l : List ByteArray} {ops : Array Oper} {rest : List Oper} {o : Oper} {a : Act} {Q : Exit → Act → World → Prop} (hgd : o.guard = none) (s x : Operand)
    (ho : o.op = .call { callee := .builtin .append, args := #[s, x], argTypes := #[t2, t2] }) (hA : Apd P t2 t 1 bytes) (hs : a.eval s = v) (h : Own kStr t [] 0 B w v l) {F : Option Addr} {cs : List ByteArray} {k c : Nat} (hk0 : cs.length = k) (hx : a.eval x = .slice F k c) (hF : At kStr AnyB w F cs) (hpos : 0 < k) (hl : l.length + k ≤ 4000000000) (hby : bytes ≤ 1000) (hB : B ≤ w.heap.size)
    (hk : ∀ v' w', Own kStr t [] 0 B w' v' (l ++ cs) → w.grownBy w' v.ownBlock → wpList P ops Q rest (a.put o.dst v') w') : wpList P ops Q (o :: rest) a w := by
  obtain ⟨b, off, vss, rfl, hb, hvl, hrep, hc⟩ := hF.rows (by omega)
  exact wpList_own_many hgd s x ho hA (by decide) hs h cs vss hvl (by omega) hby ⟨b, off, none⟩ k c hk0.symm hx (fun j x vs hj hv => hrep j x vs hj hv) (fun j u hj => by rw [Addr.add_lit]; exact hc j u hj) (by simp) (Nat.zero_le _) hB hk
theorem pairs_small (cs : List ByteArray) (l : List Cls) (hl : l.length ≤ 1000) : (pairsV cs l).length ≤ 1000000 := by
  unfold pairsV
  have h1 := List.length_filter_le (okC cs l) (List.range l.length)
  rw [List.length_range] at h1
  have h2 : ((List.range l.length).filter (okC cs l)).length ≤ 1000 := by omega
  exact Nat.le_trans (pairsL_len _) (Nat.mul_le_mul h2 h2)
set_option maxHeartbeats 16000000 in
theorem cgrow11_walk (A : Option Addr) (n c : Nat) (more : ByteArray) (w : World) (hS : Std w) (hP : StrsVar w.heap.size 0 featuresL w) (hA : 0 < n → ∃ b off, A = some ⟨b, off, none⟩ ∧ ∀ j, j < n → ∃ x : Int, w.cell? ⟨b, off + j, none⟩ = some (.int .i64 x)) :
    Calls Tryz.prog 3 #[.slice A n c, .string more] w fun e w' => e = .returned (.bool true) ∧ Below w.heap.size w w' := by
  by_cases hn : n ≤ 400
  · have hd400 : decide (n ≤ 400) = true := by simpa using hn
    have D0 := dice_new (c := c) hn hA
    have hS0 := hS.big
    obtain ⟨g, hgw⟩ : ∃ g, w.heap.size = g := ⟨_, rfl⟩
    obtain ⟨W1, hW1⟩ : ∃ W1, w.alloc (.cells #[.slice A n c, .int .i64 0] 63) = W1 := ⟨_, rfl⟩
    have hb1 : Below w.heap.size w W1 := by rw [← hW1]; exact (by repeat (first | exact Below.refl _ _ | refine ext_alloc ?_ _ | refine ext_drewN ?_ _ | refine ext_drew ?_ | refine ext_trans ?_ (by assumption)))
    have hS1 := hS.after hb1
    have hP1 := hP.below hb1
    rw [hW1] at D0
    have hg : w.heap.size ≤ g := Nat.le_of_eq hgw
    have D1 : DiceOk w.heap.size W1 g := by rw [← hgw]; exact D0
    replace hW1 := hide hW1
    replace hgw := hide hgw
    clear D0 hA hP
    go_enter Tryz.func3, Tryz.ntmps3
    go_wp2_with (go_at_call 6; refine (light_walk _ _ _ _).mono ?_; rintro e w' ⟨rfl, rfl⟩)
    refine (roll_walk _ _ _ _).mono ?_
    rintro e w' ⟨rfl, rfl⟩
    rw [hW1.out, hgw.out]
    clear hW1 hgw
    go_wp2_with fail
    refine (grid_walk w.heap.size g W1 D1).mono ?_
    rintro e w2 ⟨d, s, b, m, rfl, ⟨d1, d2, s1, s2, z1, z2, z3, z4⟩, T2⟩
    have hcw : Calls Tryz.prog 9 #[.pointer (some ⟨g, 0, none⟩), .agg #[.int .i64 d, .int .i64 s, .int .i64 b, .int .i64 m], .int .i64 1, .slice none 0 0, .int .i64 6] w2 fun e w' => DClss w.heap.size 1 d s 6 [] w2 g e w' :=
      dclss_walk w.heap.size g d s b m 1 (by omega) (by omega) (by omega) (by omega) none [] 0 (by simp) 6 (by omega) w2 T2.dice (hP1.below (T2.below hg)) (fun h => absurd h (by simp))
    go_wp2_with fail
    refine hcw.mono ?_
    clear hcw
    rintro e w3 ⟨v4, cls, rfl, hcm, hcown, T3⟩
    obtain ⟨A4, c4, rfl⟩ := hcown.form
    have hat3 := hcown.ne T2.dice.lt
    have hmc : ∀ x ∈ cls, x.2.1 ∈ mcourses := fun x hx => by obtain ⟨j, hj⟩ := List.getElem?_of_mem hx; exact (hcm.2 j x hj).2.1.course
    have hcl := hcm.1
    have hcu := dcurr_walk w.heap.size g A4 cls c4 w3 T3.dice (by omega) hat3 hmc
    clear hcm hcown hmc
    go_wp2_with fail
    refine hcu.mono ?_
    clear hcu
    rintro e w4 ⟨v5, ls, rfl, hmade, hlown, T4⟩
    obtain ⟨A5, c5, rfl, -, hAt5⟩ := hlown.any
    have hcur : At kCurr AnyB w4 A5 ls := hAt5.any
    have hcls : At kCls AnyB w4 A4 cls := (hat3.tossed (fun b hb => hb) T4).any
    have T := (T2.trans T3).trans T4
    have hS4 := T.std hS1 (by omega)
    have hb4 := T.ext hb1 hg
    have hl3 := hmade.1
    have hl2 := made_short hmade
    have hl1 : ∀ x ∈ ls, 0 < x.2.length := fun x hx => by obtain ⟨j, hj⟩ := List.getElem?_of_mem hx; exact (hmade.2 j x hj).2.1
    obtain ⟨L, hL⟩ : ∃ L, ls.length = L := ⟨_, rfl⟩
    obtain ⟨K, hK⟩ : ∃ K, cls.length = K := ⟨_, rfl⟩
    rw [hL] at hl3 ⊢
    rw [hK] at hcl ⊢
    replace hL := hide hL
    replace hK := hide hK
    clear hmade hlown hAt5 hat3 T T2 T3 T4 hS1 hb1 D1 hP1
    go_wp2_with fail
    go_loopw [8] (fun i wr => ∃ j : Nat, j ≤ L ∧ i = .int .i64 j ∧ Below w4.heap.size w4 wr) (fun i _ => L - (intOf i).toNat)
    case atStart => exact ⟨0, Nat.zero_le _, rfl, Below.refl _ _⟩
    case round =>
      obtain ⟨j, hj, rfl, hb⟩ := hrel
      by_cases hlt : j < L
      · obtain ⟨x, hx⟩ : ∃ x, ls[j]? = some x := ⟨_, List.getElem?_eq_getElem (by rw [hL.out]; exact hlt)⟩
        obtain ⟨cb, co, F, c1, rfl, -, hbl, a0, a1, -, hF⟩ := (hcur.later hb).curr hx
        have hk3 := hl2 x (List.mem_of_getElem? hx)
        have hk0 := hl1 x (List.mem_of_getElem? hx)
        obtain ⟨code, cs⟩ := x
        dsimp only at a0 a1 hF hk3 hk0
        obtain ⟨k, hk⟩ : ∃ k, cs.length = k := ⟨_, rfl⟩
        rw [hk] at a1 hk3 hk0
        obtain ⟨P, hPP⟩ : ∃ P, pairsV cs cls = P := ⟨_, rfl⟩
        obtain ⟨P2, hP2⟩ : ∃ P2, pairsV (cs ++ [(⟨#[80, 72]⟩ : ByteArray), more]) cls = P2 := ⟨_, rfl⟩
        have hsub : P.Sublist P2 := by rw [← hPP, ← hP2]; exact pairs_grow cs _ cls
        have hPl : P.length ≤ 1000000 := by rw [← hPP]; exact pairs_small _ _ (by rw [hK.out]; omega)
        have hPl2 : P2.length ≤ 1000000 := by rw [← hP2]; exact pairs_small _ _ (by rw [hK.out]; omega)
        have hof := fun p (hp : p ∈ P) => pairs_of (by rw [hPP]; exact hp)
        obtain ⟨xb, hxb⟩ : ∃ xb, wr.heap.size = xb := ⟨_, rfl⟩
        obtain ⟨W5, hW5⟩ : ∃ W5, wr.alloc (.cells #[.string code, .slice F k c1] 36) = W5 := ⟨_, rfl⟩
        have hb5 : Below wr.heap.size wr W5 := by rw [← hW5]; exact ext_alloc (Below.refl _ _) _
        have x5 : W5.heap[xb]? = some (.cells #[.string code, .slice F k c1] 36 (0, 0)) := by rw [← hW5, ← hxb]; exact heap_alloc_new _ _
        have hp1 := pairs_walk code F cs c1 A4 cls c4 W5 (by rw [hK.out]; omega) (by omega) (hF.later hb5).any (hcls.later (ext_trans hb hb5))
        unfold PairsIs at hp1
        rw [hk, hK.out, hPP] at hp1
        have e0 : W5.cell? ⟨xb, 0, none⟩ = some (.string code) := by rw [cell_of_row _ _ _ _ _ _ x5]; rfl
        have e1 : W5.cell? ⟨xb, 1, none⟩ = some (.slice F k c1) := by rw [cell_of_row _ _ _ _ _ _ x5]; rfl
        have hj0 : (0 : Int) ≤ (j : Int) := by omega
        have hj1 : (j : Int) < (L : Int) := by omega
        have hFk := hF.any
        obtain ⟨fb, fo, rfl, -⟩ := hFk (by omega)
        have hx4 : w4.heap.size ≤ xb := by rw [← hxb]; exact hb.size
        have hxW : xb < W5.heap.size := blk_lt x5
        replace hW5 := hide hW5
        replace hxb := hide hxb
        replace hk := hide hk
        replace hsub := hide hsub
        replace hof := hide hof
        replace hP2 := hide hP2
        clear hx hF hPP
        go_upto_region 10 with fail
        rw [hW5.out, hxb.out]
        clear a0 a1 hbl hW5 hxb
        go_wp2_with fail
        refine hp1.mono ?_
        clear hp1
        rintro e w6 ⟨va, rfl, hOa, hb6⟩
        obtain ⟨Aa, ca, rfl⟩ := hOa.form
        obtain ⟨np, hnp⟩ : ∃ np, P.length = np := ⟨_, rfl⟩
        rw [hnp] at hOa ⊢
        have x6 : W5.heap[xb]? = w6.heap[xb]? := (hb6.block xb (blk_lt x5)).symm
        rw [x6] at x5
        have hbx6 := ext_trans (ext_trans hb hb5) hb6
        have hF6 := (hFk.later hb5).later hb6
        have q0 : w6.cell? ⟨xb, 0, none⟩ = some (.string code) := by rw [cell_of_row _ _ _ _ _ _ x5]; rfl
        have q1 : w6.cell? ⟨xb, 1, none⟩ = some (.slice (some ⟨fb, fo, none⟩) k c1) := by rw [cell_of_row _ _ _ _ _ _ x5]; rfl
        have f1 : w6.frozen? ⟨xb, 1, none⟩ = false := by simp [World.frozen?, x5]
        have hxl := blk_lt x5
        clear e0 e1 x6
        have hE : Own kStr 9 [] 0 w6.heap.size (w6.alloc (.cells #[] 9)) (.slice (some ⟨w6.heap.size, 0, none⟩) 0 0) [] :=
          Own.lit (K := kStr) (heap_alloc_new _ _) [] [] rfl rfl (by simp) (fun j x vs hj => by simp at hj) (Nat.le_refl _)
        have hF7 := hF6.later (ext_alloc (Below.refl _ _) (.cells #[] 9))
        go_wp2_with (at_builtin; refine wpList_own_at rfl _ _ rfl apd_strs rfl hE hk.out rfl hF7 hk0 ?g1 (by decide) ?g2 ?_)
        case g1 => show 0 + k ≤ 4000000000; omega
        case g2 => rw [World.size_alloc]; omega
        intro v7 w7 hown7 hgr7
        have hb7 : Below w6.heap.size w6 w7 := below_grown (ext_alloc (Below.refl _ _) (.cells #[] 9)) hgr7 (fun y hy => by simp [Value.ownBlock] at hy; omega)
        have hlow7 : ∀ y, v7.ownBlock = some y → w6.heap.size ≤ y := fun y hy => (hown7.lt y hy).1
        obtain ⟨A7, c7, rfl⟩ := hown7.form
        rw [hk.out] at hown7 hlow7 ⊢
        have hnews : ∀ (j : Nat) (u : Value), ([[.string ⟨#[80, 72]⟩], [.string more]] : List (List Value)).flatten[j]? = some u → (w7.alloc (.cells #[.string ⟨#[80, 72]⟩, .string more] 9)).cell? ((⟨w7.heap.size, 0, none⟩ : Addr).add j) = some u := World.news_of_block (cs := #[.string ⟨#[80, 72]⟩, .string more]) (t := 9) (fr := (0, 0)) (heap_alloc_new _ _)
        have hreps : ∀ (j : Nat) (x : ByteArray) (vs : List Value), ([⟨#[80, 72]⟩, more] : List ByteArray)[j]? = some x → ([[.string ⟨#[80, 72]⟩], [.string more]] : List (List Value))[j]? = some vs → kStr.rep (Ty [] 0 w6.heap.size (w7.alloc (.cells #[.string ⟨#[80, 72]⟩, .string more] 9))) (w7.alloc (.cells #[.string ⟨#[80, 72]⟩, .string more] 9)) x vs := fun j x vs h1 h2 => by
          match j, h1, h2 with
          | 0, h1, h2 => simp at h1 h2; subst h1 h2; rfl
          | 1, h1, h2 => simp at h1 h2; subst h1 h2; rfl
          | j + 2, h1, _ => simp at h1
        have hz7 : w6.heap.size ≤ (w7.alloc (.cells #[.string ⟨#[80, 72]⟩, .string more] 9)).heap.size := by rw [World.size_alloc]; have := hb7.size; omega
        have hl7 : cs.length + ([⟨#[80, 72]⟩, more] : List ByteArray).length ≤ 4000000000 := by rw [hk.out]; show k + 2 ≤ _; omega
        have hown7' := hown7.alloc (.cells #[.string ⟨#[80, 72]⟩, .string more] 9)
        clear hgr7 hE hF7 hF6 hown7
        replace hnews := hide hnews
        replace hreps := hide hreps
        replace hlow7 := hide hlow7
        go_wp2_with (at_builtin; refine wpList_own_many rfl _ _ rfl apd_strs (by decide) rfl hown7' [⟨#[80, 72]⟩, more] [[.string ⟨#[80, 72]⟩], [.string more]] rfl hl7 (by decide) ⟨w7.heap.size, 0, none⟩ 2 2 rfl rfl hreps.out hnews.out (by simp) (Nat.zero_le _) hz7 ?_)
        intro v8 w8 hown8 hgr8
        have hb8 : Below w6.heap.size w6 w8 := below_grown (ext_alloc hb7 (.cells #[.string ⟨#[80, 72]⟩, .string more] 9)) hgr8 hlow7.out
        obtain ⟨A8, c8, rfl⟩ := hown8.form
        have hlen8 : (cs ++ [(⟨#[80, 72]⟩ : ByteArray), more]).length = k + 2 := by rw [List.length_append, hk.out]; rfl
        obtain ⟨ds, hds⟩ : ∃ ds, cs ++ [(⟨#[80, 72]⟩ : ByteArray), more] = ds := ⟨_, rfl⟩
        rw [hds] at hown8 hlen8 ⊢
        have hP2' := hP2.out
        rw [hds] at hP2'
        obtain ⟨kd, hkd⟩ : ∃ kd, ds.length = kd := ⟨_, rfl⟩
        rw [hkd] at hown8 hlen8 ⊢
        have x8 : w8.heap[xb]? = some (.cells #[.string code, .slice (some ⟨fb, fo, none⟩) k c1] 36 (0, 0)) := (hb8.block xb hxl).trans x5
        have q8 : w8.cell? ⟨xb, 1, none⟩ = some (.slice (some ⟨fb, fo, none⟩) k c1) := by rw [cell_of_row _ _ _ _ _ _ x8]; rfl
        have f8 : w8.frozen? ⟨xb, 1, none⟩ = false := by simp [World.frozen?, x8]
        have hxl8 := blk_lt x8
        obtain ⟨W9, hW9⟩ : ∃ W9, w8.setCell ⟨xb, 1, none⟩ (.slice A8 kd c8) = W9 := ⟨_, rfl⟩
        have x9 : W9.heap[xb]? = some (.cells #[.string code, .slice A8 kd c8] 36 (0, 0)) := by rw [← hW9]; exact (heap_setCell_same _ _ _ _ _ _ x8).trans rfl
        have hkp : ∀ b, b ≠ xb → W9.heap[b]? = w8.heap[b]? := fun b hb => by rw [← hW9]; exact Below.heap_setCell _ _ _ _ (fun e => hb e)
        have hz9 : W9.heap.size = w8.heap.size := by rw [← hW9, size_set]
        have hd9 : At kStr AnyB W9 A8 ds := (hown8.ne hxl).kept fun b h1 h2 => ⟨trivial, by rw [hz9]; exact h2, hkp b h1⟩
        have ha9 : At kStart AnyB W9 Aa P := ((hOa.ne hxW).later hb8).kept fun b h1 h2 => ⟨trivial, by rw [hz9]; exact h2, hkp b h1⟩
        have hb9 : Below w4.heap.size w4 W9 := by rw [← hW9]; exact ext_set (ext_trans hbx6 hb8) hx4 _
        have hp2 := pairs_walk code A8 ds c8 A4 cls c4 W9 (by rw [hK.out]; omega) (by omega) hd9 (hcls.later hb9)
        unfold PairsIs at hp2
        rw [hkd, hK.out, hP2'] at hp2
        have e0 : W9.cell? ⟨xb, 0, none⟩ = some (.string code) := by rw [cell_of_row _ _ _ _ _ _ x9]; rfl
        have e1 : W9.cell? ⟨xb, 1, none⟩ = some (.slice A8 kd c8) := by rw [cell_of_row _ _ _ _ _ _ x9]; rfl
        replace hW9 := hide hW9
        replace hkd := hide hkd
        replace hds := hide hds
        replace hlen8 := hide hlen8
        clear hnews hreps hlow7 hgr8 hown8 hown7' hb7 hb8 x8 hkp hz9 hd9 hP2' q0 q1 f1 x5 hl7 hz7 hP2 x9 hbx6 hb5 hFk hOa hb6 hxl
        go_upto_region 12 with fail
        rw [hW9.out]
        clear q8 f8 hxl8 hW9
        go_wp2_with fail
        refine hp2.mono ?_
        clear hp2
        rintro e w10 ⟨vb, rfl, hOb, hb10⟩
        obtain ⟨Ab, kb, rfl, -, hat⟩ := hOb.any
        obtain ⟨np2, hnp2⟩ : ∃ np2, P2.length = np2 := ⟨_, rfl⟩
        rw [hnp2] at hOb ⊢
        have hab := hat.any
        have haa := ha9.later hb10
        have hbt := ext_trans hb9 hb10
        replace hnp := hide hnp
        replace hnp2 := hide hnp2
        have hnpz : np ≤ 1000000 ∧ np2 ≤ 1000000 := by rw [hnp.out] at hPl; rw [hnp2.out] at hPl2; exact ⟨hPl, hPl2⟩
        clear hPl hPl2
        clear hat hOb hb10 hb9 ha9 e0 e1 hx4 hxW
        go_wp2_with fail
        go_loopw [12, 13] (fun v12 v13 wq => ∃ jj kk : Nat, jj ≤ np ∧ kk ≤ np2 ∧ v13 = .int .i64 jj ∧ v12 = .int .i64 kk ∧ (P.drop jj).Sublist (P2.drop kk) ∧ Below w10.heap.size w10 wq) (fun _ v13 _ => np - (intOf v13).toNat)
        case atStart => exact ⟨0, 0, Nat.zero_le _, Nat.zero_le _, rfl, rfl, by simpa using hsub.out, Below.refl _ _⟩
        case round =>
          obtain ⟨jj, kk, hjj, hkk, rfl, rfl, hsl, hbq⟩ := hrel
          by_cases hjl : jj < np
          · obtain ⟨p, hp⟩ : ∃ p, P[jj]? = some p := ⟨_, List.getElem?_eq_getElem (by rw [hnp.out]; exact hjl)⟩
            have hdr : P.drop jj = p :: P.drop (jj + 1) := by
              obtain ⟨h1, h2⟩ := List.getElem?_eq_some_iff.1 hp
              rw [← h2]; exact List.drop_eq_getElem_cons h1
            rw [hdr] at hsl
            obtain ⟨i, i', x, y, hpe, hxi, hyi, hsi, hsj, hij⟩ := hof.out p (List.mem_of_getElem? hp)
            obtain ⟨ab, ao, rfl, -, habl, -, -⟩ := haa.pair hp
            obtain ⟨r, hr⟩ : ∃ r, P.drop (jj + 1) = r := ⟨_, rfl⟩
            rw [hr] at hsl
            have hjj0 : (0 : Int) ≤ (jj : Int) := by omega
            have hjj1 : (jj : Int) < (np : Int) := by omega
            replace hpe := hide hpe
            replace hr := hide hr
            clear hdr
            go_wp2_with fail
            go_loopw [12] (fun v12 wi => ∃ kk : Nat, kk ≤ np2 ∧ v12 = .int .i64 kk ∧ (p :: r).Sublist (P2.drop kk) ∧ Below w10.heap.size w10 wi) (fun v12 _ => np2 - (intOf v12).toNat)
            case atStart => exact ⟨kk, hkk, rfl, hsl, hbq⟩
            case round =>
              clear hsl hkk
              obtain ⟨kk, hkk, rfl, hsl, hbi⟩ := hrel
              have hkl : kk < np2 := by
                rcases Nat.lt_or_ge kk np2 with h | h
                · exact h
                · rw [List.drop_of_length_le (by rw [hnp2.out]; exact h)] at hsl
                  cases hsl
              obtain ⟨p2, hp2⟩ : ∃ p2, P2[kk]? = some p2 := ⟨_, List.getElem?_eq_getElem (by rw [hnp2.out]; exact hkl)⟩
              have hdr2 : P2.drop kk = p2 :: P2.drop (kk + 1) := by
                obtain ⟨h1, h2⟩ := List.getElem?_eq_some_iff.1 hp2
                rw [← h2]; exact List.drop_eq_getElem_cons h1
              rw [hdr2] at hsl
              obtain ⟨ab', ao', e', -, -, k0, k1⟩ := (haa.later hbi).pair hp
              injection e' with e'
              injection e' with e1 e2
              subst e1 e2
              obtain ⟨bb, bo, rfl, -, hbbl, m0, m1⟩ := (hab.later hbi).pair hp2
              have hkk0 : (0 : Int) ≤ (kk : Int) := by omega
              have hkk1 : (kk : Int) < (np2 : Int) := by omega
              by_cases heqp : p2 = p
              · obtain rfl : p = p2 := heqp.symm
                have heq : ∀ W : World, (Op.equalIn 10000 39 (.agg #[.int .i64 p.1, .int .i64 p.2]) (.agg #[.int .i64 p.1, .int .i64 p.2])).run Tryz.prog W = .ok true W := fun W => (pair_equal p.1 p.2 p.1 p.2 W).trans (by simp)
                have hnx : Hid (r.Sublist (P2.drop kk)) := hide (by rw [hdr2]; exact sub_hit hsl)
                clear hsl hdr2 hp2
                go_upto_region 17 with fail
                go_quiet (fail)
                have hbz : Below w10.heap.size w10 (wr.drewN nq) := ext_drewN hbi _
                obtain ⟨b, off, q, rfl, -, hbb, hq, hq1, hq2⟩ := (hcls.later (ext_trans hbt hbz)).cls hxi
                obtain ⟨b', off', q', e', -, -, hq', hq1', hq2'⟩ := (hcls.later (ext_trans hbt hbz)).cls hyi
                injection e' with e'
                injection e' with e1 e2
                subst e1 e2
                have hparF : decide (q.co = q'.co ∧ q.pa = q'.pa) = false := by
                  have := sing_par hsi hxi hyi (by omega)
                  unfold parB at this
                  rw [hq1, hq2, hq1', hq2']; exact this
                have hiK : i < K := by rw [← hK.out]; exact (List.getElem?_eq_some_iff.1 hxi).1
                have hiK' : i' < K := by rw [← hK.out]; exact (List.getElem?_eq_some_iff.1 hyi).1
                have hi0 : (0 : Int) ≤ (i : Int) := by omega
                have hi1 : (i : Int) < (K : Int) := by omega
                have hi2 : (0 : Int) ≤ (i' : Int) := by omega
                have hi3 : (i' : Int) < (K : Int) := by omega
                have hkne : ¬ (kk : Int) = (np2 : Int) := by omega
                have hkn2 : ((kk : Int) == (np2 : Int)) = false := beq_false_of_ne hkne
                rw [hpe.out] at k0 k1
                dsimp only at k0 k1
                have hclz := hcls.later (ext_trans hbt hbz)
                have j0 : (wr.drewN nq).cell? ⟨ab, ao + jj * 2, none⟩ = some (.int .i64 (i : Int)) := k0
                have j1 : (wr.drewN nq).cell? ⟨ab, ao + jj * 2 + 1, none⟩ = some (.int .i64 (i' : Int)) := k1
                obtain ⟨wz, hwz⟩ : ∃ wz, wr.drewN nq = wz := ⟨_, rfl⟩
                rw [hwz] at hbz hq hq' hclz j0 j1
                have hpar := hide (fun (n : Later wz) => (calls_later (v := .bool false) (n := n) (by
                  have := r10par_walk q q' n.val
                  rw [hparF] at this
                  exact this) : Calls Tryz.prog 13 #[.agg #[.string q.z, .string q.co, .string q.pa, .int .i64 q.n, .slice q.A4 q.n4 q.c4, .int .i64 q.m, .slice q.A6 q.n6 q.c6, .slice q.A7 q.n7 q.c7, .slice q.A8 q.n8 q.c8], .agg #[.string q'.z, .string q'.co, .string q'.pa, .int .i64 q'.n, .slice q'.A4 q'.n4 q'.c4, .int .i64 q'.m, .slice q'.A6 q'.n6 q'.c6, .slice q'.A7 q'.n7 q'.c7, .slice q'.A8 q'.n8 q'.c8]] n.val fun e w'' => e = .returned (.bool false) ∧ ∃ m : Later wz, w'' = m.val))
                have hsg1 := hide (fun (n : Later wz) => calls_later (v := .bool true) (n := n) (by
                  have := r11single_walk (some ⟨b, off, none⟩) cls c4 i n.val (by rw [hK.out]; omega) (by rw [hK.out]; exact hiK) (hclz.later n.2)
                  rw [hsi] at this
                  exact this))
                have hsg2 := hide (fun (n : Later wz) => calls_later (v := .bool true) (n := n) (by
                  have := r11single_walk (some ⟨b, off, none⟩) cls c4 i' n.val (by rw [hK.out]; omega) (by rw [hK.out]; exact hiK') (hclz.later n.2)
                  rw [hsj] at this
                  exact this))
                rw [hK.out] at hsg1 hsg2
                have u0 : ∀ n : Later wz, n.val.cell? ⟨b, off + i * 9, none⟩ = some (.string q.z) := fun n => cell_later n.2 hq.1
                have u1 : ∀ n : Later wz, n.val.cell? ⟨b, off + i * 9 + 1, none⟩ = some (.string q.co) := fun n => cell_later n.2 hq.2.1
                have u2 : ∀ n : Later wz, n.val.cell? ⟨b, off + i * 9 + 2, none⟩ = some (.string q.pa) := fun n => cell_later n.2 hq.2.2.1
                have u3 : ∀ n : Later wz, n.val.cell? ⟨b, off + i * 9 + 3, none⟩ = some (.int .i64 q.n) := fun n => cell_later n.2 hq.2.2.2.1
                have u4 : ∀ n : Later wz, n.val.cell? ⟨b, off + i * 9 + 4, none⟩ = some (.slice q.A4 q.n4 q.c4) := fun n => cell_later n.2 hq.2.2.2.2.1
                have u5 : ∀ n : Later wz, n.val.cell? ⟨b, off + i * 9 + 5, none⟩ = some (.int .i64 q.m) := fun n => cell_later n.2 hq.2.2.2.2.2.1
                have u6 : ∀ n : Later wz, n.val.cell? ⟨b, off + i * 9 + 6, none⟩ = some (.slice q.A6 q.n6 q.c6) := fun n => cell_later n.2 hq.2.2.2.2.2.2.1
                have u7 : ∀ n : Later wz, n.val.cell? ⟨b, off + i * 9 + 7, none⟩ = some (.slice q.A7 q.n7 q.c7) := fun n => cell_later n.2 hq.2.2.2.2.2.2.2.1
                have u8 : ∀ n : Later wz, n.val.cell? ⟨b, off + i * 9 + 8, none⟩ = some (.slice q.A8 q.n8 q.c8) := fun n => cell_later n.2 hq.2.2.2.2.2.2.2.2
                have v0 : ∀ n : Later wz, n.val.cell? ⟨b, off + i' * 9, none⟩ = some (.string q'.z) := fun n => cell_later n.2 hq'.1
                have v1 : ∀ n : Later wz, n.val.cell? ⟨b, off + i' * 9 + 1, none⟩ = some (.string q'.co) := fun n => cell_later n.2 hq'.2.1
                have v2 : ∀ n : Later wz, n.val.cell? ⟨b, off + i' * 9 + 2, none⟩ = some (.string q'.pa) := fun n => cell_later n.2 hq'.2.2.1
                have v3 : ∀ n : Later wz, n.val.cell? ⟨b, off + i' * 9 + 3, none⟩ = some (.int .i64 q'.n) := fun n => cell_later n.2 hq'.2.2.2.1
                have v4 : ∀ n : Later wz, n.val.cell? ⟨b, off + i' * 9 + 4, none⟩ = some (.slice q'.A4 q'.n4 q'.c4) := fun n => cell_later n.2 hq'.2.2.2.2.1
                have v5 : ∀ n : Later wz, n.val.cell? ⟨b, off + i' * 9 + 5, none⟩ = some (.int .i64 q'.m) := fun n => cell_later n.2 hq'.2.2.2.2.2.1
                have v6 : ∀ n : Later wz, n.val.cell? ⟨b, off + i' * 9 + 6, none⟩ = some (.slice q'.A6 q'.n6 q'.c6) := fun n => cell_later n.2 hq'.2.2.2.2.2.2.1
                have v7 : ∀ n : Later wz, n.val.cell? ⟨b, off + i' * 9 + 7, none⟩ = some (.slice q'.A7 q'.n7 q'.c7) := fun n => cell_later n.2 hq'.2.2.2.2.2.2.2.1
                have v8 : ∀ n : Later wz, n.val.cell? ⟨b, off + i' * 9 + 8, none⟩ = some (.slice q'.A8 q'.n8 q'.c8) := fun n => cell_later n.2 hq'.2.2.2.2.2.2.2.2
                have n0 : ∀ n : Later wz, n.val.cell? ⟨ab, ao + jj * 2, none⟩ = some (.int .i64 (i : Int)) := fun n => cell_later n.2 j0
                have n1 : ∀ n : Later wz, n.val.cell? ⟨ab, ao + jj * 2 + 1, none⟩ = some (.int .i64 (i' : Int)) := fun n => cell_later n.2 j1
                have hany := later_any wz
                replace hwz := hide hwz
                clear hq hq' hclz j0 j1 k0 k1 m0 m1 heq hq1 hq2 hq1' hq2' hparF hiK hiK' hbbl hbb
                go_upto_region 19 with fail
                rw [hwz.out]
                refine wp_region_later (by kernel_rfl) (by kernel_rfl) ?_
                repeat (go_big_quiet_step ((first | (go_at_call 13; with_reducible exact hpar.out _) | (go_at_call 14; with_reducible exact hsg1.out _) | (go_at_call 14; with_reducible exact hsg2.out _))))
                refine wpQuiet_nil ?_
                clear u0 u1 u2 u3 u4 u5 u6 u7 u8 v0 v1 v2 v3 v4 v5 v6 v7 v8 n0 n1 hany hpar hsg1 hsg2
                rintro _ ⟨n8, rfl⟩
                have hb8 := n8.keeps
                generalize n8.val = w8 at *
                go_wp2_with fail
                go_roundw
                case rel => exact ⟨jj + 1, kk, by omega, by omega, by go_num, rfl, by rw [hr.out]; exact hnx.out, ext_trans hbz hb8⟩
                case measure => first | (simp [intOf]; done) | (simp [intOf]; omega)
              · have hcmp : (p2.1 == p.1 && p2.2 == p.2) = false := by
                  rw [Bool.and_eq_false_iff]
                  by_cases h1 : p2.1 = p.1
                  · right
                    exact beq_false_of_ne fun h2 => heqp (Prod.ext h1 h2)
                  · left
                    exact beq_false_of_ne h1
                have heq : ∀ W : World, (Op.equalIn 10000 39 (.agg #[.int .i64 p2.1, .int .i64 p2.2]) (.agg #[.int .i64 p.1, .int .i64 p.2])).run Tryz.prog W = .ok false W := fun W => (pair_equal p2.1 p2.2 p.1 p.2 W).trans (by rw [hcmp])
                have hnx := hide (sub_skip hsl heqp)
                clear hsl hdr2 hp2 hcmp heqp
                go_upto_region 17 with fail
                go_quiet (fail)
                go_wp2_with fail
                go_roundw
                case rel => exact ⟨kk + 1, by omega, by go_num, hnx.out, ext_drewN hbi _⟩
                case measure => first | (simp [intOf]; done) | (simp [intOf]; omega)
          · obtain rfl : jj = np := by omega
            have hbz := ext_trans hbt hbq
            clear haa hab hsl
            go_wp2_with fail
            go_roundw
            case rel => exact ⟨j + 1, by omega, by go_num, hbz⟩
            case measure => simp [intOf]; omega
      · obtain rfl : j = L := by omega
        go_wp2_with fail
        refine (awake11_walk wr (hS4.after hb)).mono ?_
        rintro e w9 ⟨rfl, hb9⟩
        go_wp2
        go_ret
        exact ⟨rfl, ext_trans hb4 (ext_trans hb hb9)⟩
  · have hd400 : decide (n ≤ 400) = false := by simpa using hn
    go_enter Tryz.func3, Tryz.ntmps3
    go_wp2_with (go_at_call 6; refine (light_walk _ _ _ _).mono ?_; rintro e w' ⟨rfl, rfl⟩)
    refine (awake11_walk w hS).mono ?_
    rintro e w1 ⟨rfl, hb1⟩
    go_wp2
    go_ret
    exact ⟨rfl, hb1⟩
end Go.Proofs.YtonpfohhedcjbaaGreatDoor
