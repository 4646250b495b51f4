/- Walk of the parser's brackets: the parts of a text between brackets. Conditions: the parser's cells are as PsAt says; what the program's variables hold. Walks of the reference's lists of selections. Conditions: the reader's cells are as RdyAt or RBad say; the words of the selections are as Lvs says. Walks of the reference's selections: parts joined by 'or'. Conditions: the reader's cells are as RdyAt or RBad say; the words of the selections are as Lvs says. -/
import Derived.Test.YtdnnahdafhddlaaGreatDoorUR9A
namespace Go.Proofs.YtdnnahdafhddlaaGreatDoor
open Go.RowKit
set_option maxRecDepth 100000

/-- A text cut at the first of a byte, told by places. -/
theorem pass_cut (c : UInt8) (t : ByteArray) : ∀ (k a : Nat), t.size - a = k → a ≤ t.size →
    cut1 c (t.data.toList.drop a) = ((t.extract a (passT (fun x => x != c) t a)).data.toList, t.data.toList.drop (passT (fun x => x != c) t a + 1), decide (passT (fun x => x != c) t a < t.size))
  | 0, a, hk, ha => by
    have hl : t.data.toList.length = t.size := ba_len t
    rw [passT_end (by omega), List.drop_eq_nil_of_le (by omega), List.drop_eq_nil_of_le (by omega)]
    have e : decide (a < t.size) = false := decide_eq_false (by omega)
    rw [e, extract_list, Nat.sub_self]
    rfl
  | k + 1, a, hk, ha => by
    have hl : t.data.toList.length = t.size := ba_len t
    have hlt : a < t.size := by omega
    have hd : t.data.toList.drop a = t[a] :: t.data.toList.drop (a + 1) := by
      rw [List.drop_eq_getElem_cons (by omega)]
      congr 1
    rw [hd, cut1]
    by_cases hc : t[a] = c
    · rw [if_pos hc, passT_stop hlt (by show (t[a] != c) = false; rw [hc]; simp)]
      rw [decide_eq_true hlt, extract_list, Nat.sub_self]
      rfl
    · have hgo : passT (fun x => x != c) t a = passT (fun x => x != c) t (a + 1) := passT_go hlt (by show (t[a] != c) = true; simpa using hc)
      have hge : a + 1 ≤ passT (fun x => x != c) t (a + 1) := passT_ge _ _ _
      have ih := pass_cut c t k (a + 1) (by omega) (by omega)
      rw [if_neg hc, hgo, ih]
      obtain ⟨m, hm⟩ : ∃ m, passT (fun x => x != c) t (a + 1) = m := ⟨_, rfl⟩
      rw [hm] at hge ⊢
      refine Prod.ext ?_ rfl
      show t[a] :: (t.extract (a + 1) m).data.toList = (t.extract a m).data.toList
      rw [extract_list, extract_list, hd, show m - a = (m - (a + 1)) + 1 from by omega, List.take_succ_cons]
theorem splitOn1_len (c : UInt8) : ∀ l : List UInt8, (splitOn1 c l).length ≤ l.length + 1
  | [] => Nat.le_refl _
  | b :: r => by
    have ih := splitOn1_len c r
    unfold splitOn1
    split
    · simp only [List.length_cons]; omega
    · split
      · simp
      · rename_i h0 t0 heq
        rw [heq] at ih
        simp only [List.length_cons] at ih ⊢
        omega
theorem trimSp_walk (s : ByteArray) (w : World) (hs : s.size ≤ 9223372036854775807) :
    Calls Tryz.prog 52 #[.string s, .string ⟨#[32]⟩] w fun e w' => e = .returned (.string (trimB s)) ∧ Below w.heap.size w w' :=
  Any.strings_Trim_laid Tryz.lays160 (by kernel_rfl) s ⟨#[32]⟩ w hs (by decide) (ascii_of_all (by decide))
/-- A slice of strings, in new blocks. -/
def vStrs (w w' : World) (l : List ByteArray) (v : Value) : Prop := ∃ A c, v = .slice A l.length c ∧ l.length ≤ c ∧ At kStr (fun b => w.heap.size ≤ b) w' A l
/-- The row while its strings are trimmed one by one. -/
def trimTo (l : List ByteArray) (j : Nat) : List ByteArray := (l.take j).map trimB ++ l.drop j
theorem trimTo_get {l : List ByteArray} {j : Nat} {z : ByteArray} (h : l[j]? = some z) : (trimTo l j)[j]? = some z := by
  have hj := (List.getElem?_eq_some_iff.1 h).1
  unfold trimTo
  rw [List.getElem?_append_right (by simp; omega)]
  simp only [List.length_map, List.length_take]
  rw [show j - min j l.length = 0 from by omega, List.getElem?_drop, Nat.add_zero]
  exact h
theorem trimTo_set {l : List ByteArray} {j : Nat} {z : ByteArray} (h : l[j]? = some z) : (trimTo l j).set j (trimB z) = trimTo l (j + 1) := by
  have hj := (List.getElem?_eq_some_iff.1 h).1
  have e : l.drop j = z :: l.drop (j + 1) := by
    rw [List.drop_eq_getElem_cons hj]
    congr 1
    rw [List.getElem?_eq_getElem hj] at h
    injection h
  unfold trimTo
  have hlen : ((l.take j).map trimB).length = j := by simp; omega
  rw [List.set_append_right _ _ (by omega), hlen, Nat.sub_self, e, List.set_cons_zero, List.take_add_one, h]
  simp
theorem trimTo_len (l : List ByteArray) (j : Nat) : (trimTo l j).length = l.length := by
  unfold trimTo
  simp only [List.length_append, List.length_map, List.length_take, List.length_drop]
  omega
/-- Block b holds these strings. -/
def RowS (w : World) (b : Nat) (l : List ByteArray) : Prop := ∃ cs : Array Value, w.heap[b]? = some (.cells cs 9 (0, 0)) ∧ cs.toList = l.map Value.string
theorem RowS.get {w : World} {b j : Nat} {l : List ByteArray} {z : ByteArray} (h : RowS w b l) (hj : l[j]? = some z) : w.cell? ⟨b, j, none⟩ = some (.string z) ∧ w.frozen? ⟨b, j, none⟩ = false ∧ b < w.heap.size := by
  obtain ⟨cs, h1, h2⟩ := h
  refine ⟨?_, by simp [World.frozen?, h1], blk_lt h1⟩
  rw [cell_of_row w b j _ _ _ h1]
  have : cs.toList[j]? = some (.string z) := by rw [h2, List.getElem?_map, hj]; rfl
  simpa using this
theorem RowS.set {w : World} {b j : Nat} {l : List ByteArray} (h : RowS w b l) (z : ByteArray) : RowS (w.setCell ⟨b, j, none⟩ (.string z)) b (l.set j z) := by
  obtain ⟨cs, h1, h2⟩ := h
  refine ⟨cs.setIfInBounds j (.string z), ?_, ?_⟩
  · simp only [World.setCell, Array.getElem?_modify, h1]
    rfl
  · rw [Array.toList_setIfInBounds, h2, List.map_set]
theorem RowS.later {w w' : World} {b : Nat} {l : List ByteArray} (h : RowS w b l) (hb : Below w.heap.size w w') : RowS w' b l := by
  obtain ⟨cs, h1, h2⟩ := h
  exact ⟨cs, (hb.block b (blk_lt h1)).trans h1, h2⟩
theorem RowS.at {w : World} {b : Nat} {l : List ByteArray} (h : RowS w b l) {S : Nat → Prop} (hS : S b) : At kStr S w (some ⟨b, 0, none⟩) l := by
  obtain ⟨cs, h1, h2⟩ := h
  refine fun _ => ⟨b, 0, rfl, hS, blk_lt h1, fun j x hx => ⟨[.string x], rfl, fun i u hu => ?_⟩⟩
  match i, hu with
  | 0, hu =>
    simp at hu
    subst hu
    rw [cell_of_row w b _ _ _ _ h1]
    have : cs.toList[j]? = some (.string x) := by rw [h2, List.getElem?_map, hx]; rfl
    simpa [kStr] using this
  | i + 1, hu => simp at hu
/-- What the brackets' reader does. -/
def bracksP (t : ByteArray) (e a : Nat) : Res (List ByteArray) := thenP (needP t e xComma) (fun _ => brackP gramT t e) a
set_option maxHeartbeats 4000000 in
theorem brackets_walk (g : Nat) (t : ByteArray) (e a : Nat) (w w0 : World) (hS : Std w0) (hbw : Below w0.heap.size w0 w) (hg0 : w0.heap.size ≤ g) (h : PsAt w g t e a) (ha : a ≤ t.size) (hs : t.size < 1073741824) :
    Calls Tryz.prog 140 #[.pointer (some ⟨g, 0, none⟩)] w fun en w' => RdG g t e vStrs (bracksP t e a) w en w' := by
  have hnd := need_walk g t e a xComma w h ha hs
  have hnd : Calls Tryz.prog 133 #[.pointer (some ⟨g, 0, none⟩), .string ⟨#[44]⟩] w fun en w' => RdG g t e vUnit (needP t e xComma a) w en w' := hnd
  go_enter Tryz.func140, Tryz.ntmps140
  go_wp2_with fail
  refine hnd.mono ?_
  rintro en w1 ⟨ho1, hm⟩
  clear hnd
  cases hp : needP t e xComma a with
  | error y =>
    obtain ⟨y1, y2⟩ := y
    rw [hp] at hm
    obtain rfl := hm
    go_wp2
    exact ⟨rfl, RdG.err (by unfold bracksP thenP; rw [hp]) ho1⟩
  | ok z =>
    obtain ⟨u, b0⟩ := z
    rw [hp] at hm
    obtain ⟨h1, hb0, v, rfl, rfl⟩ := hm
    have hbr : bracksP t e a = brackP gramT t e b0 := by unfold bracksP thenP; rw [hp]
    have hnx := pnext_walk g t e b0 w1 h1 hb0 hs
    clear hp h
    go_wp2_with fail
    refine hnx.mono ?_
    rintro en w2 ⟨ho2, hm⟩
    clear hnx
    cases hl : lookT t e b0 with
    | bad b =>
      rw [hl] at hm
      obtain rfl := hm
      go_wp2
      exact ⟨rfl, RdG.err (hbr.trans (by unfold brackP nextP; rw [hl])) (ho1.trans ho2)⟩
    | tok x p =>
      rw [hl] at hm
      obtain ⟨rfl, h2⟩ := hm
      have hin := look_in hb0 hl
      obtain ⟨b, hb⟩ : ∃ b, startT t b0 + x.size = b := ⟨_, rfl⟩
      have hbr2 : bracksP t e a = if x = xSq then
          (if passT (fun c => c != 93) t b < t.size then .ok (bracketL (t.extract b (passT (fun c => c != 93) t b)), passT (fun c => c != 93) t b + 1) else .error (p, 15)) else .error (p, 15) := by
        rw [hbr]
        unfold brackP nextP
        rw [hl]
        simp only
        rw [hb]
        rfl
      rw [hb] at h2 hin
      obtain ⟨w3, hw3⟩ : ∃ w3, w2.alloc (.cells #[.string x, .int .i64 (p : Int)] 166) = w3 := ⟨_, rfl⟩
      obtain ⟨q, hq⟩ : ∃ q, w2.heap.size = q := ⟨_, rfl⟩
      have hb3 : Below w2.heap.size w2 w3 := by rw [← hw3]; exact ext_alloc (Below.refl _ _) _
      have h3 := h2.later hb3
      have ho3 := Only.later (ho1.trans ho2) hb3
      have ht3 : w3.heap[q]? = some (.cells #[.string x, .int .i64 (p : Int)] 166 (0, 0)) := by rw [← hw3, ← hq]; exact heap_alloc_new _ _
      have hS3 : Std w3 := hS.after (Below.trans hbw (Only.below ho3 hg0 (by have := hbw.size; omega)))
      obtain ⟨d0, d1, -⟩ := tok_cells ht3
      clear hbr h1 ho1 ho2 h2 hb3 hl hb
      by_cases hx : x = xSq
      · have hxs : (x.toList == [91]) = true := by rw [word_is]; exact decide_eq_true hx
        rw [if_pos hx] at hbr2
        replace hx := hide hx
        obtain ⟨m, hm⟩ : ∃ m, passT (fun c => c != 93) t b = m := ⟨_, rfl⟩
        have hbm : b ≤ m := by rw [← hm]; exact passT_ge _ _ _
        have hmt : m ≤ t.size := by rw [← hm]; exact passT_in _ _ hin
        obtain ⟨y, hy⟩ : ∃ y, t.data.toList.drop (m + 1) = y := ⟨_, rfl⟩
        have hcl : Lib.cut (t.extract b t.size).data.toList [93] = ((t.extract b m).data.toList, y, decide (m < t.size)) := by
          have h1 := pass_cut 93 t _ b rfl hin
          rw [hm, hy] at h1
          rw [cut_eq, show (t.extract b t.size).data.toList = t.data.toList.drop b from by rw [extract_list, List.take_of_length_le (by rw [List.length_drop, ba_len]; omega)]]
          exact h1
        obtain ⟨ml, hml⟩ := hS3.maxLen
        have hcut : Hid (∀ n, Calls Tryz.prog 51 #[.string (t.extract b t.size), .string ⟨#[93]⟩] (w3.drewN n) fun e w' => e = .returned (.tuple #[.string (t.extract b m), .string ⟨y.toArray⟩, .bool (decide (m < t.size))]) ∧ ∃ k, w' = (w3.drewN n).drewN k) := by
          refine hide fun n => ?_
          have := Tryz.strings_Cut (t.extract b t.size) ⟨#[93]⟩ ml (w3.drewN n) (by rw [ByteArray.size_extract]; omega) hml
          rw [show (⟨#[93]⟩ : ByteArray).data.toList = [93] from rfl, hcl] at this
          exact this
        obtain ⟨c0, c1, c2, hfz, hgl⟩ := ps_cells h3
        have f2 := hfz 2
        clear hfz hcl hy
        rw [hm] at hbr2
        replace hm := hide hm
        have hb0 : (0 : Int) ≤ (b : Int) := by omega
        have hb1 : (b : Int) ≤ (t.size : Int) := by omega
        go_wp2
        go_quiet ((go_at_call 51; exact Calls.quiet_of (hcut.out _)))
        have hbd : Below w3.heap.size w3 (w3.drewN nq) := below_drewN (Below.refl _ _) _
        have h4 := h3.later hbd
        have ho4 := Only.later ho3 hbd
        have hS4 := hS3.after hbd
        have d1' := cell_later hbd d1
        have hs4 := hbd.size
        clear c0 c1 c2 f2 d0 d1 h3 ho3 hS3 hml hcut ht3 hbd
        generalize w3.drewN nq = w4 at *
        by_cases hmt2 : m < t.size
        · rw [if_pos hmt2] at hbr2
          rw [decide_eq_true hmt2]
          obtain ⟨z, hz⟩ : ∃ z, t.extract b m = z := ⟨_, rfl⟩
          have hzs : z.size = m - b := by rw [← hz, ByteArray.size_extract]; omega
          rw [hz] at hbr2 ⊢
          replace hz := hide hz
          obtain ⟨c0, c1, c2, hfz, hgl⟩ := ps_cells h4
          have f2 := hfz 2
          have hset := ps_set h4 (m + 1)
          have e1 : IntKind.i64.wrap ((z.size : Int) + 1) = (z.size : Int) + 1 := IntWalk.i64_in _ (by omega)
          have e2 : IntKind.i64.wrap ((b : Int) + ((z.size : Int) + 1)) = (b : Int) + ((z.size : Int) + 1) := IntWalk.i64_in _ (by omega)
          have e3 : (b : Int) + ((z.size : Int) + 1) = ((m + 1 : Nat) : Int) := by omega
          have hzi : z.size ≤ t.size := by omega
          replace hzs := hide hzs
          rw [← e3] at hset
          have hset5 := hide hset
          clear hset e3 hfz hw3 hq
          go_upto_region 9 with fail
          have h5 := hset5.out.1
          have ho5 := ho4.trans hset5.out.2
          have hs5 := ho5.size
          clear c0 c1 c2 f2 hset5 e1 e2 h4 ho4 d1'
          generalize w4.setCell _ _ = w5 at *
          have hS5 : Std w5 := hS.after (Below.trans hbw (Only.below ho5 hg0 (by have := hbw.size; omega)))
          obtain ⟨ml, hml⟩ := hS5.maxLen
          have hsp := Tryz.strings_Split z ⟨#[59]⟩ ml w5 (by omega) hml (by decide)
          obtain ⟨l, hl⟩ : ∃ l, Lib.splitB ⟨#[59]⟩ 0 (Lib.countB z ⟨#[59]⟩) z = l := ⟨_, rfl⟩
          have hlen := splitB_len 59 z
          have hlm : ∀ y ∈ l, y.size ≤ t.size := by
            intro y hy
            rw [← hl] at hy
            have h1 : y.data.toList ∈ splitOn1 59 z.data.toList := by rw [← splitB_one]; exact List.mem_map.2 ⟨y, hy, rfl⟩
            have h2 := (splitOn1_mem 59 _ _ h1).1
            rw [ba_len, ba_len] at h2
            omega
          have hbl : bracketL z = l.map trimB := by unfold bracketL; rw [hl]
          rw [hl] at hsp hlen
          obtain ⟨N, hN⟩ : ∃ N, Lib.countB z ⟨#[59]⟩ + 1 = N := ⟨_, rfl⟩
          have hNz : N ≤ t.size + 1 := by
            have h1 : N = (splitOn1 59 z.data.toList).length := by rw [← hN, ← hlen, ← hl, ← splitB_one, List.length_map]
            have h2 := splitOn1_len 59 z.data.toList
            rw [ba_len] at h2
            omega
          rw [hN] at hsp hlen
          rw [hbl] at hbr2
          replace hl := hide hl
          replace hbl := hide hbl
          replace hlm := hide hlm
          obtain ⟨w6, hw6⟩ : ∃ w6, w5.alloc (.cells (l.map Value.string).toArray 9) = w6 := ⟨_, rfl⟩
          rw [hw6] at hsp
          have hrow : RowS w6 w5.heap.size l := ⟨_, by rw [← hw6]; exact heap_alloc_new _ _, by simp⟩
          have hb6 : Below w5.heap.size w5 w6 := by rw [← hw6]; exact ext_alloc (Below.refl _ _) _
          have h6 := h5.later hb6
          have ho6 := Only.later ho5 hb6
          obtain ⟨L, hL⟩ : ∃ L, w5.heap.size = L := ⟨_, rfl⟩
          rw [hL] at hsp hrow
          have hgL : g < L := by rw [← hL]; exact blk_lt h5
          have hwL : w.heap.size ≤ L := by rw [← hL]; exact ho5.size
          clear hw6 hb6 h5 ho5 hS5 hml
          go_wp2_with fail
          refine hsp.mono ?_
          rintro en w7 ⟨rfl, rfl⟩
          clear hsp
          go_wp2_with fail
          go_loopw [8, 54] (fun _ i wr => ∃ j : Nat, j ≤ N ∧ i = .int .i64 j ∧ RowS wr L (trimTo l j) ∧ PsAt wr g t e (m + 1) ∧ Only g w wr) (fun _ i _ => N - (intOf i).toNat)
          case atStart => exact ⟨0, Nat.zero_le _, rfl, by unfold trimTo; simpa using hrow, h6, ho6⟩
          case round =>
            clear hrow h6 ho6
            obtain ⟨j, hj, rfl, hrow, h6, ho6⟩ := hrel
            by_cases hlt : j < N
            · obtain ⟨y, hy⟩ : ∃ y, l[j]? = some y := ⟨_, List.getElem?_eq_getElem (by omega)⟩
              obtain ⟨q0, q1, q2⟩ := hrow.get (trimTo_get hy)
              have hym := hlm.out y (List.mem_of_getElem? hy)
              have hj0 : (0 : Int) ≤ (j : Int) := by omega
              have hj1 : (j : Int) < (N : Int) := by omega
              have htr := trimSp_walk y wr (by omega)
              have hset : Hid (∀ V : World, Below wr.heap.size wr V → RowS (V.setCell ⟨L, j, none⟩ (.string (trimB y))) L (trimTo l (j + 1)) ∧ PsAt (V.setCell ⟨L, j, none⟩ (.string (trimB y))) g t e (m + 1) ∧ Only g w (V.setCell ⟨L, j, none⟩ (.string (trimB y)))) := by
                refine hide fun V hV => ⟨?_, row_other (h6.later hV) (by omega) _, only_setCell (Only.later ho6 hV) (.inr (by show w.heap.size ≤ L; exact hwL)) _⟩
                have := (hrow.later hV).set (j := j) (trimB y)
                rw [trimTo_set hy] at this
                exact this
              have hfz2 : Hid (∀ V : World, Below wr.heap.size wr V → V.cell? ⟨L, j, none⟩ = some (.string y) ∧ V.frozen? ⟨L, j, none⟩ = false ∧ L < V.heap.size) := hide fun V hV => (hrow.later hV).get (trimTo_get hy)
              clear hrow h6 ho6 hy
              go_wp2_with fail
              refine htr.mono ?_
              rintro en w8 ⟨rfl, hb8⟩
              have hset8 := hide (hset.out w8 hb8)
              obtain ⟨q3, q4, q5⟩ := hfz2.out w8 hb8
              clear htr hset hfz2 q0 q1 q2
              go_wp2
              go_roundw
              case rel => exact ⟨j + 1, by omega, by go_num, hset8.out.1, hset8.out.2.1, hset8.out.2.2⟩
              case measure => simp [intOf]; omega
            · obtain rfl : j = N := by omega
              have hall : trimTo l j = l.map trimB := by unfold trimTo; rw [List.take_of_length_le (by omega), List.drop_eq_nil_of_le (by omega), List.append_nil]
              rw [hall] at hrow
              have hfin : Hid (∃ v, RdG g t e vStrs (bracksP t e a) w (.returned v) wr ∧ v = .slice (some ⟨L, 0, none⟩) j j) := by
                refine hide ⟨_, RdG.ok hbr2 ho6 h6 (by omega) ⟨some ⟨L, 0, none⟩, j, ?_, by rw [List.length_map]; omega, hrow.at hwL⟩, rfl⟩
                rw [List.length_map, hlen]
              clear hrow hall h6 ho6
              go_wp2
              go_ret
              obtain ⟨v, h1, rfl⟩ := hfin.out
              exact h1
        · rw [if_neg hmt2] at hbr2
          rw [decide_eq_false hmt2]
          go_wp2_with (go_at_call 137; refine (sfail_walk _ _ _ _).mono ?_; rintro e w' ⟨rfl, rfl⟩)
          exact ⟨rfl, RdG.err hbr2 ho4⟩
      · have hxs : (x.toList == [91]) = false := by rw [word_is]; exact decide_eq_false hx
        rw [if_neg hx] at hbr2
        replace hx := hide hx
        go_wp2_with (go_at_call 137; refine (sfail_walk _ _ _ _).mono ?_; rintro e w' ⟨rfl, rfl⟩)
        exact ⟨rfl, RdG.err hbr2 ho3⟩
end Go.Proofs.YtdnnahdafhddlaaGreatDoor

namespace Go.Proofs.YtdnnahdafhddlaaGreatDoor
open Go.RowKit
set_option maxRecDepth 100000

/-- What the reference's words of the selections hold. -/
def Lvs (w : World) : Prop := ∃ t r, w.heap[(1 : Nat)]? = some (.cells (selWs.map Value.string).toArray t r)
theorem Lvs.only {w w' : World} {g : Nat} (h : Lvs w) (ho : Only g w w') (hg : 12 ≤ g) : Lvs w' := by obtain ⟨t, r, hr⟩ := h; exact ⟨t, r, (ho.block _ (blk_lt hr) (by intro e; injection e with e; omega)).trans hr⟩
theorem Lvs.alloc {w : World} (h : Lvs w) (o : Obj) : Lvs (w.alloc o) := by obtain ⟨t, r, hr⟩ := h; exact ⟨t, r, (Below.heap_alloc _ _ _ (blk_lt hr)).trans hr⟩
theorem Lvs.cell {w : World} (h : Lvs w) {i : Nat} {x : ByteArray} (hx : selWs[i]? = some x) : w.cell? ⟨1, i, none⟩ = some (.string x) := by
  obtain ⟨t, r, hr⟩ := h
  rw [cell_of_row w _ _ _ _ _ hr]
  simp [hx]
theorem RBad.same {w w' : World} {g e : Nat} {t : ByteArray} {y : Nat × Int} (h : RBad w g t e y) (hg : w'.heap[g]? = w.heap[g]?) : RBad w' g t e y := by obtain ⟨p, x, f, h1, h2⟩ := h; exact ⟨p, x, f, hg.trans h1, h2⟩
theorem RdyAt.same {w w' : World} {g e a : Nat} {t : ByteArray} (h : RdyAt w g t e a) (hg : w'.heap[g]? = w.heap[g]?) : RdyAt w' g t e a := by
  cases hl : lookT t e a with
  | bad b => exact rdy_bad hl ((rdy_is_bad hl h).same hg)
  | tok x p => obtain ⟨h1, h2, h3, h4⟩ := rdy_is_tok hl h; exact rdy_tok hl rfl (hg.trans h1) h2 h4
/-- The result's cells are written: all else stays as it is. -/
theorem rsel_done {w we : World} {g r B : Nat} {u0 u1 u2 : Value} {s : Sel} {k : Int} {n : ByteArray} {A : Option Addr} {m c : Nat} (hor : Only g w we) (hr : w.heap.size = r) (hgr : g < r) (hrB : r < B)
    (hrw : we.heap[r]? = some (.cells #[u0, u1, u2] 40 (0, 0))) (hrep : kSel.rep (fun b => B ≤ b) we s [.int .i64 k, .string n, .slice A m c]) :
    (((we.setCell ⟨r, 0, none⟩ (.int .i64 k)).setCell ⟨r, 1, none⟩ (.string n)).setCell ⟨r, 2, none⟩ (.slice A m c)).heap[r]? = some (.cells #[.int .i64 k, .string n, .slice A m c] 40 (0, 0)) ∧
      (((we.setCell ⟨r, 0, none⟩ (.int .i64 k)).setCell ⟨r, 1, none⟩ (.string n)).setCell ⟨r, 2, none⟩ (.slice A m c)).heap[g]? = we.heap[g]? ∧
      Only g w (((we.setCell ⟨r, 0, none⟩ (.int .i64 k)).setCell ⟨r, 1, none⟩ (.string n)).setCell ⟨r, 2, none⟩ (.slice A m c)) ∧
      vSel w (((we.setCell ⟨r, 0, none⟩ (.int .i64 k)).setCell ⟨r, 1, none⟩ (.string n)).setCell ⟨r, 2, none⟩ (.slice A m c)) s (.agg #[.int .i64 k, .string n, .slice A m c]) := by
  refine ⟨sel_set hrw _ _ _, ?_⟩
  have h1 : Only g w (we.setCell ⟨r, 0, none⟩ (.int .i64 k)) := only_setCell hor (.inr (Nat.le_of_eq hr)) _
  have h2 : Only g w ((we.setCell ⟨r, 0, none⟩ (.int .i64 k)).setCell ⟨r, 1, none⟩ (.string n)) := only_setCell h1 (.inr (Nat.le_of_eq hr)) _
  have h3 : Only g w (((we.setCell ⟨r, 0, none⟩ (.int .i64 k)).setCell ⟨r, 1, none⟩ (.string n)).setCell ⟨r, 2, none⟩ (.slice A m c)) := only_setCell h2 (.inr (Nat.le_of_eq hr)) _
  have hsz : (((we.setCell ⟨r, 0, none⟩ (.int .i64 k)).setCell ⟨r, 1, none⟩ (.string n)).setCell ⟨r, 2, none⟩ (.slice A m c)).heap.size = we.heap.size := by simp [World.setCell]
  have hblk : ∀ b, b ≠ r → (((we.setCell ⟨r, 0, none⟩ (.int .i64 k)).setCell ⟨r, 1, none⟩ (.string n)).setCell ⟨r, 2, none⟩ (.slice A m c)).heap[b]? = we.heap[b]? := fun b hne =>
    (Below.heap_setCell _ ⟨r, 2, none⟩ _ b hne).trans ((Below.heap_setCell _ ⟨r, 1, none⟩ _ b hne).trans (Below.heap_setCell _ ⟨r, 0, none⟩ _ b hne))
  exact ⟨hblk g (by omega), h3, k, n, A, m, c, rfl, kSel.kept hrep fun b hs hlt => ⟨by omega, by rw [hsz]; exact hlt, hblk b (by omega)⟩⟩
def lenS : Value → Nat
  | .slice _ n _ => n
  | _ => 0
theorem serP_tie {t : ByteArray} {e : Nat} {pp : Nat → Res Sel} {k : ByteArray} {kind : Int} {a : Nat} : (match pp a with | .error y => .error y | .ok (s, c) => moreP t e pp k kind (t.size + 1) ([] ++ [s]) c) = serP t e pp k kind a := rfl
/-- What the atoms' reader of the reference does, as far as a line goes. -/
def AtomRAt (f : Nat) : Prop := ∀ (g : Nat) (t : ByteArray) (e a : Nat) (w : World), RdyAt w g t e a → a ≤ t.size → t.size + e < 1073741824 → 12 ≤ g → Lvs w → t.size - a < f →
  Calls Tryz.prog 192 #[.pointer (some ⟨g, 0, none⟩)] w fun en w' => RmG g t e vSel (atomP codeB selWs t e f a) w en w'
/-- A reader of selections that finds an error noted returns something. -/
def IdleG (g : Nat) (t : ByteArray) (e : Nat) (y : Nat × Int) (w : World) (en : Ending) (w' : World) : Prop := Only g w w' ∧ RBad w' g t e y ∧ ∃ s v, vSel w w' s v ∧ en = .returned v
set_option maxHeartbeats 2000000 in
theorem ratom_bad (g : Nat) (t : ByteArray) (e : Nat) (y : Nat × Int) (w : World) (h : RBad w g t e y) :
    Calls Tryz.prog 192 #[.pointer (some ⟨g, 0, none⟩)] w fun en w' => IdleG g t e y w en w' := by
  obtain ⟨W, hW⟩ : ∃ W, w.alloc (.cells #[.int .i64 0, .string ⟨#[]⟩, .slice none 0 0] 40) = W := ⟨_, rfl⟩
  obtain ⟨r, hr⟩ : ∃ r, w.heap.size = r := ⟨_, rfl⟩
  have hgr := h.lt
  have hb1 : Below w.heap.size w W := by rw [← hW]; exact ext_alloc (Below.refl _ _) _
  have h1 := h.later hb1
  have ho1 : Only g w W := only_of_below hb1 _
  have hr1 : W.heap[r]? = some (.cells #[.int .i64 0, .string ⟨#[]⟩, .slice none 0 0] 40 (0, 0)) := by rw [← hW, ← hr]; exact heap_alloc_new _ _
  have hrep : kSel.rep (fun b => r + 1 ≤ b) W (.mk 0 ⟨#[]⟩ []) [.int .i64 0, .string ⟨#[]⟩, .slice none 0 0] := rep_sel.2 ⟨none, 0, rfl, Nat.le_refl _, fun h => absurd h (Nat.lt_irrefl 0)⟩
  rw [hr] at hgr
  obtain ⟨z0, zg, zo, zv⟩ := rsel_done ho1 hr hgr (Nat.lt_succ_self r) hr1 hrep
  have hdone := hide (show IdleG g t e y w (.returned _) _ from ⟨zo, h1.same zg, _, _, zv, rfl⟩)
  obtain ⟨z1, z2, z3, -⟩ := sel_cells z0
  obtain ⟨y0, y1, y2, hfr⟩ := sel_cells hr1
  have fr0 := hfr 0
  have fr1 := hfr 1
  have fr2 := hfr 2
  have hrl := blk_lt hr1
  obtain ⟨p, x, f, hrr, h0, -⟩ := h1
  have hg := rgood_walk g t e p x f _ _ W hrr
  rw [show (y.2 == 0) = false from by rw [beq_eq_false_iff_ne]; exact h0] at hg
  clear hfr z0 zg zo zv hrep hr1 hrr h0 h ho1 hb1
  go_enter Tryz.func192, Tryz.ntmps192
  go_wp2_with (go_at_call 100; refine hg.mono ?_; rintro en w' ⟨rfl, rfl⟩)
  exact end_sel rfl r _ _ _ rfl rfl z1 z2 z3 hdone.out
-- <list>
set_option maxHeartbeats 4000000 in
theorem rlistA_bad (g : Nat) (t : ByteArray) (e : Nat) (y : Nat × Int) (w : World) (h : RBad w g t e y) :
    Calls Tryz.prog 153 #[.pointer (some ⟨g, 0, none⟩), .int .i64 8] w fun en w' => IdleG g t e y w en w' := by
  have hgr := h.lt
  obtain ⟨W, hW⟩ : ∃ W, w.alloc (.cells #[.int .i64 0, .string ⟨#[]⟩, .slice none 0 0] 40) = W := ⟨_, rfl⟩
  obtain ⟨r, hr⟩ : ∃ r, w.heap.size = r := ⟨_, rfl⟩
  have hb1 : Below w.heap.size w W := by rw [← hW]; exact ext_alloc (Below.refl _ _) _
  have h1 := h.later hb1
  have ho1 : Only g w W := only_of_below hb1 _
  have hr1 : W.heap[r]? = some (.cells #[.int .i64 0, .string ⟨#[]⟩, .slice none 0 0] 40 (0, 0)) := by rw [← hW, ← hr]; exact heap_alloc_new _ _
  have hpart := ratom_bad g t e y W h1
  obtain ⟨B, hB⟩ : ∃ B, W.heap.size = B := ⟨_, rfl⟩
  have hrB : r < B := by rw [← hB]; exact blk_lt hr1
  rw [hr] at hgr
  obtain ⟨l, hl⟩ : ∃ l : List Sel, l = [] := ⟨_, rfl⟩
  clear hb1 h h1
  go_enter Tryz.func153, Tryz.ntmps153
  go_wp2_with fail
  replace hB := hide hB
  replace hW := hide hW
  replace hr := hide hr
  go_loopw [5] (fun v wr => v = .slice none 0 0 ∧ wr = W) (fun _ _ => 0)
  case atStart => exact ⟨rfl, rfl⟩
  case round =>
    obtain ⟨rfl, rfl⟩ := hrel
    go_wp2_with fail
    refine hpart.mono ?_
    rintro en w3 ⟨ho6, hstate, s, v, ⟨k1, n1, A1, m1, c1, rfl, hrep⟩, rfl⟩
    have ho3 : Only g wr wr := Only.refl _ _
    have hown : OwnS B wr (.slice none 0 0) l := by subst hl; exact OwnS.nil
    have hl0 : l.length ≤ 5 := by subst hl; exact Nat.zero_le _
    clear hl
    obtain ⟨u5, hu5⟩ : ∃ u5, Value.slice none 0 0 = u5 := ⟨_, rfl⟩
    rw [hu5] at hown ⊢
    replace hu5 := hide hu5
    (
                have hlt4 := hown.lt
                have hgB : g < B := by omega
                have hown7 := hown.only ho6 hgB
                have hszB : B ≤ wr.heap.size := by have q1 := ho3.size; have q2 := hB.out; omega
                have hrep7 : kSel.rep (fun b => B ≤ b ∧ some b ≠ u5.ownBlock) w3 s [.int .i64 k1, .string n1, .slice A1 m1 c1] := kSel.more hrep fun b hb => ⟨Nat.le_trans hszB hb, fun e => by have := (hlt4 b e.symm).2; omega⟩
                have hb8 : Below w3.heap.size w3 (w3.alloc (.cells #[.int .i64 k1, .string n1, .slice A1 m1 c1] 40)) := ext_alloc (Below.refl _ _) _
                have ho8 := Only.later (ho3.trans ho6) hb8
                have hown8 := hown7.later hb8
                have hrep8 := kSel.later hrep7 hb8
                have hl4 : l.length ≤ 4000000000 := by omega
                have hB8 : B ≤ (w3.alloc (.cells #[.int .i64 k1, .string n1, .slice A1 m1 c1] 40)).heap.size := by
                  have h1 := (ho3.trans ho6).size
                  have h2 := hB.out
                  rw [World.size_alloc]; omega
                have h8 := hstate.later hb8
                clear hrep hrep7 hown7 hown hstate ho6
                replace h8 := hide h8
                replace ho8 := hide ho8
                go_wp2_with (at_builtin; refine wpList_ownS rfl _ _ rfl rfl hown8 hl4 ⟨w3.heap.size, 0, none⟩ 1 rfl s [.int .i64 k1, .string n1, .slice A1 m1 c1] hrep8 (World.news_of_block (cs := #[.int .i64 k1, .string n1, .slice A1 m1 c1]) (t := 40) (fr := (0, 0)) (heap_alloc_new _ _)) hB8 ?_; rintro v' w9 hown9 hg9 ⟨g9, cap9, rfl⟩)
                have hg10 : World.grownBy _ w9 u5.ownBlock := hg9
                have hrow10 : ∀ y, u5.ownBlock = some y → g < y := fun y hy => Nat.lt_of_lt_of_le hgB (hlt4 y hy).1
                have h10 := h8.out.grown hg10 hrow10
                have ho10 := only_grown ho8.out hg10 (fun y hy => by rw [hB.out]; exact (hlt4 y hy).1)
                have hor9 := ho1.trans ho10
                have hr9 : w9.heap[r]? = _ := (ho10.block r (blk_lt hr1) (by intro e; injection e with e; omega)).trans hr1
                clear hg9 hg10 h8 ho8 hown8 hrep8 hB8 hb8 hrow10)
    have hfin : Hid (∀ W' v, W'.heap[g]? = w9.heap[g]? → Only g w W' → vSel w W' (oneOf 8 (l ++ [s])) v → IdleG g t e y w (.returned v) W') := hide fun W' v q1 q2 q3 => ⟨q2, h10.same q1, _, _, q3, rfl⟩
    obtain ⟨p, x, f, hrr, h0, -⟩ := id h10
    have hg := rgood_walk g t e p x f _ _ w9 hrr
    rw [show (y.2 == 0) = false from by rw [beq_eq_false_iff_ne]; exact h0] at hg
    clear hrr h0 h10
    go_upto_region 10 with (go_at_call 100; refine hg.mono ?_; rintro en w' ⟨rfl, rfl⟩)
    (
          obtain ⟨A9, c9, he9, hc9, hA9⟩ := hown9.at
          obtain ⟨M, hM⟩ : ∃ M, l.length + 1 = M := ⟨_, rfl⟩
          have hM2 : (l ++ [s]).length = M := by rw [← hM, List.length_append]; rfl
          rw [hM2, hM] at he9
          rw [hM2] at hc9
          injection he9 with he1 _ he3
          subst he1
          subst he3
          obtain ⟨y0, y1, y2, hfr⟩ := sel_cells hr9
          have fr0 := hfr 0
          have fr1 := hfr 1
          have fr2 := hfr 2
          have hrl9 := blk_lt hr9
          rw [hM]
          clear hfr
          by_cases hM1 : M = 1
          · subst hM1
            obtain rfl : l = [] := List.eq_nil_of_length_eq_zero (by omega)
            obtain ⟨b9, off, vs, he, hb9, hbl9, hrep, hcs⟩ := hA9.get (j := 0) rfl
            injection he with he
            injection he with he1 he2
            subst he1
            subst he2
            obtain ⟨k9, n9, A8, m8, c8, rfl⟩ := SelRep.form hrep
            have q0 := hcs 0 _ rfl
            have q1 := hcs 1 _ rfl
            have q2 := hcs 2 _ rfl
            have hne : g9 ≠ r := by omega
            simp only [Nat.zero_mul, Nat.add_zero, Nat.zero_add] at q0 q1 q2
            obtain ⟨z0, zg, zo, zv⟩ := rsel_done hor9 hr.out hgr hrB hr9 hrep
            have hdone := hide (hfin.out _ _ zg zo zv)
            obtain ⟨z1, z2, z3, -⟩ := sel_cells z0
            clear hcs hrep z0 zg zo zv hown9 hA9 hr9 hfin hM2 hM
            go_wp2
            exact end_sel rfl r _ _ _ rfl rfl z1 z2 z3 hdone.out
          · have hrep : kSel.rep (fun b => B ≤ b) w9 (oneOf 8 (l ++ [s])) [.int .i64 8, .string ⟨#[]⟩, .slice (some ⟨g9, 0, none⟩) M cap9] := by
              have e1 : oneOf 8 (l ++ [s]) = .mk 8 ⟨#[]⟩ (l ++ [s]) := by
                match l, hM, hM1 with
                | [], hM, hM1 => exact absurd hM.symm hM1
                | x :: r, _, _ => cases r <;> rfl
              rw [e1]
              exact rep_sel.2 ⟨_, _, by rw [hM2], by rw [hM2]; exact hc9, hA9⟩
            obtain ⟨z0, zg, zo, zv⟩ := rsel_done hor9 hr.out hgr hrB hr9 hrep
            have hdone := hide (hfin.out _ _ zg zo zv)
            obtain ⟨z1, z2, z3, -⟩ := sel_cells z0
            have hm1 : ((M : Int) == 1) = false := by rw [beq_eq_false_iff_ne]; omega
            clear hrep z0 zg zo zv hown9 hA9 hr9 hfin hM2 hM hM1
            go_wp2
            exact end_sel rfl r _ _ _ rfl rfl z1 z2 z3 hdone.out)

set_option maxHeartbeats 8000000 in
theorem rlistA_walk (n0 : Nat) (hA : AtomRAt n0) (g : Nat) (t : ByteArray) (e a : Nat) (w : World) (h : RdyAt w g t e a) (ha : a ≤ t.size) (hs : t.size + e < 1073741824) (hgN : 12 ≤ g) (hL : Lvs w) (hf : t.size - a < n0) :
    Calls Tryz.prog 153 #[.pointer (some ⟨g, 0, none⟩), .int .i64 8] w fun en w' => RmG g t e vSel (serP t e (atomP codeB selWs t e n0) xAnd 8 a) w en w' := by
  have hpart := hide (fun (V : World) (b : Nat) (hV : RdyAt V g t e b) (hab : a ≤ b) (hb : b ≤ t.size) (hLV : Lvs V) => hA g t e b V hV hb hs hgN hLV (by omega))
  have hmono := hide (atomP_le n0 (ok := codeB) (ws := selWs) (t := t) (e := e))
  obtain ⟨pp, hpp⟩ : ∃ pp, atomP codeB selWs t e n0 = pp := ⟨_, rfl⟩
  rw [hpp] at hpart hmono ⊢
  have hgr := h.lt
  obtain ⟨W, hW⟩ : ∃ W, w.alloc (.cells #[.int .i64 0, .string ⟨#[]⟩, .slice none 0 0] 40) = W := ⟨_, rfl⟩
  obtain ⟨r, hr⟩ : ∃ r, w.heap.size = r := ⟨_, rfl⟩
  have hb1 : Below w.heap.size w W := by rw [← hW]; exact ext_alloc (Below.refl _ _) _
  have h1 := h.later hb1
  have hL1 : Lvs W := by rw [← hW]; exact hL.alloc _
  have ho1 : Only g w W := only_of_below hb1 _
  have hr1 : W.heap[r]? = some (.cells #[.int .i64 0, .string ⟨#[]⟩, .slice none 0 0] 40 (0, 0)) := by rw [← hW, ← hr]; exact heap_alloc_new _ _
  obtain ⟨B, hB⟩ : ∃ B, W.heap.size = B := ⟨_, rfl⟩
  have hrB : r < B := by rw [← hB]; exact blk_lt hr1
  rw [hr] at hgr
  clear hb1 h hA hpp
  go_enter Tryz.func153, Tryz.ntmps153
  go_wp2_with fail
  replace hB := hide hB
  replace hW := hide hW
  replace hr := hide hr
  go_loopw [5] (fun v wr => ∃ (l : List Sel) (b n : Nat), OwnS B wr v l ∧ RdyAt wr g t e b ∧ Only g W wr ∧ b ≤ t.size ∧ a ≤ b ∧ l.length ≤ b ∧ t.size - b < n ∧ Hid ((match pp b with | .error y => .error y | .ok (s, c) => moreP t e pp xAnd 8 n (l ++ [s]) c) = serP t e pp xAnd 8 a)) (fun v _ => t.size + 1 - lenS v)
  case atStart => exact ⟨[], a, t.size + 1, OwnS.nil, h1, Only.refl _ _, ha, Nat.le_refl _, Nat.zero_le _, by omega, hide serP_tie⟩
  case round =>
    clear h1
    obtain ⟨l, b, n, hown, h3, ho3, hbl, hab, hll, hn, hR⟩ := hrel
    have h4 := hpart.out wr b h3 hab hbl (hL1.only ho3 hgN)
    go_wp2_with fail
    refine h4.mono ?_
    rintro en w3 ⟨ho6, hm⟩
    clear h4
    cases hp : pp b with
    | error y =>
      rw [hp] at hm
      obtain ⟨hstate, s, v, ⟨k1, n1, A1, m1, c1, rfl, hrep⟩, rfl⟩ := hm
      have hR2 : Hid (serP t e pp xAnd 8 a = .error y) := by rw [hp] at hR; exact hide hR.out.symm
      clear hR hp h3
      (
                  have hlt4 := hown.lt
                  have hgB : g < B := by omega
                  have hown7 := hown.only ho6 hgB
                  have hszB : B ≤ wr.heap.size := by have q1 := ho3.size; have q2 := hB.out; omega
                  have hrep7 : kSel.rep (fun b => B ≤ b ∧ some b ≠ u5.ownBlock) w3 s [.int .i64 k1, .string n1, .slice A1 m1 c1] := kSel.more hrep fun b hb => ⟨Nat.le_trans hszB hb, fun e => by have := (hlt4 b e.symm).2; omega⟩
                  have hb8 : Below w3.heap.size w3 (w3.alloc (.cells #[.int .i64 k1, .string n1, .slice A1 m1 c1] 40)) := ext_alloc (Below.refl _ _) _
                  have ho8 := Only.later (ho3.trans ho6) hb8
                  have hown8 := hown7.later hb8
                  have hrep8 := kSel.later hrep7 hb8
                  have hl4 : l.length ≤ 4000000000 := by omega
                  have hB8 : B ≤ (w3.alloc (.cells #[.int .i64 k1, .string n1, .slice A1 m1 c1] 40)).heap.size := by
                    have h1 := (ho3.trans ho6).size
                    have h2 := hB.out
                    rw [World.size_alloc]; omega
                  have h8 := hstate.later hb8
                  clear hrep hrep7 hown7 hown hstate ho6
                  replace h8 := hide h8
                  replace ho8 := hide ho8
                  go_wp2_with (at_builtin; refine wpList_ownS rfl _ _ rfl rfl hown8 hl4 ⟨w3.heap.size, 0, none⟩ 1 rfl s [.int .i64 k1, .string n1, .slice A1 m1 c1] hrep8 (World.news_of_block (cs := #[.int .i64 k1, .string n1, .slice A1 m1 c1]) (t := 40) (fr := (0, 0)) (heap_alloc_new _ _)) hB8 ?_; rintro v' w9 hown9 hg9 ⟨g9, cap9, rfl⟩)
                  have hg10 : World.grownBy _ w9 u5.ownBlock := hg9
                  have hrow10 : ∀ y, u5.ownBlock = some y → g < y := fun y hy => Nat.lt_of_lt_of_le hgB (hlt4 y hy).1
                  have h10 := h8.out.grown hg10 hrow10
                  have ho10 := only_grown ho8.out hg10 (fun y hy => by rw [hB.out]; exact (hlt4 y hy).1)
                  have hor9 := ho1.trans ho10
                  have hr9 : w9.heap[r]? = _ := (ho10.block r (blk_lt hr1) (by intro e; injection e with e; omega)).trans hr1
                  clear hg9 hg10 h8 ho8 hown8 hrep8 hB8 hb8 hrow10)
      have hfin : Hid (∀ W' v, W'.heap[g]? = w9.heap[g]? → Only g w W' → vSel w W' (oneOf 8 (l ++ [s])) v → RmG g t e vSel (serP t e pp xAnd 8 a) w (.returned v) W') := hide fun W' v q1 q2 q3 => RmG.err hR2.out q2 (h10.same q1) q3
      obtain ⟨p, x, f, hrr, h0, -⟩ := id h10
      have hg := rgood_walk g t e p x f _ _ w9 hrr
      rw [show (y.2 == 0) = false from by rw [beq_eq_false_iff_ne]; exact h0] at hg
      clear hrr h0 h10 hR2
      go_upto_region 10 with (go_at_call 100; refine hg.mono ?_; rintro en w' ⟨rfl, rfl⟩)
      (
            obtain ⟨A9, c9, he9, hc9, hA9⟩ := hown9.at
            obtain ⟨M, hM⟩ : ∃ M, l.length + 1 = M := ⟨_, rfl⟩
            have hM2 : (l ++ [s]).length = M := by rw [← hM, List.length_append]; rfl
            rw [hM2, hM] at he9
            rw [hM2] at hc9
            injection he9 with he1 _ he3
            subst he1
            subst he3
            obtain ⟨y0, y1, y2, hfr⟩ := sel_cells hr9
            have fr0 := hfr 0
            have fr1 := hfr 1
            have fr2 := hfr 2
            have hrl9 := blk_lt hr9
            rw [hM]
            clear hfr
            by_cases hM1 : M = 1
            · subst hM1
              obtain rfl : l = [] := List.eq_nil_of_length_eq_zero (by omega)
              obtain ⟨b9, off, vs, he, hb9, hbl9, hrep, hcs⟩ := hA9.get (j := 0) rfl
              injection he with he
              injection he with he1 he2
              subst he1
              subst he2
              obtain ⟨k9, n9, A8, m8, c8, rfl⟩ := SelRep.form hrep
              have q0 := hcs 0 _ rfl
              have q1 := hcs 1 _ rfl
              have q2 := hcs 2 _ rfl
              have hne : g9 ≠ r := by omega
              simp only [Nat.zero_mul, Nat.add_zero, Nat.zero_add] at q0 q1 q2
              obtain ⟨z0, zg, zo, zv⟩ := rsel_done hor9 hr.out hgr hrB hr9 hrep
              have hdone := hide (hfin.out _ _ zg zo zv)
              obtain ⟨z1, z2, z3, -⟩ := sel_cells z0
              clear hcs hrep z0 zg zo zv hown9 hA9 hr9 hfin hM2 hM
              go_wp2
              exact end_sel rfl r _ _ _ rfl rfl z1 z2 z3 hdone.out
            · have hrep : kSel.rep (fun b => B ≤ b) w9 (oneOf 8 (l ++ [s])) [.int .i64 8, .string ⟨#[]⟩, .slice (some ⟨g9, 0, none⟩) M cap9] := by
                have e1 : oneOf 8 (l ++ [s]) = .mk 8 ⟨#[]⟩ (l ++ [s]) := by
                  match l, hM, hM1 with
                  | [], hM, hM1 => exact absurd hM.symm hM1
                  | x :: r, _, _ => cases r <;> rfl
                rw [e1]
                exact rep_sel.2 ⟨_, _, by rw [hM2], by rw [hM2]; exact hc9, hA9⟩
              obtain ⟨z0, zg, zo, zv⟩ := rsel_done hor9 hr.out hgr hrB hr9 hrep
              have hdone := hide (hfin.out _ _ zg zo zv)
              obtain ⟨z1, z2, z3, -⟩ := sel_cells z0
              have hm1 : ((M : Int) == 1) = false := by rw [beq_eq_false_iff_ne]; omega
              clear hrep z0 zg zo zv hown9 hA9 hr9 hfin hM2 hM hM1
              go_wp2
              exact end_sel rfl r _ _ _ rfl rfl z1 z2 z3 hdone.out)
    | ok z =>
      obtain ⟨s, c⟩ := z
      rw [hp] at hm
      obtain ⟨hstate, hcl, v, ⟨k1, n1, A1, m1, c1, rfl, hrep⟩, rfl⟩ := hm
      have hbc := hmono.out _ _ _ hp
      obtain ⟨n, rfl⟩ : ∃ m, n = m + 1 := ⟨n - 1, by omega⟩
      have hR2 : Hid (serP t e pp xAnd 8 a = moreP t e pp xAnd 8 (n + 1) (l ++ [s]) c) := by rw [hp] at hR; exact hide hR.out.symm
      have hlw : Hid (lenS u5 = l.length) := hide (by obtain ⟨A5, c5, h5⟩ := hown.form; rw [h5]; rfl)
      clear hR hp h3
      (
                  have hlt4 := hown.lt
                  have hgB : g < B := by omega
                  have hown7 := hown.only ho6 hgB
                  have hszB : B ≤ wr.heap.size := by have q1 := ho3.size; have q2 := hB.out; omega
                  have hrep7 : kSel.rep (fun b => B ≤ b ∧ some b ≠ u5.ownBlock) w3 s [.int .i64 k1, .string n1, .slice A1 m1 c1] := kSel.more hrep fun b hb => ⟨Nat.le_trans hszB hb, fun e => by have := (hlt4 b e.symm).2; omega⟩
                  have hb8 : Below w3.heap.size w3 (w3.alloc (.cells #[.int .i64 k1, .string n1, .slice A1 m1 c1] 40)) := ext_alloc (Below.refl _ _) _
                  have ho8 := Only.later (ho3.trans ho6) hb8
                  have hown8 := hown7.later hb8
                  have hrep8 := kSel.later hrep7 hb8
                  have hl4 : l.length ≤ 4000000000 := by omega
                  have hB8 : B ≤ (w3.alloc (.cells #[.int .i64 k1, .string n1, .slice A1 m1 c1] 40)).heap.size := by
                    have h1 := (ho3.trans ho6).size
                    have h2 := hB.out
                    rw [World.size_alloc]; omega
                  have h8 := hstate.later hb8
                  clear hrep hrep7 hown7 hown hstate ho6
                  replace h8 := hide h8
                  replace ho8 := hide ho8
                  go_wp2_with (at_builtin; refine wpList_ownS rfl _ _ rfl rfl hown8 hl4 ⟨w3.heap.size, 0, none⟩ 1 rfl s [.int .i64 k1, .string n1, .slice A1 m1 c1] hrep8 (World.news_of_block (cs := #[.int .i64 k1, .string n1, .slice A1 m1 c1]) (t := 40) (fr := (0, 0)) (heap_alloc_new _ _)) hB8 ?_; rintro v' w9 hown9 hg9 ⟨g9, cap9, rfl⟩)
                  have hg10 : World.grownBy _ w9 u5.ownBlock := hg9
                  have hrow10 : ∀ y, u5.ownBlock = some y → g < y := fun y hy => Nat.lt_of_lt_of_le hgB (hlt4 y hy).1
                  have h10 := h8.out.grown hg10 hrow10
                  have ho10 := only_grown ho8.out hg10 (fun y hy => by rw [hB.out]; exact (hlt4 y hy).1)
                  have hor9 := ho1.trans ho10
                  have hr9 : w9.heap[r]? = _ := (ho10.block r (blk_lt hr1) (by intro e; injection e with e; omega)).trans hr1
                  clear hg9 hg10 h8 ho8 hown8 hrep8 hB8 hb8 hrow10)
      cases hl : lookT t e c with
      | bad b' =>
        have hz : Hid (serP t e pp xAnd 8 a = .error (b', 5)) := hide (hR2.out.trans (moreP_bad hl))
        have hbd := rdy_is_bad hl h10
        have hfin : Hid (∀ W' v, W'.heap[g]? = w9.heap[g]? → Only g w W' → vSel w W' (oneOf 8 (l ++ [s])) v → RmG g t e vSel (serP t e pp xAnd 8 a) w (.returned v) W') := hide fun W' v q1 q2 q3 => RmG.err hz.out q2 (hbd.same q1) q3
        obtain ⟨p, x, f, hrr, h0, -⟩ := id hbd
        have hg := rgood_walk g t e p x f _ _ w9 hrr
        rw [show ((((b', (5 : Int)) : Nat × Int).2) == 0) = false from rfl] at hg
        clear hrr h0 h10 hR2 hbd hl hz hlw
        go_upto_region 10 with (go_at_call 100; refine hg.mono ?_; rintro en w' ⟨rfl, rfl⟩)
        (
              obtain ⟨A9, c9, he9, hc9, hA9⟩ := hown9.at
              obtain ⟨M, hM⟩ : ∃ M, l.length + 1 = M := ⟨_, rfl⟩
              have hM2 : (l ++ [s]).length = M := by rw [← hM, List.length_append]; rfl
              rw [hM2, hM] at he9
              rw [hM2] at hc9
              injection he9 with he1 _ he3
              subst he1
              subst he3
              obtain ⟨y0, y1, y2, hfr⟩ := sel_cells hr9
              have fr0 := hfr 0
              have fr1 := hfr 1
              have fr2 := hfr 2
              have hrl9 := blk_lt hr9
              rw [hM]
              clear hfr
              by_cases hM1 : M = 1
              · subst hM1
                obtain rfl : l = [] := List.eq_nil_of_length_eq_zero (by omega)
                obtain ⟨b9, off, vs, he, hb9, hbl9, hrep, hcs⟩ := hA9.get (j := 0) rfl
                injection he with he
                injection he with he1 he2
                subst he1
                subst he2
                obtain ⟨k9, n9, A8, m8, c8, rfl⟩ := SelRep.form hrep
                have q0 := hcs 0 _ rfl
                have q1 := hcs 1 _ rfl
                have q2 := hcs 2 _ rfl
                have hne : g9 ≠ r := by omega
                simp only [Nat.zero_mul, Nat.add_zero, Nat.zero_add] at q0 q1 q2
                obtain ⟨z0, zg, zo, zv⟩ := rsel_done hor9 hr.out hgr hrB hr9 hrep
                have hdone := hide (hfin.out _ _ zg zo zv)
                obtain ⟨z1, z2, z3, -⟩ := sel_cells z0
                clear hcs hrep z0 zg zo zv hown9 hA9 hr9 hfin hM2 hM
                go_wp2
                exact end_sel rfl r _ _ _ rfl rfl z1 z2 z3 hdone.out
              · have hrep : kSel.rep (fun b => B ≤ b) w9 (oneOf 8 (l ++ [s])) [.int .i64 8, .string ⟨#[]⟩, .slice (some ⟨g9, 0, none⟩) M cap9] := by
                  have e1 : oneOf 8 (l ++ [s]) = .mk 8 ⟨#[]⟩ (l ++ [s]) := by
                    match l, hM, hM1 with
                    | [], hM, hM1 => exact absurd hM.symm hM1
                    | x :: r, _, _ => cases r <;> rfl
                  rw [e1]
                  exact rep_sel.2 ⟨_, _, by rw [hM2], by rw [hM2]; exact hc9, hA9⟩
                obtain ⟨z0, zg, zo, zv⟩ := rsel_done hor9 hr.out hgr hrB hr9 hrep
                have hdone := hide (hfin.out _ _ zg zo zv)
                obtain ⟨z1, z2, z3, -⟩ := sel_cells z0
                have hm1 : ((M : Int) == 1) = false := by rw [beq_eq_false_iff_ne]; omega
                clear hrep z0 zg zo zv hown9 hA9 hr9 hfin hM2 hM hM1
                go_wp2
                exact end_sel rfl r _ _ _ rfl rfl z1 z2 z3 hdone.out)
      | tok x p =>
        obtain ⟨hrr, q1, q2, q3⟩ := rdy_is_tok hl h10
        have hg := rgood_walk g t e _ x p _ _ w9 hrr
        rw [show ((0 : Int) == 0) = true from rfl] at hg
        obtain ⟨c0, c1, c2, c3, c4, c8, hf9, hgl9⟩ := rr_cells hrr
        clear hf9 c0 c1 c2 c4 c8
        by_cases hx : x = xAnd
        · have hxk : (x.toList == [97, 110, 100]) = true := by rw [word_is]; exact decide_eq_true hx
          obtain ⟨b', hb'⟩ : ∃ b', startT t c + x.size = b' := ⟨_, rfl⟩
          have hsz : x.size = (xAnd).size := by rw [hx]
          have hk0 : 0 < (xAnd).size := by decide
          have hpa := look_pass hl
          have hR3 : Hid ((match pp b' with | .error y => .error y | .ok (s', c') => moreP t e pp xAnd 8 n ((l ++ [s]) ++ [s']) c') = serP t e pp xAnd 8 a) := by
            rw [hx] at hl
            refine hide (Eq.symm (hR2.out.trans ((moreP_yes hl).trans ?_)))
            rw [← hb', hsz]
            cases pp (startT t c + (xAnd).size) <;> rfl
          rw [hb'] at hrr q1
          have hnx := rnext_walk g t e b' x p w9 hrr q1 hs
          clear hrr h10 hR2 hl hr9 hor9
          replace hx := hide hx
          go_wp2_with (go_at_call 100; refine hg.mono ?_; rintro en w' ⟨rfl, rfl⟩)
          refine hnx.mono ?_
          rintro en w10 ⟨rfl, ho11, h11⟩
          have hown11 := hown9.only ho11 hgB
          have ho12 := ho10.trans ho11
          clear hnx hg c3 hown9
          go_wp2
          go_roundw
          case rel => exact ⟨l ++ [s], b', n, hown11, h11, ho12, q1, by omega, by rw [List.length_append]; show l.length + 1 ≤ b'; omega, by omega, hR3⟩
          case measure =>
            rw [hlw.out]
            show t.size + 1 - (l.length + 1) < t.size + 1 - l.length
            omega
        · have hxk : (x.toList == [97, 110, 100]) = false := by rw [word_is]; exact decide_eq_false hx
          have hz : Hid (serP t e pp xAnd 8 a = .ok (oneOf 8 (l ++ [s]), startT t c)) := hide (hR2.out.trans (moreP_no hl hx))
          have hst : startT t c ≤ t.size := passT_in blankC t hcl
          have hrd : RdyAt w9 g t e (startT t c) := rdy_tok (by rw [lookT_start]; exact hl) (by rw [startT_twice]) hrr q1 q3
          have hfin : Hid (∀ W' v, W'.heap[g]? = w9.heap[g]? → Only g w W' → vSel w W' (oneOf 8 (l ++ [s])) v → RmG g t e vSel (serP t e pp xAnd 8 a) w (.returned v) W') := hide fun W' v q1 q2 q3 => RmG.ok hz.out q2 (hrd.same q1) hst q3
          clear hrr h10 hR2 hl hz hrd hlw
          replace hx := hide hx
          go_upto_region 10 with (go_at_call 100; refine hg.mono ?_; rintro en w' ⟨rfl, rfl⟩)
          (
                obtain ⟨A9, c9, he9, hc9, hA9⟩ := hown9.at
                obtain ⟨M, hM⟩ : ∃ M, l.length + 1 = M := ⟨_, rfl⟩
                have hM2 : (l ++ [s]).length = M := by rw [← hM, List.length_append]; rfl
                rw [hM2, hM] at he9
                rw [hM2] at hc9
                injection he9 with he1 _ he3
                subst he1
                subst he3
                obtain ⟨y0, y1, y2, hfr⟩ := sel_cells hr9
                have fr0 := hfr 0
                have fr1 := hfr 1
                have fr2 := hfr 2
                have hrl9 := blk_lt hr9
                rw [hM]
                clear hfr
                by_cases hM1 : M = 1
                · subst hM1
                  obtain rfl : l = [] := List.eq_nil_of_length_eq_zero (by omega)
                  obtain ⟨b9, off, vs, he, hb9, hbl9, hrep, hcs⟩ := hA9.get (j := 0) rfl
                  injection he with he
                  injection he with he1 he2
                  subst he1
                  subst he2
                  obtain ⟨k9, n9, A8, m8, c8, rfl⟩ := SelRep.form hrep
                  have q0 := hcs 0 _ rfl
                  have q1 := hcs 1 _ rfl
                  have q2 := hcs 2 _ rfl
                  have hne : g9 ≠ r := by omega
                  simp only [Nat.zero_mul, Nat.add_zero, Nat.zero_add] at q0 q1 q2
                  obtain ⟨z0, zg, zo, zv⟩ := rsel_done hor9 hr.out hgr hrB hr9 hrep
                  have hdone := hide (hfin.out _ _ zg zo zv)
                  obtain ⟨z1, z2, z3, -⟩ := sel_cells z0
                  clear hcs hrep z0 zg zo zv hown9 hA9 hr9 hfin hM2 hM
                  go_wp2
                  exact end_sel rfl r _ _ _ rfl rfl z1 z2 z3 hdone.out
                · have hrep : kSel.rep (fun b => B ≤ b) w9 (oneOf 8 (l ++ [s])) [.int .i64 8, .string ⟨#[]⟩, .slice (some ⟨g9, 0, none⟩) M cap9] := by
                    have e1 : oneOf 8 (l ++ [s]) = .mk 8 ⟨#[]⟩ (l ++ [s]) := by
                      match l, hM, hM1 with
                      | [], hM, hM1 => exact absurd hM.symm hM1
                      | x :: r, _, _ => cases r <;> rfl
                    rw [e1]
                    exact rep_sel.2 ⟨_, _, by rw [hM2], by rw [hM2]; exact hc9, hA9⟩
                  obtain ⟨z0, zg, zo, zv⟩ := rsel_done hor9 hr.out hgr hrB hr9 hrep
                  have hdone := hide (hfin.out _ _ zg zo zv)
                  obtain ⟨z1, z2, z3, -⟩ := sel_cells z0
                  have hm1 : ((M : Int) == 1) = false := by rw [beq_eq_false_iff_ne]; omega
                  clear hrep z0 zg zo zv hown9 hA9 hr9 hfin hM2 hM hM1
                  go_wp2
                  exact end_sel rfl r _ _ _ rfl rfl z1 z2 z3 hdone.out)
-- </list>
end Go.Proofs.YtdnnahdafhddlaaGreatDoor

namespace Go.Proofs.YtdnnahdafhddlaaGreatDoor
open Go.RowKit
set_option maxRecDepth 100000

set_option maxHeartbeats 4000000 in
theorem rlistO_bad (g : Nat) (t : ByteArray) (e : Nat) (y : Nat × Int) (w : World) (h : RBad w g t e y) :
    Calls Tryz.prog 153 #[.pointer (some ⟨g, 0, none⟩), .int .i64 9] w fun en w' => IdleG g t e y w en w' := by
  have hgr := h.lt
  obtain ⟨W, hW⟩ : ∃ W, w.alloc (.cells #[.int .i64 0, .string ⟨#[]⟩, .slice none 0 0] 40) = W := ⟨_, rfl⟩
  obtain ⟨r, hr⟩ : ∃ r, w.heap.size = r := ⟨_, rfl⟩
  have hb1 : Below w.heap.size w W := by rw [← hW]; exact ext_alloc (Below.refl _ _) _
  have h1 := h.later hb1
  have ho1 : Only g w W := only_of_below hb1 _
  have hr1 : W.heap[r]? = some (.cells #[.int .i64 0, .string ⟨#[]⟩, .slice none 0 0] 40 (0, 0)) := by rw [← hW, ← hr]; exact heap_alloc_new _ _
  have hpart := rlistA_bad g t e y W h1
  obtain ⟨B, hB⟩ : ∃ B, W.heap.size = B := ⟨_, rfl⟩
  have hrB : r < B := by rw [← hB]; exact blk_lt hr1
  rw [hr] at hgr
  obtain ⟨l, hl⟩ : ∃ l : List Sel, l = [] := ⟨_, rfl⟩
  clear hb1 h h1
  go_enter Tryz.func153, Tryz.ntmps153
  go_wp2_with fail
  replace hB := hide hB
  replace hW := hide hW
  replace hr := hide hr
  go_loopw [5] (fun v wr => v = .slice none 0 0 ∧ wr = W) (fun _ _ => 0)
  case atStart => exact ⟨rfl, rfl⟩
  case round =>
    obtain ⟨rfl, rfl⟩ := hrel
    go_wp2_with fail
    refine hpart.mono ?_
    rintro en w3 ⟨ho6, hstate, s, v, ⟨k1, n1, A1, m1, c1, rfl, hrep⟩, rfl⟩
    have ho3 : Only g wr wr := Only.refl _ _
    have hown : OwnS B wr (.slice none 0 0) l := by subst hl; exact OwnS.nil
    have hl0 : l.length ≤ 5 := by subst hl; exact Nat.zero_le _
    clear hl
    obtain ⟨u5, hu5⟩ : ∃ u5, Value.slice none 0 0 = u5 := ⟨_, rfl⟩
    rw [hu5] at hown ⊢
    replace hu5 := hide hu5
    (
                have hlt4 := hown.lt
                have hgB : g < B := by omega
                have hown7 := hown.only ho6 hgB
                have hszB : B ≤ wr.heap.size := by have q1 := ho3.size; have q2 := hB.out; omega
                have hrep7 : kSel.rep (fun b => B ≤ b ∧ some b ≠ u5.ownBlock) w3 s [.int .i64 k1, .string n1, .slice A1 m1 c1] := kSel.more hrep fun b hb => ⟨Nat.le_trans hszB hb, fun e => by have := (hlt4 b e.symm).2; omega⟩
                have hb8 : Below w3.heap.size w3 (w3.alloc (.cells #[.int .i64 k1, .string n1, .slice A1 m1 c1] 40)) := ext_alloc (Below.refl _ _) _
                have ho8 := Only.later (ho3.trans ho6) hb8
                have hown8 := hown7.later hb8
                have hrep8 := kSel.later hrep7 hb8
                have hl4 : l.length ≤ 4000000000 := by omega
                have hB8 : B ≤ (w3.alloc (.cells #[.int .i64 k1, .string n1, .slice A1 m1 c1] 40)).heap.size := by
                  have h1 := (ho3.trans ho6).size
                  have h2 := hB.out
                  rw [World.size_alloc]; omega
                have h8 := hstate.later hb8
                clear hrep hrep7 hown7 hown hstate ho6
                replace h8 := hide h8
                replace ho8 := hide ho8
                go_wp2_with (at_builtin; refine wpList_ownS rfl _ _ rfl rfl hown8 hl4 ⟨w3.heap.size, 0, none⟩ 1 rfl s [.int .i64 k1, .string n1, .slice A1 m1 c1] hrep8 (World.news_of_block (cs := #[.int .i64 k1, .string n1, .slice A1 m1 c1]) (t := 40) (fr := (0, 0)) (heap_alloc_new _ _)) hB8 ?_; rintro v' w9 hown9 hg9 ⟨g9, cap9, rfl⟩)
                have hg10 : World.grownBy _ w9 u5.ownBlock := hg9
                have hrow10 : ∀ y, u5.ownBlock = some y → g < y := fun y hy => Nat.lt_of_lt_of_le hgB (hlt4 y hy).1
                have h10 := h8.out.grown hg10 hrow10
                have ho10 := only_grown ho8.out hg10 (fun y hy => by rw [hB.out]; exact (hlt4 y hy).1)
                have hor9 := ho1.trans ho10
                have hr9 : w9.heap[r]? = _ := (ho10.block r (blk_lt hr1) (by intro e; injection e with e; omega)).trans hr1
                clear hg9 hg10 h8 ho8 hown8 hrep8 hB8 hb8 hrow10)
    have hfin : Hid (∀ W' v, W'.heap[g]? = w9.heap[g]? → Only g w W' → vSel w W' (oneOf 9 (l ++ [s])) v → IdleG g t e y w (.returned v) W') := hide fun W' v q1 q2 q3 => ⟨q2, h10.same q1, _, _, q3, rfl⟩
    obtain ⟨p, x, f, hrr, h0, -⟩ := id h10
    have hg := rgood_walk g t e p x f _ _ w9 hrr
    rw [show (y.2 == 0) = false from by rw [beq_eq_false_iff_ne]; exact h0] at hg
    clear hrr h0 h10
    go_upto_region 10 with (go_at_call 100; refine hg.mono ?_; rintro en w' ⟨rfl, rfl⟩)
    (
          obtain ⟨A9, c9, he9, hc9, hA9⟩ := hown9.at
          obtain ⟨M, hM⟩ : ∃ M, l.length + 1 = M := ⟨_, rfl⟩
          have hM2 : (l ++ [s]).length = M := by rw [← hM, List.length_append]; rfl
          rw [hM2, hM] at he9
          rw [hM2] at hc9
          injection he9 with he1 _ he3
          subst he1
          subst he3
          obtain ⟨y0, y1, y2, hfr⟩ := sel_cells hr9
          have fr0 := hfr 0
          have fr1 := hfr 1
          have fr2 := hfr 2
          have hrl9 := blk_lt hr9
          rw [hM]
          clear hfr
          by_cases hM1 : M = 1
          · subst hM1
            obtain rfl : l = [] := List.eq_nil_of_length_eq_zero (by omega)
            obtain ⟨b9, off, vs, he, hb9, hbl9, hrep, hcs⟩ := hA9.get (j := 0) rfl
            injection he with he
            injection he with he1 he2
            subst he1
            subst he2
            obtain ⟨k9, n9, A8, m8, c8, rfl⟩ := SelRep.form hrep
            have q0 := hcs 0 _ rfl
            have q1 := hcs 1 _ rfl
            have q2 := hcs 2 _ rfl
            have hne : g9 ≠ r := by omega
            simp only [Nat.zero_mul, Nat.add_zero, Nat.zero_add] at q0 q1 q2
            obtain ⟨z0, zg, zo, zv⟩ := rsel_done hor9 hr.out hgr hrB hr9 hrep
            have hdone := hide (hfin.out _ _ zg zo zv)
            obtain ⟨z1, z2, z3, -⟩ := sel_cells z0
            clear hcs hrep z0 zg zo zv hown9 hA9 hr9 hfin hM2 hM
            go_wp2
            exact end_sel rfl r _ _ _ rfl rfl z1 z2 z3 hdone.out
          · have hrep : kSel.rep (fun b => B ≤ b) w9 (oneOf 9 (l ++ [s])) [.int .i64 9, .string ⟨#[]⟩, .slice (some ⟨g9, 0, none⟩) M cap9] := by
              have e1 : oneOf 9 (l ++ [s]) = .mk 9 ⟨#[]⟩ (l ++ [s]) := by
                match l, hM, hM1 with
                | [], hM, hM1 => exact absurd hM.symm hM1
                | x :: r, _, _ => cases r <;> rfl
              rw [e1]
              exact rep_sel.2 ⟨_, _, by rw [hM2], by rw [hM2]; exact hc9, hA9⟩
            obtain ⟨z0, zg, zo, zv⟩ := rsel_done hor9 hr.out hgr hrB hr9 hrep
            have hdone := hide (hfin.out _ _ zg zo zv)
            obtain ⟨z1, z2, z3, -⟩ := sel_cells z0
            have hm1 : ((M : Int) == 1) = false := by rw [beq_eq_false_iff_ne]; omega
            clear hrep z0 zg zo zv hown9 hA9 hr9 hfin hM2 hM hM1
            go_wp2
            exact end_sel rfl r _ _ _ rfl rfl z1 z2 z3 hdone.out)

set_option maxHeartbeats 8000000 in
theorem rlistO_walk (n0 : Nat) (hA : AtomRAt n0) (g : Nat) (t : ByteArray) (e a : Nat) (w : World) (h : RdyAt w g t e a) (ha : a ≤ t.size) (hs : t.size + e < 1073741824) (hgN : 12 ≤ g) (hL : Lvs w) (hf : t.size - a < n0) :
    Calls Tryz.prog 153 #[.pointer (some ⟨g, 0, none⟩), .int .i64 9] w fun en w' => RmG g t e vSel (serP t e (serP t e (atomP codeB selWs t e n0) xAnd 8) xOr 9 a) w en w' := by
  have hpart := hide (fun (V : World) (b : Nat) (hV : RdyAt V g t e b) (hab : a ≤ b) (hb : b ≤ t.size) (hLV : Lvs V) => rlistA_walk n0 hA g t e b V hV hb hs hgN hLV (by omega))
  have hmono := hide (serP_le (k := xAnd) (kind := 8) (t := t) (e := e) (atomP_le n0 (ok := codeB) (ws := selWs) (t := t) (e := e)))
  obtain ⟨pp, hpp⟩ : ∃ pp, serP t e (atomP codeB selWs t e n0) xAnd 8 = pp := ⟨_, rfl⟩
  rw [hpp] at hpart hmono ⊢
  have hgr := h.lt
  obtain ⟨W, hW⟩ : ∃ W, w.alloc (.cells #[.int .i64 0, .string ⟨#[]⟩, .slice none 0 0] 40) = W := ⟨_, rfl⟩
  obtain ⟨r, hr⟩ : ∃ r, w.heap.size = r := ⟨_, rfl⟩
  have hb1 : Below w.heap.size w W := by rw [← hW]; exact ext_alloc (Below.refl _ _) _
  have h1 := h.later hb1
  have hL1 : Lvs W := by rw [← hW]; exact hL.alloc _
  have ho1 : Only g w W := only_of_below hb1 _
  have hr1 : W.heap[r]? = some (.cells #[.int .i64 0, .string ⟨#[]⟩, .slice none 0 0] 40 (0, 0)) := by rw [← hW, ← hr]; exact heap_alloc_new _ _
  obtain ⟨B, hB⟩ : ∃ B, W.heap.size = B := ⟨_, rfl⟩
  have hrB : r < B := by rw [← hB]; exact blk_lt hr1
  rw [hr] at hgr
  clear hb1 h hA hpp
  go_enter Tryz.func153, Tryz.ntmps153
  go_wp2_with fail
  replace hB := hide hB
  replace hW := hide hW
  replace hr := hide hr
  go_loopw [5] (fun v wr => ∃ (l : List Sel) (b n : Nat), OwnS B wr v l ∧ RdyAt wr g t e b ∧ Only g W wr ∧ b ≤ t.size ∧ a ≤ b ∧ l.length ≤ b ∧ t.size - b < n ∧ Hid ((match pp b with | .error y => .error y | .ok (s, c) => moreP t e pp xOr 9 n (l ++ [s]) c) = serP t e pp xOr 9 a)) (fun v _ => t.size + 1 - lenS v)
  case atStart => exact ⟨[], a, t.size + 1, OwnS.nil, h1, Only.refl _ _, ha, Nat.le_refl _, Nat.zero_le _, by omega, hide serP_tie⟩
  case round =>
    clear h1
    obtain ⟨l, b, n, hown, h3, ho3, hbl, hab, hll, hn, hR⟩ := hrel
    have h4 := hpart.out wr b h3 hab hbl (hL1.only ho3 hgN)
    go_wp2_with fail
    refine h4.mono ?_
    rintro en w3 ⟨ho6, hm⟩
    clear h4
    cases hp : pp b with
    | error y =>
      rw [hp] at hm
      obtain ⟨hstate, s, v, ⟨k1, n1, A1, m1, c1, rfl, hrep⟩, rfl⟩ := hm
      have hR2 : Hid (serP t e pp xOr 9 a = .error y) := by rw [hp] at hR; exact hide hR.out.symm
      clear hR hp h3
      (
                  have hlt4 := hown.lt
                  have hgB : g < B := by omega
                  have hown7 := hown.only ho6 hgB
                  have hszB : B ≤ wr.heap.size := by have q1 := ho3.size; have q2 := hB.out; omega
                  have hrep7 : kSel.rep (fun b => B ≤ b ∧ some b ≠ u5.ownBlock) w3 s [.int .i64 k1, .string n1, .slice A1 m1 c1] := kSel.more hrep fun b hb => ⟨Nat.le_trans hszB hb, fun e => by have := (hlt4 b e.symm).2; omega⟩
                  have hb8 : Below w3.heap.size w3 (w3.alloc (.cells #[.int .i64 k1, .string n1, .slice A1 m1 c1] 40)) := ext_alloc (Below.refl _ _) _
                  have ho8 := Only.later (ho3.trans ho6) hb8
                  have hown8 := hown7.later hb8
                  have hrep8 := kSel.later hrep7 hb8
                  have hl4 : l.length ≤ 4000000000 := by omega
                  have hB8 : B ≤ (w3.alloc (.cells #[.int .i64 k1, .string n1, .slice A1 m1 c1] 40)).heap.size := by
                    have h1 := (ho3.trans ho6).size
                    have h2 := hB.out
                    rw [World.size_alloc]; omega
                  have h8 := hstate.later hb8
                  clear hrep hrep7 hown7 hown hstate ho6
                  replace h8 := hide h8
                  replace ho8 := hide ho8
                  go_wp2_with (at_builtin; refine wpList_ownS rfl _ _ rfl rfl hown8 hl4 ⟨w3.heap.size, 0, none⟩ 1 rfl s [.int .i64 k1, .string n1, .slice A1 m1 c1] hrep8 (World.news_of_block (cs := #[.int .i64 k1, .string n1, .slice A1 m1 c1]) (t := 40) (fr := (0, 0)) (heap_alloc_new _ _)) hB8 ?_; rintro v' w9 hown9 hg9 ⟨g9, cap9, rfl⟩)
                  have hg10 : World.grownBy _ w9 u5.ownBlock := hg9
                  have hrow10 : ∀ y, u5.ownBlock = some y → g < y := fun y hy => Nat.lt_of_lt_of_le hgB (hlt4 y hy).1
                  have h10 := h8.out.grown hg10 hrow10
                  have ho10 := only_grown ho8.out hg10 (fun y hy => by rw [hB.out]; exact (hlt4 y hy).1)
                  have hor9 := ho1.trans ho10
                  have hr9 : w9.heap[r]? = _ := (ho10.block r (blk_lt hr1) (by intro e; injection e with e; omega)).trans hr1
                  clear hg9 hg10 h8 ho8 hown8 hrep8 hB8 hb8 hrow10)
      have hfin : Hid (∀ W' v, W'.heap[g]? = w9.heap[g]? → Only g w W' → vSel w W' (oneOf 9 (l ++ [s])) v → RmG g t e vSel (serP t e pp xOr 9 a) w (.returned v) W') := hide fun W' v q1 q2 q3 => RmG.err hR2.out q2 (h10.same q1) q3
      obtain ⟨p, x, f, hrr, h0, -⟩ := id h10
      have hg := rgood_walk g t e p x f _ _ w9 hrr
      rw [show (y.2 == 0) = false from by rw [beq_eq_false_iff_ne]; exact h0] at hg
      clear hrr h0 h10 hR2
      go_upto_region 10 with (go_at_call 100; refine hg.mono ?_; rintro en w' ⟨rfl, rfl⟩)
      (
            obtain ⟨A9, c9, he9, hc9, hA9⟩ := hown9.at
            obtain ⟨M, hM⟩ : ∃ M, l.length + 1 = M := ⟨_, rfl⟩
            have hM2 : (l ++ [s]).length = M := by rw [← hM, List.length_append]; rfl
            rw [hM2, hM] at he9
            rw [hM2] at hc9
            injection he9 with he1 _ he3
            subst he1
            subst he3
            obtain ⟨y0, y1, y2, hfr⟩ := sel_cells hr9
            have fr0 := hfr 0
            have fr1 := hfr 1
            have fr2 := hfr 2
            have hrl9 := blk_lt hr9
            rw [hM]
            clear hfr
            by_cases hM1 : M = 1
            · subst hM1
              obtain rfl : l = [] := List.eq_nil_of_length_eq_zero (by omega)
              obtain ⟨b9, off, vs, he, hb9, hbl9, hrep, hcs⟩ := hA9.get (j := 0) rfl
              injection he with he
              injection he with he1 he2
              subst he1
              subst he2
              obtain ⟨k9, n9, A8, m8, c8, rfl⟩ := SelRep.form hrep
              have q0 := hcs 0 _ rfl
              have q1 := hcs 1 _ rfl
              have q2 := hcs 2 _ rfl
              have hne : g9 ≠ r := by omega
              simp only [Nat.zero_mul, Nat.add_zero, Nat.zero_add] at q0 q1 q2
              obtain ⟨z0, zg, zo, zv⟩ := rsel_done hor9 hr.out hgr hrB hr9 hrep
              have hdone := hide (hfin.out _ _ zg zo zv)
              obtain ⟨z1, z2, z3, -⟩ := sel_cells z0
              clear hcs hrep z0 zg zo zv hown9 hA9 hr9 hfin hM2 hM
              go_wp2
              exact end_sel rfl r _ _ _ rfl rfl z1 z2 z3 hdone.out
            · have hrep : kSel.rep (fun b => B ≤ b) w9 (oneOf 9 (l ++ [s])) [.int .i64 9, .string ⟨#[]⟩, .slice (some ⟨g9, 0, none⟩) M cap9] := by
                have e1 : oneOf 9 (l ++ [s]) = .mk 9 ⟨#[]⟩ (l ++ [s]) := by
                  match l, hM, hM1 with
                  | [], hM, hM1 => exact absurd hM.symm hM1
                  | x :: r, _, _ => cases r <;> rfl
                rw [e1]
                exact rep_sel.2 ⟨_, _, by rw [hM2], by rw [hM2]; exact hc9, hA9⟩
              obtain ⟨z0, zg, zo, zv⟩ := rsel_done hor9 hr.out hgr hrB hr9 hrep
              have hdone := hide (hfin.out _ _ zg zo zv)
              obtain ⟨z1, z2, z3, -⟩ := sel_cells z0
              have hm1 : ((M : Int) == 1) = false := by rw [beq_eq_false_iff_ne]; omega
              clear hrep z0 zg zo zv hown9 hA9 hr9 hfin hM2 hM hM1
              go_wp2
              exact end_sel rfl r _ _ _ rfl rfl z1 z2 z3 hdone.out)
    | ok z =>
      obtain ⟨s, c⟩ := z
      rw [hp] at hm
      obtain ⟨hstate, hcl, v, ⟨k1, n1, A1, m1, c1, rfl, hrep⟩, rfl⟩ := hm
      have hbc := hmono.out _ _ _ hp
      obtain ⟨n, rfl⟩ : ∃ m, n = m + 1 := ⟨n - 1, by omega⟩
      have hR2 : Hid (serP t e pp xOr 9 a = moreP t e pp xOr 9 (n + 1) (l ++ [s]) c) := by rw [hp] at hR; exact hide hR.out.symm
      have hlw : Hid (lenS u5 = l.length) := hide (by obtain ⟨A5, c5, h5⟩ := hown.form; rw [h5]; rfl)
      clear hR hp h3
      (
                  have hlt4 := hown.lt
                  have hgB : g < B := by omega
                  have hown7 := hown.only ho6 hgB
                  have hszB : B ≤ wr.heap.size := by have q1 := ho3.size; have q2 := hB.out; omega
                  have hrep7 : kSel.rep (fun b => B ≤ b ∧ some b ≠ u5.ownBlock) w3 s [.int .i64 k1, .string n1, .slice A1 m1 c1] := kSel.more hrep fun b hb => ⟨Nat.le_trans hszB hb, fun e => by have := (hlt4 b e.symm).2; omega⟩
                  have hb8 : Below w3.heap.size w3 (w3.alloc (.cells #[.int .i64 k1, .string n1, .slice A1 m1 c1] 40)) := ext_alloc (Below.refl _ _) _
                  have ho8 := Only.later (ho3.trans ho6) hb8
                  have hown8 := hown7.later hb8
                  have hrep8 := kSel.later hrep7 hb8
                  have hl4 : l.length ≤ 4000000000 := by omega
                  have hB8 : B ≤ (w3.alloc (.cells #[.int .i64 k1, .string n1, .slice A1 m1 c1] 40)).heap.size := by
                    have h1 := (ho3.trans ho6).size
                    have h2 := hB.out
                    rw [World.size_alloc]; omega
                  have h8 := hstate.later hb8
                  clear hrep hrep7 hown7 hown hstate ho6
                  replace h8 := hide h8
                  replace ho8 := hide ho8
                  go_wp2_with (at_builtin; refine wpList_ownS rfl _ _ rfl rfl hown8 hl4 ⟨w3.heap.size, 0, none⟩ 1 rfl s [.int .i64 k1, .string n1, .slice A1 m1 c1] hrep8 (World.news_of_block (cs := #[.int .i64 k1, .string n1, .slice A1 m1 c1]) (t := 40) (fr := (0, 0)) (heap_alloc_new _ _)) hB8 ?_; rintro v' w9 hown9 hg9 ⟨g9, cap9, rfl⟩)
                  have hg10 : World.grownBy _ w9 u5.ownBlock := hg9
                  have hrow10 : ∀ y, u5.ownBlock = some y → g < y := fun y hy => Nat.lt_of_lt_of_le hgB (hlt4 y hy).1
                  have h10 := h8.out.grown hg10 hrow10
                  have ho10 := only_grown ho8.out hg10 (fun y hy => by rw [hB.out]; exact (hlt4 y hy).1)
                  have hor9 := ho1.trans ho10
                  have hr9 : w9.heap[r]? = _ := (ho10.block r (blk_lt hr1) (by intro e; injection e with e; omega)).trans hr1
                  clear hg9 hg10 h8 ho8 hown8 hrep8 hB8 hb8 hrow10)
      cases hl : lookT t e c with
      | bad b' =>
        have hz : Hid (serP t e pp xOr 9 a = .error (b', 5)) := hide (hR2.out.trans (moreP_bad hl))
        have hbd := rdy_is_bad hl h10
        have hfin : Hid (∀ W' v, W'.heap[g]? = w9.heap[g]? → Only g w W' → vSel w W' (oneOf 9 (l ++ [s])) v → RmG g t e vSel (serP t e pp xOr 9 a) w (.returned v) W') := hide fun W' v q1 q2 q3 => RmG.err hz.out q2 (hbd.same q1) q3
        obtain ⟨p, x, f, hrr, h0, -⟩ := id hbd
        have hg := rgood_walk g t e p x f _ _ w9 hrr
        rw [show ((((b', (5 : Int)) : Nat × Int).2) == 0) = false from rfl] at hg
        clear hrr h0 h10 hR2 hbd hl hz hlw
        go_upto_region 10 with (go_at_call 100; refine hg.mono ?_; rintro en w' ⟨rfl, rfl⟩)
        (
              obtain ⟨A9, c9, he9, hc9, hA9⟩ := hown9.at
              obtain ⟨M, hM⟩ : ∃ M, l.length + 1 = M := ⟨_, rfl⟩
              have hM2 : (l ++ [s]).length = M := by rw [← hM, List.length_append]; rfl
              rw [hM2, hM] at he9
              rw [hM2] at hc9
              injection he9 with he1 _ he3
              subst he1
              subst he3
              obtain ⟨y0, y1, y2, hfr⟩ := sel_cells hr9
              have fr0 := hfr 0
              have fr1 := hfr 1
              have fr2 := hfr 2
              have hrl9 := blk_lt hr9
              rw [hM]
              clear hfr
              by_cases hM1 : M = 1
              · subst hM1
                obtain rfl : l = [] := List.eq_nil_of_length_eq_zero (by omega)
                obtain ⟨b9, off, vs, he, hb9, hbl9, hrep, hcs⟩ := hA9.get (j := 0) rfl
                injection he with he
                injection he with he1 he2
                subst he1
                subst he2
                obtain ⟨k9, n9, A8, m8, c8, rfl⟩ := SelRep.form hrep
                have q0 := hcs 0 _ rfl
                have q1 := hcs 1 _ rfl
                have q2 := hcs 2 _ rfl
                have hne : g9 ≠ r := by omega
                simp only [Nat.zero_mul, Nat.add_zero, Nat.zero_add] at q0 q1 q2
                obtain ⟨z0, zg, zo, zv⟩ := rsel_done hor9 hr.out hgr hrB hr9 hrep
                have hdone := hide (hfin.out _ _ zg zo zv)
                obtain ⟨z1, z2, z3, -⟩ := sel_cells z0
                clear hcs hrep z0 zg zo zv hown9 hA9 hr9 hfin hM2 hM
                go_wp2
                exact end_sel rfl r _ _ _ rfl rfl z1 z2 z3 hdone.out
              · have hrep : kSel.rep (fun b => B ≤ b) w9 (oneOf 9 (l ++ [s])) [.int .i64 9, .string ⟨#[]⟩, .slice (some ⟨g9, 0, none⟩) M cap9] := by
                  have e1 : oneOf 9 (l ++ [s]) = .mk 9 ⟨#[]⟩ (l ++ [s]) := by
                    match l, hM, hM1 with
                    | [], hM, hM1 => exact absurd hM.symm hM1
                    | x :: r, _, _ => cases r <;> rfl
                  rw [e1]
                  exact rep_sel.2 ⟨_, _, by rw [hM2], by rw [hM2]; exact hc9, hA9⟩
                obtain ⟨z0, zg, zo, zv⟩ := rsel_done hor9 hr.out hgr hrB hr9 hrep
                have hdone := hide (hfin.out _ _ zg zo zv)
                obtain ⟨z1, z2, z3, -⟩ := sel_cells z0
                have hm1 : ((M : Int) == 1) = false := by rw [beq_eq_false_iff_ne]; omega
                clear hrep z0 zg zo zv hown9 hA9 hr9 hfin hM2 hM hM1
                go_wp2
                exact end_sel rfl r _ _ _ rfl rfl z1 z2 z3 hdone.out)
      | tok x p =>
        obtain ⟨hrr, q1, q2, q3⟩ := rdy_is_tok hl h10
        have hg := rgood_walk g t e _ x p _ _ w9 hrr
        rw [show ((0 : Int) == 0) = true from rfl] at hg
        obtain ⟨c0, c1, c2, c3, c4, c8, hf9, hgl9⟩ := rr_cells hrr
        clear hf9 c0 c1 c2 c4 c8
        by_cases hx : x = xOr
        · have hxk : (x.toList == [111, 114]) = true := by rw [word_is]; exact decide_eq_true hx
          obtain ⟨b', hb'⟩ : ∃ b', startT t c + x.size = b' := ⟨_, rfl⟩
          have hsz : x.size = (xOr).size := by rw [hx]
          have hk0 : 0 < (xOr).size := by decide
          have hpa := look_pass hl
          have hR3 : Hid ((match pp b' with | .error y => .error y | .ok (s', c') => moreP t e pp xOr 9 n ((l ++ [s]) ++ [s']) c') = serP t e pp xOr 9 a) := by
            rw [hx] at hl
            refine hide (Eq.symm (hR2.out.trans ((moreP_yes hl).trans ?_)))
            rw [← hb', hsz]
            cases pp (startT t c + (xOr).size) <;> rfl
          rw [hb'] at hrr q1
          have hnx := rnext_walk g t e b' x p w9 hrr q1 hs
          clear hrr h10 hR2 hl hr9 hor9
          replace hx := hide hx
          go_wp2_with (go_at_call 100; refine hg.mono ?_; rintro en w' ⟨rfl, rfl⟩)
          refine hnx.mono ?_
          rintro en w10 ⟨rfl, ho11, h11⟩
          have hown11 := hown9.only ho11 hgB
          have ho12 := ho10.trans ho11
          clear hnx hg c3 hown9
          go_wp2
          go_roundw
          case rel => exact ⟨l ++ [s], b', n, hown11, h11, ho12, q1, by omega, by rw [List.length_append]; show l.length + 1 ≤ b'; omega, by omega, hR3⟩
          case measure =>
            rw [hlw.out]
            show t.size + 1 - (l.length + 1) < t.size + 1 - l.length
            omega
        · have hxk : (x.toList == [111, 114]) = false := by rw [word_is]; exact decide_eq_false hx
          have hz : Hid (serP t e pp xOr 9 a = .ok (oneOf 9 (l ++ [s]), startT t c)) := hide (hR2.out.trans (moreP_no hl hx))
          have hst : startT t c ≤ t.size := passT_in blankC t hcl
          have hrd : RdyAt w9 g t e (startT t c) := rdy_tok (by rw [lookT_start]; exact hl) (by rw [startT_twice]) hrr q1 q3
          have hfin : Hid (∀ W' v, W'.heap[g]? = w9.heap[g]? → Only g w W' → vSel w W' (oneOf 9 (l ++ [s])) v → RmG g t e vSel (serP t e pp xOr 9 a) w (.returned v) W') := hide fun W' v q1 q2 q3 => RmG.ok hz.out q2 (hrd.same q1) hst q3
          clear hrr h10 hR2 hl hz hrd hlw
          replace hx := hide hx
          go_upto_region 10 with (go_at_call 100; refine hg.mono ?_; rintro en w' ⟨rfl, rfl⟩)
          (
                obtain ⟨A9, c9, he9, hc9, hA9⟩ := hown9.at
                obtain ⟨M, hM⟩ : ∃ M, l.length + 1 = M := ⟨_, rfl⟩
                have hM2 : (l ++ [s]).length = M := by rw [← hM, List.length_append]; rfl
                rw [hM2, hM] at he9
                rw [hM2] at hc9
                injection he9 with he1 _ he3
                subst he1
                subst he3
                obtain ⟨y0, y1, y2, hfr⟩ := sel_cells hr9
                have fr0 := hfr 0
                have fr1 := hfr 1
                have fr2 := hfr 2
                have hrl9 := blk_lt hr9
                rw [hM]
                clear hfr
                by_cases hM1 : M = 1
                · subst hM1
                  obtain rfl : l = [] := List.eq_nil_of_length_eq_zero (by omega)
                  obtain ⟨b9, off, vs, he, hb9, hbl9, hrep, hcs⟩ := hA9.get (j := 0) rfl
                  injection he with he
                  injection he with he1 he2
                  subst he1
                  subst he2
                  obtain ⟨k9, n9, A8, m8, c8, rfl⟩ := SelRep.form hrep
                  have q0 := hcs 0 _ rfl
                  have q1 := hcs 1 _ rfl
                  have q2 := hcs 2 _ rfl
                  have hne : g9 ≠ r := by omega
                  simp only [Nat.zero_mul, Nat.add_zero, Nat.zero_add] at q0 q1 q2
                  obtain ⟨z0, zg, zo, zv⟩ := rsel_done hor9 hr.out hgr hrB hr9 hrep
                  have hdone := hide (hfin.out _ _ zg zo zv)
                  obtain ⟨z1, z2, z3, -⟩ := sel_cells z0
                  clear hcs hrep z0 zg zo zv hown9 hA9 hr9 hfin hM2 hM
                  go_wp2
                  exact end_sel rfl r _ _ _ rfl rfl z1 z2 z3 hdone.out
                · have hrep : kSel.rep (fun b => B ≤ b) w9 (oneOf 9 (l ++ [s])) [.int .i64 9, .string ⟨#[]⟩, .slice (some ⟨g9, 0, none⟩) M cap9] := by
                    have e1 : oneOf 9 (l ++ [s]) = .mk 9 ⟨#[]⟩ (l ++ [s]) := by
                      match l, hM, hM1 with
                      | [], hM, hM1 => exact absurd hM.symm hM1
                      | x :: r, _, _ => cases r <;> rfl
                    rw [e1]
                    exact rep_sel.2 ⟨_, _, by rw [hM2], by rw [hM2]; exact hc9, hA9⟩
                  obtain ⟨z0, zg, zo, zv⟩ := rsel_done hor9 hr.out hgr hrB hr9 hrep
                  have hdone := hide (hfin.out _ _ zg zo zv)
                  obtain ⟨z1, z2, z3, -⟩ := sel_cells z0
                  have hm1 : ((M : Int) == 1) = false := by rw [beq_eq_false_iff_ne]; omega
                  clear hrep z0 zg zo zv hown9 hA9 hr9 hfin hM2 hM hM1
                  go_wp2
                  exact end_sel rfl r _ _ _ rfl rfl z1 z2 z3 hdone.out)
end Go.Proofs.YtdnnahdafhddlaaGreatDoor
