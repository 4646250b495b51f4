/- Walks of the program's parser of rules: letter, fail, peek. Conditions: the parser's cells are as PsAt says. -/
import Derived.Test.YtdnnahdafhddlaaGreatDoorYSynR
namespace Go.Proofs.YtdnnahdafhddlaaGreatDoor
open Go.RowKit
set_option maxRecDepth 100000

/-- Block g is a parser of the line t, which ends at e; it stands at a. -/
def PsAt (w : World) (g : Nat) (t : ByteArray) (e a : Nat) : Prop := w.heap[g]? = some (.cells #[.string t, .int .i64 e, .int .i64 a] 91 (0, 0))
theorem ps_cells {w : World} {g : Nat} {t : ByteArray} {e a : Nat} (h : PsAt w g t e a) :
    w.cell? ⟨g, 0, none⟩ = some (.string t) ∧ w.cell? ⟨g, 1, none⟩ = some (.int .i64 e) ∧ w.cell? ⟨g, 2, none⟩ = some (.int .i64 a) ∧ (∀ j, w.frozen? ⟨g, j, none⟩ = false) ∧ g < w.heap.size := by
  refine ⟨?_, ?_, ?_, fun j => by simp [World.frozen?, show w.heap[g]? = _ from h], blk_lt h⟩ <;> rw [cell_of_row w g _ _ _ _ h] <;> rfl
theorem ps_set {w : World} {g : Nat} {t : ByteArray} {e a : Nat} (h : PsAt w g t e a) (b : Nat) : PsAt (w.setCell ⟨g, 2, none⟩ (.int .i64 b)) g t e b ∧ Only g w (w.setCell ⟨g, 2, none⟩ (.int .i64 b)) := by
  have hg : w.heap[g]? = _ := h
  refine ⟨?_, only_setCell (World.grownBy.refl _ _) (Or.inl rfl) _⟩
  show (w.setCell ⟨g, 2, none⟩ (.int .i64 b)).heap[g]? = _
  simp only [World.setCell, Array.getElem?_modify, hg]
  rfl
theorem PsAt.later {w w' : World} {g : Nat} {t : ByteArray} {e a : Nat} (h : PsAt w g t e a) (hb : Below w.heap.size w w') : PsAt w' g t e a := (hb.block g (blk_lt h)).trans h
/-- The panic that a wrong line ends in. -/
def wrongC (b : Nat) (c : Int) : List PanicEntry := [{ v := .iface 96 (.agg #[.int .i64 b, .int .i64 c]), recovered := false }]
def wordN (n : Nat) : Bool := decide ((97 ≤ n ∧ n ≤ 122) ∨ (65 ≤ n ∧ n ≤ 90) ∨ (48 ≤ n ∧ n ≤ 57) ∨ n = 95 ∨ n = 45)
theorem wordC_nat (c : UInt8) : wordC c = wordN c.toNat := by
  unfold wordC wordN
  rw [Bool.eq_iff_iff]
  simp only [Bool.or_eq_true, Bool.and_eq_true, decide_eq_true_iff, UInt8.le_iff_toNat_le, beq_iff_eq, ← UInt8.toNat_inj]
  have e1 : (97 : UInt8).toNat = 97 := rfl
  have e2 : (122 : UInt8).toNat = 122 := rfl
  have e3 : (65 : UInt8).toNat = 65 := rfl
  have e4 : (90 : UInt8).toNat = 90 := rfl
  have e5 : (48 : UInt8).toNat = 48 := rfl
  have e6 : (57 : UInt8).toNat = 57 := rfl
  have e7 : (95 : UInt8).toNat = 95 := rfl
  have e8 : (45 : UInt8).toNat = 45 := rfl
  rw [e1, e2, e3, e4, e5, e6, e7, e8]
  omega
def signN6 (n : Nat) : Bool := decide (n = 58 ∨ n = 44 ∨ n = 40 ∨ n = 41 ∨ n = 91 ∨ n = 93)
theorem signC_nat (c : UInt8) : signC c = signN6 c.toNat := by
  unfold signC signN6
  rw [Bool.eq_iff_iff]
  simp only [Bool.or_eq_true, decide_eq_true_iff, beq_iff_eq, ← UInt8.toNat_inj]
  have e1 : (58 : UInt8).toNat = 58 := rfl
  have e2 : (44 : UInt8).toNat = 44 := rfl
  have e3 : (40 : UInt8).toNat = 40 := rfl
  have e4 : (41 : UInt8).toNat = 41 := rfl
  have e5 : (91 : UInt8).toNat = 91 := rfl
  have e6 : (93 : UInt8).toNat = 93 := rfl
  rw [e1, e2, e3, e4, e5, e6]
  omega
def blankN (n : Nat) : Bool := decide (n = 32 ∨ n = 9)
theorem blankC_nat (c : UInt8) : blankC c = blankN c.toNat := by
  unfold blankC blankN
  rw [Bool.eq_iff_iff]
  simp only [Bool.or_eq_true, decide_eq_true_iff, beq_iff_eq, ← UInt8.toNat_inj]
  have e1 : (32 : UInt8).toNat = 32 := rfl
  have e2 : (9 : UInt8).toNat = 9 := rfl
  rw [e1, e2]
theorem passT_go {p : UInt8 → Bool} {t : ByteArray} {k : Nat} (h : k < t.size) (hp : p t[k] = true) : passT p t k = passT p t (k + 1) := by
  rw [passT, dif_pos h, if_pos (show p (t.get k h) = true from hp)]
theorem passT_stop {p : UInt8 → Bool} {t : ByteArray} {k : Nat} (h : k < t.size) (hp : p t[k] = false) : passT p t k = k := by
  rw [passT, dif_pos h, if_neg (by rw [show t.get k h = t[k] from rfl, hp]; decide)]
theorem passT_end {p : UInt8 → Bool} {t : ByteArray} {k : Nat} (h : ¬ k < t.size) : passT p t k = k := by
  rw [passT, dif_neg h]
-- <let>
set_option maxHeartbeats 400000 in
theorem sletter_walk (n : Nat) (w : World) : Calls Tryz.prog 178 #[.int .u8 n] w fun e w' => e = .returned (.bool (wordN n)) ∧ w = w' := by
  by_cases hc : (97 ≤ n ∧ n ≤ 122) ∨ (65 ≤ n ∧ n ≤ 90) ∨ (48 ≤ n ∧ n ≤ 57) ∨ n = 95 ∨ n = 45
  · rw [show wordN n = true from decide_eq_true hc]
    go_enter Tryz.func178, Tryz.ntmps178
    go_wp2
    all_goals
      go_ret
      exact ⟨ret_bool (by simp; try omega), rfl⟩
  · rw [show wordN n = false from decide_eq_false hc]
    go_enter Tryz.func178, Tryz.ntmps178
    go_wp2
    all_goals
      go_ret
      exact ⟨ret_bool (by simp; try omega), rfl⟩
-- </let>
set_option maxHeartbeats 400000 in
theorem rinWord_walk (n : Nat) (w : World) : Calls Tryz.prog 147 #[.int .u8 n] w fun e w' => e = .returned (.bool (wordN n)) ∧ w = w' := by
  by_cases hc : (97 ≤ n ∧ n ≤ 122) ∨ (65 ≤ n ∧ n ≤ 90) ∨ (48 ≤ n ∧ n ≤ 57) ∨ n = 95 ∨ n = 45
  · rw [show wordN n = true from decide_eq_true hc]
    go_enter Tryz.func147, Tryz.ntmps147
    go_wp2
    all_goals
      go_ret
      exact ⟨ret_bool (by simp; try omega), rfl⟩
  · rw [show wordN n = false from decide_eq_false hc]
    go_enter Tryz.func147, Tryz.ntmps147
    go_wp2
    all_goals
      go_ret
      exact ⟨ret_bool (by simp; try omega), rfl⟩

theorem sfail_walk (p : Value) (b : Nat) (c : Int) (w : World) : Calls Tryz.prog 137 #[p, .int .i64 b, .int .i64 c] w fun e w' => e = .panicked (wrongC b c) ∧ w = w' := by
  go_enter Tryz.func137, Tryz.ntmps137
  go_wp2
  exact ⟨rfl, rfl, rfl⟩
theorem load2t (w : World) (g : Nat) (a b : Value) (h0 : w.cell? ⟨g, 0, none⟩ = some a) (h1 : w.cell? ⟨g, 1, none⟩ = some b) :
    (loadVar 166 ⟨g, 0, none⟩).run Tryz.prog w = .ok (.agg #[a, b]) w := by
  simp [go_sem, h0, h1]
theorem end_tok {fn : Func} {p : Tmp} (hr : fn.results = #[.cell p 166]) {Q : Ending → World → Prop} {act : Act} {w : World} (g : Nat) (a b : Value) (hd : act.defers = [])
    (hp : act.tmps.getD p undef = .pointer (some ⟨g, 0, none⟩))
    (h0 : w.cell? ⟨g, 0, none⟩ = some a) (h1 : w.cell? ⟨g, 1, none⟩ = some b)
    (hQ : Q (.returned (.agg #[a, b])) w) : bodyPost Tryz.prog fn Q .ret act w := by
  refine bodyPost_ret (v := .agg #[a, b]) ?_ hd hQ
  simp only [results, hr]
  simp [Sem.run_bind, Result.andThen, -Array.getD_eq_getD_getElem?]
  rw [hp]
  simp only [asAddr, Sem.run_pure]
  rw [load2t w g a b h0 h1]
/-- What a reader does: an error and its place end in the panic; else the parser stands behind what was read. -/
def PeekG (g : Nat) (t : ByteArray) (e a : Nat) (w : World) (en : Ending) (w' : World) : Prop :=
  Only g w w' ∧ match lookT t e a with
    | .bad b => en = .panicked (wrongC b 5)
    | .tok x p => en = .returned (.agg #[.string x, .int .i64 p]) ∧ PsAt w' g t e (startT t a)
def psLeft (g : Nat) (t : ByteArray) (w : World) : Nat := match w.cell? ⟨g, 2, none⟩ with
  | some (.int _ v) => t.size - v.toNat
  | _ => 0
theorem row_other {w : World} {g r i : Nat} {o : Obj} (h : w.heap[g]? = some o) (hne : g ≠ r) (u : Value) : (w.setCell ⟨r, i, none⟩ u).heap[g]? = some o := (Below.heap_setCell w ⟨r, i, none⟩ u g hne).trans h
theorem tok_set {w : World} {r : Nat} {u0 u1 : Value} {ty : TypeId} (h : w.heap[r]? = some (.cells #[u0, u1] ty (0, 0))) (x y : Value) :
    ((w.setCell ⟨r, 0, none⟩ x).setCell ⟨r, 1, none⟩ y).heap[r]? = some (.cells #[x, y] ty (0, 0)) := by
  simp only [World.setCell, Array.getElem?_modify, h]
  rfl
theorem tok_cells {w : World} {r : Nat} {x y : Value} {ty : TypeId} (h : w.heap[r]? = some (.cells #[x, y] ty (0, 0))) : w.cell? ⟨r, 0, none⟩ = some x ∧ w.cell? ⟨r, 1, none⟩ = some y ∧ ∀ j, w.frozen? ⟨r, j, none⟩ = false := by
  refine ⟨?_, ?_, fun j => by simp [World.frozen?, h]⟩ <;> rw [cell_of_row w r _ _ _ _ h] <;> rfl
theorem psLeft_at {w : World} {g : Nat} {t : ByteArray} {e a : Nat} (h : PsAt w g t e a) : psLeft g t w = t.size - a := by
  unfold psLeft
  rw [(ps_cells h).2.2.1]
  rfl
theorem sign6_all : ((List.range 256).all fun n => decide (Lib.indexByte [58, 44, 40, 41, 91, 93] (Int.toNat (n : Int)).toUInt8 < 0) == !signN6 n) = true := by kernel_rfl
theorem sign6_ix {n : Nat} (h : n < 256) : decide (Lib.indexByte [58, 44, 40, 41, 91, 93] (Int.toNat (n : Int)).toUInt8 < 0) = !signN6 n := by
  have := List.all_eq_true.1 sign6_all n (List.mem_range.2 h)
  simpa using this
theorem PeekG.bad_ {g : Nat} {t : ByteArray} {e a b : Nat} {w w' : World} (h : lookT t e a = .bad b) (ho : Only g w w') : PeekG g t e a w (.panicked (wrongC b 5)) w' := ⟨ho, by rw [h]⟩
theorem PeekG.tok_ {g : Nat} {t x : ByteArray} {e a p : Nat} {w w' : World} (h : lookT t e a = .tok x p) (ho : Only g w w') (hp : PsAt w' g t e (startT t a)) : PeekG g t e a w (.returned (.agg #[.string x, .int .i64 p])) w' := ⟨ho, by rw [h]; exact ⟨rfl, hp⟩⟩
theorem tok_done0 {w W we : World} {g r b : Nat} {t : ByteArray} {e : Nat} {u0 u1 : Value} (ho1 : Only g w W) (hoe : Only g W we) (hr : w.heap.size = r) (hgr : g < r)
    (hrw : we.heap[r]? = some (.cells #[u0, u1] 166 (0, 0))) (hbe : PsAt we g t e b) (x y : Value) :
    ((we.setCell ⟨r, 0, none⟩ x).setCell ⟨r, 1, none⟩ y).cell? ⟨r, 0, none⟩ = some x ∧ ((we.setCell ⟨r, 0, none⟩ x).setCell ⟨r, 1, none⟩ y).cell? ⟨r, 1, none⟩ = some y ∧
      PsAt ((we.setCell ⟨r, 0, none⟩ x).setCell ⟨r, 1, none⟩ y) g t e b ∧ Only g w ((we.setCell ⟨r, 0, none⟩ x).setCell ⟨r, 1, none⟩ y) := by
  obtain ⟨c0, c1, -⟩ := tok_cells (tok_set hrw x y)
  have h1 : Only g w (we.setCell ⟨r, 0, none⟩ x) := only_setCell (ho1.trans hoe) (.inr (Nat.le_of_eq hr)) _
  have h2 : Only g w ((we.setCell ⟨r, 0, none⟩ x).setCell ⟨r, 1, none⟩ y) := only_setCell h1 (.inr (Nat.le_of_eq hr)) _
  exact ⟨c0, c1, row_other (row_other hbe (by omega) _) (by omega) _, h2⟩
theorem tok_done {w W we : World} {g r b : Nat} {t : ByteArray} {e : Nat} {u0 u1 : Value} (ho1 : Only g w W) (hoe : Only g W we) (hr : w.heap.size = r) (hgr : g < r)
    (hrw : we.heap[r]? = some (.cells #[u0, u1] 166 (0, 0))) (hbe : PsAt we g t e b) (x y : Value) :
    (((we.setCell ⟨r, 0, none⟩ x).setCell ⟨r, 1, none⟩ y).drew).cell? ⟨r, 0, none⟩ = some x ∧ (((we.setCell ⟨r, 0, none⟩ x).setCell ⟨r, 1, none⟩ y).drew).cell? ⟨r, 1, none⟩ = some y ∧
      PsAt (((we.setCell ⟨r, 0, none⟩ x).setCell ⟨r, 1, none⟩ y).drew) g t e b ∧ Only g w (((we.setCell ⟨r, 0, none⟩ x).setCell ⟨r, 1, none⟩ y).drew) := by
  have hd : Below ((we.setCell ⟨r, 0, none⟩ x).setCell ⟨r, 1, none⟩ y).heap.size _ (((we.setCell ⟨r, 0, none⟩ x).setCell ⟨r, 1, none⟩ y).drew) := ext_drew (Below.refl _ _)
  obtain ⟨c0, c1, c2, c3⟩ := tok_done0 ho1 hoe hr hgr hrw hbe x y
  exact ⟨c0, c1, c2.later hd, Only.later c3 hd⟩
set_option maxHeartbeats 4000000 in
theorem peek_walk (g : Nat) (t : ByteArray) (e a : Nat) (w : World) (h : PsAt w g t e a) (ha : a ≤ t.size) (hs : t.size < 1073741824) :
    Calls Tryz.prog 134 #[.pointer (some ⟨g, 0, none⟩)] w fun en w' => PeekG g t e a w en w' := by
  have hlt := blk_lt h
  go_enter Tryz.func134, Tryz.ntmps134
  go_wp2
  obtain ⟨W, hW⟩ : ∃ W, w.alloc (.cells #[.string ⟨#[]⟩, .int .i64 0] 166) = W := ⟨_, rfl⟩
  have h1 : PsAt W g t e a := by rw [← hW]; exact h.later (ext_alloc (Below.refl _ _) _)
  have ho1 : Only g w W := by rw [← hW]; exact only_of_below (ext_alloc (Below.refl _ _) _) _
  have hr1 : ∃ x, W.heap[w.heap.size]? = some (.cells #[.string ⟨#[]⟩, x] 166 (0, 0)) := by rw [← hW]; exact ⟨_, heap_alloc_new _ _⟩
  have hst : startT t a = startT t a := rfl
  rw [hW]
  obtain ⟨r, hr⟩ : ∃ r, w.heap.size = r := ⟨_, rfl⟩
  rw [hr] at hr1 hlt ⊢
  have hgr := hlt
  clear hlt
  replace hW := hide hW
  replace hr := hide hr
  go_loopw [] (fun wr => ∃ b, PsAt wr g t e b ∧ b ≤ t.size ∧ Hid (startT t b = startT t a) ∧ Only g W wr) (fun wr => psLeft g t wr)
  case atStart => exact ⟨a, h1, ha, rfl, Only.refl _ _⟩
  case round =>
    obtain ⟨b, hb, hbl, hst, ho⟩ := hrel
    obtain ⟨c0, c1, c2, hf, hgl⟩ := ps_cells hb
    have f2 := hf 2
    have hlw := hide (psLeft_at hb)
    have hbd := hb.later (ext_drew (Below.refl _ _))
    have hod := ho.later (ext_drew (Below.refl _ _))
    obtain ⟨d0, d1, d2, hfd, -⟩ := ps_cells hbd
    have hfd2 := hfd 2
    clear hfd ho
    by_cases hlt : b < t.size
    · obtain ⟨n, hn⟩ : ∃ n, t[b].toNat = n := ⟨_, rfl⟩
      have hn256 : n < 256 := by rw [← hn]; exact t[b].toNat_lt
      have hbn : blankC t[b] = blankN n := by rw [blankC_nat, hn]
      have hz0 : (0 : Int) ≤ (b : Int) := by omega
      have hz1 : (b : Int) < (t.size : Int) := by omega
      by_cases q : n = 32 ∨ n = 9
      · have hgo : Hid (startT t (b + 1) = startT t a) := by
          rw [← hst.out]
          exact (passT_go hlt (by rw [hbn]; exact decide_eq_true q)).symm
        have hbl' : ((b : Int) + 1) ≤ 9223372036854775807 := by omega
        have hset := hide (ps_set hbd (b + 1))
        clear hbn hbd
        rcases q with rfl | rfl
        all_goals
          go_wp2
          go_region
          clear c0 c1 c2 f2 hb
          generalize wr.drew = wd at *
          go_wp2
          go_roundw
          case rel => exact ⟨b + 1, hset.out.1, by omega, hgo, hod.trans hset.out.2⟩
          case measure =>
            rw [hlw.out, show ((b : Int) + 1) = ((b + 1 : Nat) : Int) from rfl, psLeft_at hset.out.1]
            omega
      · have hend : Hid (startT t a = b) := by
          rw [← hst.out]
          exact passT_stop hlt (by rw [hbn]; exact decide_eq_false q)
        have q1 : ((n : Int) == 32) = false := by rw [beq_eq_false_iff_ne]; omega
        have q2 : ((n : Int) == 9) = false := by rw [beq_eq_false_iff_ne]; omega
        have q0 : ((b : Int) == (t.size : Int)) = false := by rw [beq_eq_false_iff_ne]; omega
        replace q := hide q
        clear hbn
        go_wp2
        go_region
        clear c0 c1 c2 f2 hb hlw q1 q2
        generalize wr.drew = wd at *
        go_wp2
        go_region
        have hbe := hbd.later (ext_drew (Below.refl _ _))
        have hoe := hod.later (ext_drew (Below.refl _ _))
        clear d0 d1 d2 hfd2 hbd hod
        generalize wd.drew = we at *
        obtain ⟨d0, d1, d2, hfd, hgle⟩ := ps_cells hbe
        clear hfd
        obtain ⟨x0, hr1⟩ := hr1
        have hrw : we.heap[r]? = some (.cells #[.string ⟨#[]⟩, x0] 166 (0, 0)) := (hoe.block r (blk_lt hr1) (by intro e; injection e with e; omega)).trans hr1
        obtain ⟨y0, y1, hfr⟩ := tok_cells hrw
        have fr0 := hfr 0
        have fr1 := hfr 1
        have hrl := blk_lt hrw
        clear hfr
        go_wp2
        go_loopw [3] (fun i wr => ∃ k : Nat, b ≤ k ∧ k ≤ t.size ∧ i = .int .i64 k ∧ Hid (passT wordC t b = passT wordC t k) ∧ wr = we) (fun i _ => t.size - (intOf i).toNat)
        case atStart => exact ⟨b, Nat.le_refl _, by omega, rfl, rfl, rfl⟩
        case round =>
          obtain ⟨k, hbk, hkl, rfl, hpk, rfl⟩ := hrel
          by_cases hk : k < t.size
          · obtain ⟨m, hm⟩ : ∃ m, t[k].toNat = m := ⟨_, rfl⟩
            have hwm : wordC t[k] = wordN m := by rw [wordC_nat, hm]
            have hk0 : (0 : Int) ≤ (k : Int) := by omega
            have hk1 : (k : Int) < (t.size : Int) := by omega
            have hcall := sletter_walk m
            cases hw : wordN m with
            | true =>
              rw [hw] at hcall
              have hnx : Hid (passT wordC t b = passT wordC t (k + 1)) := by rw [hpk.out]; exact passT_go hk (hwm.trans hw)
              clear hwm hw
              have hkb : ((k : Int) + 1) ≤ 9223372036854775807 := by omega
              go_wp2_with (go_at_call 178; refine (hcall _).mono ?_; rintro e w' ⟨rfl, rfl⟩)
              go_roundw
              case rel => exact ⟨k + 1, by omega, by omega, by go_num, hnx, by first | rfl | trivial⟩
              case measure => simp [intOf]; omega
            | false =>
              rw [hw] at hcall
              have hnx : passT wordC t b = k := by rw [hpk.out]; exact passT_stop hk (hwm.trans hw)
              by_cases hkb : k = b
              · subst hkb
                have hmn : m = n := hm.symm.trans hn
                subst hmn
                have hsn : signC t[k] = signN6 m := by rw [signC_nat, hm]
                have hix := sign6_ix hn256
                have hkk : ((k : Int) == (k : Int)) = true := beq_self_eq_true _
                cases hsg : signN6 m with
                | true =>
                  rw [hsg] at hix
                  have hix : ¬ Lib.indexByte [58, 44, 40, 41, 91, 93] (Int.toNat (m : Int)).toUInt8 < 0 := by simpa using hix
                  have hlk : lookT t e a = .tok (t.extract k (k + 1)) k := by
                    unfold lookT
                    rw [hend.out, dif_pos hlt, if_neg (by omega), if_pos (by rw [← hsg, ← hsn]; rfl)]
                  replace hlk := hide hlk
                  replace hnx := hide hnx
                  clear hwm hw hsn
                  obtain ⟨ix, hixe⟩ : ∃ ix, Lib.indexByte [58, 44, 40, 41, 91, 93] (Int.toNat (m : Int)).toUInt8 = ix := ⟨_, rfl⟩
                  rw [hixe] at hix
                  replace hixe := hide hixe
                  have hkb : ((k : Int) + 1) ≤ (t.size : Int) := by omega
                  go_wp2_with (first | (go_at_call 178; refine (hcall _).mono ?_; rintro e w' ⟨rfl, rfl⟩) | (go_at_call 179; refine (Tryz.strings_IndexByte _ _ _).mono ?_; rintro e w' ⟨rfl, rfl⟩; rw [hixe.out]))
                  obtain ⟨z0, z1, z2, z3⟩ := tok_done ho1 hoe hr.out hgr hrw hbe (.string (t.extract k (k + 1))) (.int .i64 (k : Int))
                  have hdone := hide (PeekG.tok_ hlk.out z3 (hend.out ▸ z2))
                  clear z2 z3
                  go_region
                  clear hrw y0 y1 fr0 fr1 hrl hbe d0 d1 d2 hoe
                  generalize ((World.setCell _ _ _).setCell _ _).drew = wf at *
                  go_wp2
                  exact end_tok rfl r _ _ rfl rfl z0 z1 hdone.out
                | false =>
                  rw [hsg] at hix
                  have hix : Lib.indexByte [58, 44, 40, 41, 91, 93] (Int.toNat (m : Int)).toUInt8 < 0 := by simpa using hix
                  have hlk : lookT t e a = .bad k := by
                    unfold lookT
                    rw [hend.out, dif_pos hlt, if_neg (by omega), if_neg (by show ¬ signC t[k] = true; rw [hsn, hsg]; decide)]
                  replace hlk := hide hlk
                  replace hnx := hide hnx
                  clear hwm hw hsn
                  obtain ⟨ix, hixe⟩ : ∃ ix, Lib.indexByte [58, 44, 40, 41, 91, 93] (Int.toNat (m : Int)).toUInt8 = ix := ⟨_, rfl⟩
                  rw [hixe] at hix
                  replace hixe := hide hixe
                  go_wp2_with (first | (go_at_call 178; refine (hcall _).mono ?_; rintro e w' ⟨rfl, rfl⟩) | (go_at_call 179; refine (Tryz.strings_IndexByte _ _ _).mono ?_; rintro e w' ⟨rfl, rfl⟩; rw [hixe.out]) | (go_at_call 137; refine (sfail_walk _ _ _ _).mono ?_; rintro e w' ⟨rfl, rfl⟩))
                  exact ⟨rfl, PeekG.bad_ hlk.out (ho1.trans hoe)⟩
              · have hkb : ((k : Int) == (b : Int)) = false := by rw [beq_eq_false_iff_ne]; omega
                have hlk : lookT t e a = .tok (t.extract b k) b := by
                  unfold lookT
                  rw [hend.out, dif_pos hlt, hnx, if_pos (by omega)]
                obtain ⟨z0, z1, z2, z3⟩ := tok_done ho1 hoe hr.out hgr hrw hbe (.string (t.extract b k)) (.int .i64 (b : Int))
                have hdone := hide (PeekG.tok_ hlk z3 (hend.out ▸ z2))
                have hbk0 : (b : Int) ≤ (k : Int) := by omega
                have hkl0 : (k : Int) ≤ (t.size : Int) := by omega
                replace hnx := hide hnx
                clear z2 z3 hlk hwm hw
                go_wp2_with (go_at_call 178; refine (hcall _).mono ?_; rintro e w' ⟨rfl, rfl⟩)
                go_region
                clear hrw y0 y1 fr0 fr1 hrl hbe d0 d1 d2 hoe
                generalize ((World.setCell _ _ _).setCell _ _).drew = wf at *
                go_wp2
                exact end_tok rfl r _ _ rfl rfl z0 z1 hdone.out
          · obtain rfl : k = t.size := by omega
            have hnx : passT wordC t b = t.size := by rw [hpk.out]; exact passT_end hk
            have hkb : ((t.size : Int) == (b : Int)) = false := by rw [beq_eq_false_iff_ne]; omega
            have hlk : lookT t e a = .tok (t.extract b t.size) b := by
              unfold lookT
              rw [hend.out, dif_pos hlt, hnx, if_pos (by omega)]
            obtain ⟨z0, z1, z2, z3⟩ := tok_done ho1 hoe hr.out hgr hrw hbe (.string (t.extract b t.size)) (.int .i64 (b : Int))
            have hdone := hide (PeekG.tok_ hlk z3 (hend.out ▸ z2))
            have hbk0 : (b : Int) ≤ (t.size : Int) := by omega
            replace hnx := hide hnx
            clear z2 z3 hlk
            go_wp2
            go_region
            clear hrw y0 y1 fr0 fr1 hrl hbe d0 d1 d2 hoe
            generalize ((World.setCell _ _ _).setCell _ _).drew = wf at *
            go_wp2
            exact end_tok rfl r _ _ rfl rfl z0 z1 hdone.out
    · obtain rfl : b = t.size := by omega
      have hend : startT t a = t.size := by rw [← hst.out]; exact passT_end hlt
      have hlk : lookT t e a = .tok ⟨#[]⟩ e := by
        unfold lookT
        rw [hend, dif_neg (by omega)]
      replace hend := hide hend
      go_wp2
      go_region
      clear c0 c1 c2 f2 hb hlw
      generalize wr.drew = wd at *
      go_wp2
      go_region
      have hbe := hbd.later (ext_drew (Below.refl _ _))
      have hoe := hod.later (ext_drew (Below.refl _ _))
      clear d0 d1 d2 hfd2 hbd hod
      generalize wd.drew = we at *
      obtain ⟨d0, d1, d2, hfd, hgle⟩ := ps_cells hbe
      clear hfd
      obtain ⟨x0, hr1⟩ := hr1
      have hrw : we.heap[r]? = some (.cells #[.string ⟨#[]⟩, x0] 166 (0, 0)) := (hoe.block r (blk_lt hr1) (by intro e; injection e with e; omega)).trans hr1
      obtain ⟨y0, y1, hfr⟩ := tok_cells hrw
      have fr0 := hfr 0
      have fr1 := hfr 1
      have hrl := blk_lt hrw
      clear hfr
      obtain ⟨z0, z1, z2, z3⟩ := tok_done0 ho1 hoe hr.out hgr hrw hbe (.string ⟨#[]⟩) (.int .i64 (e : Int))
      have hdone := hide (PeekG.tok_ hlk z3 (hend.out ▸ z2))
      clear z2 z3 hlk
      go_wp2
      exact end_tok rfl r _ _ rfl rfl z0 z1 hdone.out
end Go.Proofs.YtdnnahdafhddlaaGreatDoor
