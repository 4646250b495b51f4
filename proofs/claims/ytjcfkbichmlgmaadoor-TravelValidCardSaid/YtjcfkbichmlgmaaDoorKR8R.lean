/- Walks of timetableref07.Found, timetableref02.Whole, At. Conditions: the record's cells. Walk of timetableref08.one. Conditions: the cells. Walk of timetableref08.unknown. No condition but the length. Walk of timetableref08.Read. Conditions: the cells. -/
import Derived.Test.YtjcfkbichmlgmaaDoorKFieldsC
import Derived.Test.YtjcfkbichmlgmaaDoorKEnds
import Derived.Test.YtjcfkbichmlgmaaDoorKTravR
namespace Go.Proofs.YtjcfkbichmlgmaaDoor
open Go.RowKit
set_option maxRecDepth 100000

theorem load4p (w : World) (g : Nat) (a b c d : Value) (h0 : w.cell? ⟨g, 0, none⟩ = some a) (h1 : w.cell? ⟨g, 1, none⟩ = some b) (h2 : w.cell? ⟨g, 2, none⟩ = some c) (h3 : w.cell? ⟨g, 3, none⟩ = some d) :
    (loadVar 82 ⟨g, 0, none⟩).run Tryd.prog w = .ok (.agg #[a, b, c, d]) w := by
  simp [go_sem, h0, h1, h2, h3]
theorem end_prob {fn : Func} {p : Tmp} (hr : fn.results = #[.cell p 82]) {Q : Ending → World → Prop} {act : Act} {w : World} (g : Nat) (a b c d : Value) (hd : act.defers = [])
    (hp : act.tmps.getD p undef = .pointer (some ⟨g, 0, none⟩))
    (h : ∀ j, j < 4 → ∃ v, w.cell? ⟨g, j, none⟩ = some v)
    (hQ : Q (.returned (.agg #[a, b, c, d])) ((((w.setCell ⟨g, 0, none⟩ a).setCell ⟨g, 1, none⟩ b).setCell ⟨g, 2, none⟩ c).setCell ⟨g, 3, none⟩ d)) :
    bodyPost Tryd.prog fn Q .ret act ((((w.setCell ⟨g, 0, none⟩ a).setCell ⟨g, 1, none⟩ b).setCell ⟨g, 2, none⟩ c).setCell ⟨g, 3, none⟩ d) := by
  obtain ⟨h0, h1, h2, h3⟩ := set4_cells w g a b c d h _ rfl
  refine bodyPost_ret (v := .agg #[a, b, c, d]) ?_ hd hQ
  simp only [results, hr]
  simp [Sem.run_bind, Result.andThen, -Array.getD_eq_getD_getElem?]
  rw [hp]
  simp only [asAddr, Sem.run_pure]
  rw [load4p _ g a b c d h0 h1 h2 h3]
theorem end_prob1 {fn : Func} {p : Tmp} (hr : fn.results = #[.cell p 82]) {Q : Ending → World → Prop} {act : Act} {w : World} (g : Nat) (a b c d : Value) (hd : act.defers = [])
    (hp : act.tmps.getD p undef = .pointer (some ⟨g, 0, none⟩))
    (h0 : w.cell? ⟨g, 0, none⟩ = some a) (h1 : w.cell? ⟨g, 1, none⟩ = some b) (h2 : w.cell? ⟨g, 2, none⟩ = some c) (h3 : w.cell? ⟨g, 3, none⟩ = some d)
    (hQ : Q (.returned (.agg #[a, b, c, d])) w) : bodyPost Tryd.prog fn Q .ret act w := by
  refine bodyPost_ret (v := .agg #[a, b, c, d]) ?_ hd hQ
  simp only [results, hr]
  simp [Sem.run_bind, Result.andThen, -Array.getD_eq_getD_getElem?]
  rw [hp]
  simp only [asAddr, Sem.run_pure]
  rw [load4p _ g a b c d h0 h1 h2 h3]
/-- The place of a problem: of a field, or (-1) of the record. -/
def placeOf (fs : List Fld) (k : Int) : Int := if k < 0 then 0 else colAt fs (k.toNat + 1)
end Go.Proofs.YtjcfkbichmlgmaaDoor

namespace Go.Proofs.YtjcfkbichmlgmaaDoor
open Go.RowKit
set_option maxRecDepth 100000

def oneKE8 (fs : List Fld) (ws : List Way) (nm : List ByteArray) : Option (Int × Int) := if fs.length = 3 then refKE fs ws nm else some (-1, 9)
def keV (o : Option (Int × Int)) : Int × Int := o.getD (0, 0)
def One8 (fs : List Fld) (K : Option (Int × Int)) (w : World) (e : Ending) (w' : World) : Prop :=
  ∃ x : Way, e = .returned (.tuple #[.agg #[.string x.1, .string x.2.1, .int .i64 x.2.2], .int .i64 (keV K).1, .int .i64 (keV K).2]) ∧ (K = none → x = wayOf fs) ∧ Below w.heap.size w w'
theorem one8_some {fs : List Fld} {K : Option (Int × Int)} {w w' : World} {a b : ByteArray} {n k er : Int} (hK : K = some (k, er)) (hb : Below w.heap.size w w') : One8 fs K w (.returned (.tuple #[.agg #[.string a, .string b, .int .i64 n], .int .i64 k, .int .i64 er])) w' := by
  subst hK
  exact ⟨(a, b, n), rfl, (fun h => by cases h), hb⟩
theorem three_cells {w : World} {g : Nat} {a b c : Value} {t : TypeId} (h : w.heap[g]? = some (.cells #[a, b, c] t (0, 0))) : w.cell? ⟨g, 0, none⟩ = some a ∧ w.cell? ⟨g, 1, none⟩ = some b ∧ w.cell? ⟨g, 2, none⟩ = some c ∧ (∀ j, w.frozen? ⟨g, j, none⟩ = false) := by
  refine ⟨?_, ?_, ?_, fun j => by simp [World.frozen?, h]⟩ <;> rw [cell_of_row w g _ _ _ _ h] <;> rfl
theorem three_set {W : World} {g : Nat} {a b c x y z : Value} (h0 : W.cell? ⟨g, 0, none⟩ = some a) (h1 : W.cell? ⟨g, 1, none⟩ = some b) (h2 : W.cell? ⟨g, 2, none⟩ = some c) :
    (((W.setCell ⟨g, 0, none⟩ x).setCell ⟨g, 1, none⟩ y).setCell ⟨g, 2, none⟩ z).cell? ⟨g, 0, none⟩ = some x ∧ (((W.setCell ⟨g, 0, none⟩ x).setCell ⟨g, 1, none⟩ y).setCell ⟨g, 2, none⟩ z).cell? ⟨g, 1, none⟩ = some y ∧ (((W.setCell ⟨g, 0, none⟩ x).setCell ⟨g, 1, none⟩ y).setCell ⟨g, 2, none⟩ z).cell? ⟨g, 2, none⟩ = some z := by
  obtain ⟨k0, k1⟩ := two_setT h0 h1 (x := x) (y := y)
  have k2 : ((W.setCell ⟨g, 0, none⟩ x).setCell ⟨g, 1, none⟩ y).cell? ⟨g, 2, none⟩ = some c := (World.cell?_setCell_other _ _ _ _ (by simp)).trans ((World.cell?_setCell_other _ _ _ _ (by simp)).trans h2)
  exact ⟨(World.cell?_setCell_other _ _ _ _ (by simp)).trans k0, (World.cell?_setCell_other _ _ _ _ (by simp)).trans k1, World.cell?_setCell_same _ _ _ k2⟩
theorem below_set3 {w W : World} {g : Nat} (h : Below w.heap.size w W) (hg : w.heap.size ≤ g) (x y z : Value) : Below w.heap.size w (((W.setCell ⟨g, 0, none⟩ x).setCell ⟨g, 1, none⟩ y).setCell ⟨g, 2, none⟩ z) :=
  ext_set (ext_set (ext_set h (p := ⟨g, 0, none⟩) hg x) (p := ⟨g, 1, none⟩) hg y) (p := ⟨g, 2, none⟩) hg z
theorem textAt_get {fs : List Fld} {k : Nat} (h : k < fs.length) : (fs[k]'h).1 = textAt fs k := by
  unfold textAt; rw [List.getD_eq_getElem?_getD, List.getElem?_eq_getElem h]; rfl
end Go.Proofs.YtjcfkbichmlgmaaDoor

namespace Go.Proofs.YtjcfkbichmlgmaaDoor
open Go.RowKit
set_option maxRecDepth 100000

def rowTo (n j k : Nat) : List Int := (List.range n).map fun i => if i < k ∧ i ≠ j then -1 else 0
theorem rowTo_zero (n j : Nat) : rowTo n j 0 = List.replicate n 0 := by
  unfold rowTo
  apply List.ext_getElem
  · simp
  · intro i h1 h2; simp
theorem rowTo_all {n j : Nat} : rowTo n j n = unkRow n j := by
  unfold rowTo unkRow
  apply List.ext_getElem
  · simp
  · intro i h1 h2
    simp only [List.length_map, List.length_range] at h1
    rw [List.getElem_set]
    simp only [List.getElem_map, List.getElem_range, List.getElem_replicate]
    by_cases h : j = i
    · rw [if_pos h, if_neg (fun e => e.2 h.symm)]
    · rw [if_neg h, if_pos ⟨h1, fun e => h e.symm⟩]
theorem rowTo_set {n j k : Nat} (h : k ≠ j) : (rowTo n j k).set k (-1) = rowTo n j (k + 1) := by
  unfold rowTo
  apply List.ext_getElem
  · simp
  · intro i h1 h2
    rw [List.getElem_set]
    simp only [List.getElem_map, List.getElem_range]
    by_cases e : k = i
    · subst e; rw [if_pos rfl, if_pos ⟨Nat.lt_succ_self _, h⟩]
    · rw [if_neg e]
      by_cases e2 : i < k ∧ i ≠ j
      · rw [if_pos e2, if_pos ⟨by omega, e2.2⟩]
      · rw [if_neg e2, if_neg (fun q => e2 ⟨by omega, q.2⟩)]
theorem rowTo_skip (n k : Nat) : rowTo n k k = rowTo n k (k + 1) := by
  unfold rowTo
  apply List.ext_getElem
  · simp
  · intro i h1 h2
    simp only [List.getElem_map, List.getElem_range]
    by_cases e : i < k ∧ i ≠ k
    · rw [if_pos e, if_pos ⟨by omega, e.2⟩]
    · rw [if_neg e, if_neg (fun q => e ⟨by omega, q.2⟩)]
theorem rowTo_get {n j k i : Nat} (h : i < n) : ∃ z, (rowTo n j k)[i]? = some z := by
  refine ⟨_, List.getElem?_eq_getElem ?_⟩
  simpa [rowTo] using h
def UnkEnd (A : Option Addr) (nm : List ByteArray) (c : Nat) (w : World) (e : Ending) (w' : World) : Prop :=
  ∃ v hs, e = .returned (.agg #[.slice A nm.length c, v]) ∧ Mat nm.length w.heap.size w' v hs (unkM nm.length) ∧ Below w.heap.size w w'
abbrev TU (w1 : World) (v : Value) (n : Nat) (hs : List Nat) (m : List (List Int)) (W : World) : Prop := TR 59 w1 (.slice none 0 0) (.slice none 0 0) (.slice none 0 0) v [] [] [] n hs m W
def UnkLoop (w1 : World) (g n : Nat) (a : Value) (i : Value) (wr : World) : Prop :=
  ∃ (j : Nat) (hs : List Nat) (v : Value), j ≤ n ∧ i = .int .i64 j ∧ TBox wr g a v ∧ TU w1 v n hs ((unkM n).take j) wr
def UnkIn (w1 : World) (g n j h : Nat) (hs : List Nat) (a v : Value) (i : Value) (wr : World) : Prop :=
  ∃ k : Nat, k ≤ n ∧ i = .int .i64 k ∧ TBox wr g a v ∧ TU w1 v n hs ((unkM n).take j) wr ∧ RowOwn w1.heap.size n wr h (rowTo n j k) ∧ h < wr.heap.size
set_option maxHeartbeats 8000000 in
theorem r8unk_walk (A : Option Addr) (nm : List ByteArray) (c : Nat) (w : World) (hn : nm.length ≤ 1000) :
    Calls Tryd.prog 21 #[.slice A nm.length c] w fun e w' => UnkEnd A nm c w e w' := by
  have hb0 : Below w.heap.size w (w.alloc (.cells #[.slice none 0 0, .slice none 0 0] 25)) := (by repeat (first | exact Below.refl _ _ | refine ext_alloc ?_ _ | refine ext_drewN ?_ _ | refine ext_drew ?_ | refine ext_trans ?_ (by assumption)))
  have r0 : TBox (w.alloc (.cells #[.slice none 0 0, .slice none 0 0] 25)) w.heap.size (.slice none 0 0) (.slice none 0 0) := heap_alloc_new _ _
  have hfin : Hid (∀ e w', UnkEnd A nm c w e w' = (∃ v hs, e = .returned (.agg #[.slice A nm.length c, v]) ∧ Mat nm.length w.heap.size w' v hs (unkM nm.length) ∧ Below w.heap.size w w')) := hide fun _ _ => rfl
  obtain ⟨w1, hw1⟩ : ∃ w1, w.alloc (.cells #[.slice none 0 0, .slice none 0 0] 25) = w1 := ⟨_, rfl⟩
  rw [hw1] at hb0 r0
  obtain ⟨n, hnn⟩ : ∃ n, nm.length = n := ⟨_, rfl⟩
  rw [hnn] at hn hfin ⊢
  obtain ⟨rg, hrg⟩ : ∃ rg, w.heap.size = rg := ⟨_, rfl⟩
  rw [hrg] at r0
  have hrl := blk_lt r0
  have hbx4 : TBox (w1.alloc (.cells #[.slice A n c, .slice none 0 0] 25)) w1.heap.size (.slice A n c) (.slice none 0 0) := heap_alloc_new _ _
  have hT4 : TU w1 (.slice none 0 0) n [] [] (w1.alloc (.cells #[.slice A n c, .slice none 0 0] 25)) := ⟨Own.nil, Own.nil, World.ownsRow_nil _ _ _ _, Mat.nil, ext_alloc (Below.refl _ _) _⟩
  obtain ⟨w4, hw4⟩ : ∃ w4, w1.alloc (.cells #[.slice A n c, .slice none 0 0] 25) = w4 := ⟨_, rfl⟩
  rw [hw4] at hbx4 hT4
  have hs1 : w1.heap.size = rg + 1 := by rw [← hw1, World.size_alloc, hrg]
  obtain ⟨g, hg⟩ : ∃ g, rg + 1 = g := ⟨_, rfl⟩
  rw [hs1, hg] at hbx4
  have hg1 : w1.heap.size ≤ g := by omega
  replace hs1 := hide hs1
  obtain ⟨iI, hiI, hI0, hI1, hI2⟩ := info_parts infoInt3
  replace hw4 := hide hw4
  replace hg := hide hg
  replace hw1 := hide hw1
  replace hrg := hide hrg
  clear hnn
  go_enter Tryd.func21, Tryd.ntmps21
  go_wp2_with fail
  rw [hw1.out, hrg.out, hw4.out, hg.out]
  go_loopw [4] (fun i wr => UnkLoop w1 g n (.slice A n c) i wr) (fun i _ => n - (intOf i).toNat)
  case atStart => exact ⟨0, [], _, Nat.zero_le _, rfl, hbx4, hT4⟩
  case round =>
    obtain ⟨j, hs, v, hj, rfl, hbx, hT⟩ := hrel
    clear hbx4 hT4
    by_cases hlt : j < n
    · have hgl := blk_lt hbx
      have hj0 : (0 : Int) ≤ (j : Int) := by omega
      have hj1 : (j : Int) < (n : Int) := by omega
      go_wp2_with (at_make; refine wpList_make_full _ rfl _ _ 43 rfl w1.heap.size 3 iI (.int .i64 0) 1 Tryd.underlying43 hiI hI0 hI1 .i64 .i64 n n n rfl rfl rfl rfl ?b2 ?b3 ?b4 ?_)
      case b2 => rw [hI2]; omega
      case b3 => unfold maxLen; omega
      case b4 => exact hT.below.size
      intro w2 hown hgrow
      have hbw : Below wr.heap.size wr w2 := Below.grown (Below.refl _ _) hgrow (Nat.le_refl _) (fun k hk => by cases hk)
      rw [toList_madeCells_one] at hown
      have hr2 : RowOwn w1.heap.size n w2 wr.heap.size (rowTo n j 0) := by
        rw [rowTo_zero]; unfold RowOwn ints; rw [List.map_replicate]; exact ⟨_, hown⟩
      have hT2 := hT.later hbw
      have hbx2 := tbox_later hbx hbw
      have hlt1 : Hid (∀ c ∈ hs, c ≠ wr.heap.size) := hide fun c hc => by have := (hT.mat.lt c hc).2; omega
      have hz := hT.below.size
      obtain ⟨h, hh⟩ : ∃ h, wr.heap.size = h := ⟨_, rfl⟩
      rw [hh] at hr2 hlt1 hgl
      have hhl : h < w2.heap.size := by obtain ⟨cur, -, hb⟩ := row_blk hr2; exact blk_lt hb
      have hhw : w1.heap.size ≤ h := by omega
      clear hT hbx hown hgrow hbw
      replace hh := hide hh
      go_wp2_with fail
      rw [hh.out]
      go_loopw [6] (fun i wr => UnkIn w1 g n j h hs (.slice A n c) v i wr) (fun i _ => n - (intOf i).toNat)
      case atStart => exact ⟨0, Nat.zero_le _, rfl, hbx2, hT2, hr2, hhl⟩
      case round =>
        clear hhl
        obtain ⟨k, hk, rfl, hbx, hT, hr, hhl⟩ := hrel
        clear hbx2 hT2 hr2
        by_cases hlt2 : k < n
        · have hk0 : (0 : Int) ≤ (k : Int) := by omega
          have hk1 : (k : Int) < (n : Int) := by omega
          by_cases hkj : k = j
          · have hr3 : RowOwn w1.heap.size n wr h (rowTo n j (k + 1)) := by rw [hkj, ← rowTo_skip, ← hkj]; rw [← hkj] at hr; exact hr
            clear hr
            subst hkj
            go_wp2_with fail
            go_roundw
            case rel => exact ⟨k + 1, by omega, by go_num, hbx, hT, hr3, hhl⟩
            case measure => simp [intOf]; omega
          · obtain ⟨z, hz⟩ := rowTo_get (j := j) (k := k) hlt2
            have q0 := row_cell hr hz
            have qf := row_free hr k
            have hT3 := hT.beside (k := k) apart_way hr hhw hlt1.out (.int .i64 (-1))
            obtain ⟨hr3, ho3⟩ := row_set (k := k) hr (-1)
            rw [rowTo_set hkj] at hr3
            have hbx3 := tbox_only hbx ho3 (by omega)
            have hkji : ¬ ((k : Int) = (j : Int)) := by omega
            clear hT hr hbx ho3 hz
            go_wp2_with fail
            go_roundw
            case rel => exact ⟨k + 1, by omega, by go_num, hbx3, hT3, hr3, by simpa using hhl⟩
            case measure => simp [intOf]; omega
        · obtain rfl : k = n := by omega
          rw [rowTo_all] at hr
          obtain ⟨e0, e1, f0, f1⟩ := tbox_cells hbx
          have hgl7 := blk_lt hbx
          go_wp2_with (at_builtin; refine wpList_own rfl _ _ rfl (apd_rows k) (Nat.lt_succ_self 0) rfl (hT.mat.own.alloc _) ?d1 (by decide) ⟨_, 0, none⟩ 1 rfl h [.slice (some ⟨h, 0, none⟩) k k] ⟨_, Nat.le_refl _, rfl⟩ (World.news_of_block (cs := #[.slice (some ⟨h, 0, none⟩) k k]) (t := 43) (fr := (0, 0)) (heap_alloc_new _ _)) (by decide) (Nat.zero_le _) ?d2 ?_)
          case d1 => rw [hT.mat.len, List.length_take]; omega
          case d2 => rw [World.size_alloc]; have := hT.below.size; omega
          intro v' w8 hown8 hg8
          obtain ⟨A8, c8, rfl⟩ := hown8.form
          rw [show (hs ++ [h]).length = hs.length + 1 from by simp] at hown8
          have hbx8 := tbox_snoc (tbox_later hbx (ext_alloc (Below.refl _ _) _)) (hT.alloc _).mat hg8
          have hT8 := (hT.alloc _).snoc apart_way (hr.later (ext_alloc (Below.refl _ _) _)) hlt1.out hg8 hown8
          clear e0 e1 f0 f1 hT hbx hr hown8 hg8
          obtain ⟨e0, e1, f0, f1⟩ := tbox_cells hbx8
          have hgl8 := blk_lt hbx8
          have hbx9 := tbox_set hbx8 (.slice A8 (hs.length + 1) c8)
          have hT9 := hT8.only apart_way (only_setCell (p := ⟨g, 1, none⟩) (Only.refl g w8) (Or.inl rfl) (.slice A8 (hs.length + 1) c8)) hbx8 hg1
          rw [← unk_snoc _ _ hlt] at hT9
          clear hT8 hbx8
          go_wp2
          go_roundw
          case rel => exact ⟨j + 1, hs ++ [h], _, by omega, by go_num, hbx9, hT9⟩
          case measure => simp [intOf]; omega
    · obtain rfl : j = n := by omega
      have hall : (unkM j).take j = unkM j := List.take_of_length_le (by simp [unkM])
      rw [hall] at hT
      obtain ⟨e0, e1, -, -⟩ := tbox_cells hbx
      have hrr := tbox_later r0 hT.below
      obtain ⟨Av, nv, cv, rfl⟩ : ∃ A n c, v = .slice A n c := by obtain ⟨A, c, e⟩ := hT.mat.form; exact ⟨A, _, c, e⟩
      obtain ⟨o0, o1, f0, f1⟩ := tbox_cells hrr
      have hrl2 := blk_lt hrr
      have ho2 : Only rg wr ((wr.setCell ⟨rg, 0, none⟩ (.slice A j c)).setCell ⟨rg, 1, none⟩ (.slice Av nv cv)) := only_setCell (only_setCell (Only.refl rg wr) (Or.inl rfl) _) (Or.inl rfl) _
      obtain ⟨d1, d2, d3⟩ := hT.parts ho2 hrr
      have hbf : Below w.heap.size w ((wr.setCell ⟨rg, 0, none⟩ (.slice A j c)).setCell ⟨rg, 1, none⟩ (.slice Av nv cv)) := ext_set (ext_set (ext_trans hb0 hT.below) (p := ⟨rg, 0, none⟩) (Nat.le_of_eq hrg.out) _) (p := ⟨rg, 1, none⟩) (Nat.le_of_eq hrg.out) _
      obtain ⟨k0, k1⟩ := two_setT o0 o1 (x := .slice A j c) (y := .slice Av nv cv)
      have hz0 := hb0.size
      clear hT hbx hrr
      go_wp2
      refine end_trav1 rfl rg _ _ rfl rfl k0 k1 ?_
      rw [hfin.out]
      exact ⟨_, hs, rfl, d3.lower hz0, hbf⟩
end Go.Proofs.YtjcfkbichmlgmaaDoor

namespace Go.Proofs.YtjcfkbichmlgmaaDoor
open Go.RowKit
set_option maxRecDepth 100000

theorem refKE_ne {fs : List Fld} {ws : List Way} {nm : List ByteArray} {k er : Int} (h : refKE fs ws nm = some (k, er)) : er ≠ 0 ∧ k < 3 := by
  unfold refKE at h
  repeat' (split at h)
  all_goals first | (injection h with h; injection h with h1 h2; subst h1; subst h2; exact ⟨by decide, by decide⟩) | cases h
theorem oneKE_ne {fs : List Fld} {ws : List Way} {nm : List ByteArray} {k er : Int} (h : oneKE8 fs ws nm = some (k, er)) : er ≠ 0 ∧ k < fs.length := by
  unfold oneKE8 at h
  by_cases hm : fs.length = 3
  · rw [if_pos hm] at h; have := refKE_ne h; exact ⟨this.1, by omega⟩
  · rw [if_neg hm] at h; injection h with h; injection h with h1 h2; subst h1; subst h2; exact ⟨by decide, by omega⟩
theorem way_step8 (st : RW) (line : Int) (fs : List Fld) : wayStep st (line, fs) = match oneKE8 fs st.ls (bldV st.ls) with | some ke => ⟨st.ls, st.lines, st.ps ++ [foundP line fs ke]⟩ | none => ⟨st.ls ++ [wayOf fs], st.lines ++ [line], st.ps⟩ := by
  unfold wayStep oneKE8
  by_cases hm : fs.length = 3
  · rw [if_pos hm, if_pos hm]
    dsimp only
    rw [wayP_ref]
    cases refKE fs st.ls (bldV st.ls) <;> rfl
  · rw [if_neg hm, if_neg hm]
    rfl
section
variable {w0 W W' : World} {u4 u5 u6 : Value} {ls : List Way} {ps : List Prob} {nm : List ByteArray}
end
end Go.Proofs.YtjcfkbichmlgmaaDoor
