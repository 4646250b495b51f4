/- Walk of timetableref07.Times. Conditions: texts shorter than 2^30 bytes; what the program's variables hold. -/
import Derived.Test.YtnbcaklnpflihaaGreatDoorKR9A
import Derived.Test.YtnbcaklnpflihaaGreatDoorKTgN
namespace Go.Proofs.YtnbcaklnpflihaaGreatDoor
open Go.RowKit
set_option maxRecDepth 100000

theorem r6Parse_at {d sl b m n : Int} {z : ByteArray} {x1 x2 x3 x4 er : Int} (hT : pieceT d sl b m n z = (x1, x2, x3, x4, er)) (hs : z.size < 1073741824) (w : World) (hS : Std w) (hW : Wds w) (hD : Dys w) :
    Calls Tryz.prog 87 #[.agg #[.int .i64 d, .int .i64 sl, .int .i64 b, .int .i64 m], .int .i64 n, .string z] w fun e w' => e = .returned (.tuple #[.agg #[.int .i64 x1, .int .i64 x2, .int .i64 x3, .int .i64 x4], .int .i64 er]) ∧ Below w.heap.size w w' := by
  have := r6Parse_walk d sl b m n z hs w hS hW hD
  unfold pieceT at hT
  rw [hT] at this
  exact this
/-- What the region of Times loads, and what the program's variables hold. -/
structure TSt (gb bs j : Nat) (d sl b m : Int) (z : ByteArray) (W : World) : Prop where
  g0 : W.cell? ⟨gb, 0, none⟩ = some (.int .i64 d)
  g1 : W.cell? ⟨gb, 1, none⟩ = some (.int .i64 sl)
  g2 : W.cell? ⟨gb, 2, none⟩ = some (.int .i64 b)
  g3 : W.cell? ⟨gb, 3, none⟩ = some (.int .i64 m)
  s : W.cell? ⟨bs, j, none⟩ = some (.string z)
  std : Std W
  wds : Wds W
  dys : Dys W
abbrev TS (gb bs j : Nat) (d sl b m : Int) (z : ByteArray) (W : World) : Prop := W.cell? ⟨gb, 0, none⟩ = some (.int .i64 d) ∧ W.cell? ⟨gb, 1, none⟩ = some (.int .i64 sl) ∧ W.cell? ⟨gb, 2, none⟩ = some (.int .i64 b) ∧ W.cell? ⟨gb, 3, none⟩ = some (.int .i64 m) ∧ W.cell? ⟨bs, j, none⟩ = some (.string z)
section
variable {gb bs j : Nat} {d sl b m : Int} {z : ByteArray} {W W' : World}
theorem TSt.cells (h : TSt gb bs j d sl b m z W) : TS gb bs j d sl b m z W := ⟨h.g0, h.g1, h.g2, h.g3, h.s⟩
theorem TSt.later (h : TSt gb bs j d sl b m z W) (hb : Below W.heap.size W W') : TSt gb bs j d sl b m z W' :=
  ⟨cell_later hb h.g0, cell_later hb h.g1, cell_later hb h.g2, cell_later hb h.g3, cell_later hb h.s, h.std.after hb, h.wds.after hb h.std, h.dys.after hb h.std⟩
theorem TSt.alloc (h : TSt gb bs j d sl b m z W) (o : Obj) : TSt gb bs j d sl b m z (W.alloc o) := h.later (ext_alloc (Below.refl _ _) _)
theorem TSt.drew (h : TSt gb bs j d sl b m z W) : TSt gb bs j d sl b m z W.drew := h.later (ext_drew (Below.refl _ _))
theorem TS.alloc (h : TS gb bs j d sl b m z W) (o : Obj) : TS gb bs j d sl b m z (W.alloc o) := ⟨cell_alloc_of h.1 o, cell_alloc_of h.2.1 o, cell_alloc_of h.2.2.1 o, cell_alloc_of h.2.2.2.1 o, cell_alloc_of h.2.2.2.2 o⟩
theorem TS.drew (h : TS gb bs j d sl b m z W) : TS gb bs j d sl b m z W.drew := h
theorem TS.set {c i : Nat} (h : TS gb bs j d sl b m z W) (h1 : gb ≠ c) (h2 : bs ≠ c) (u : Value) : TS gb bs j d sl b m z (W.setCell ⟨c, i, none⟩ u) := by
  have ho : ∀ (x y : Nat), x ≠ c → (W.setCell ⟨c, i, none⟩ u).cell? ⟨x, y, none⟩ = W.cell? ⟨x, y, none⟩ := fun x y hx => World.cell?_setCell_other _ _ _ _ (fun e => hx (by injection e with e1; exact e1.symm))
  exact ⟨(ho _ _ h1).trans h.1, (ho _ _ h1).trans h.2.1, (ho _ _ h1).trans h.2.2.1, (ho _ _ h1).trans h.2.2.2.1, (ho _ _ h2).trans h.2.2.2.2⟩
end
def PieceCut (gb bs j : Nat) (d sl b m n : Int) (z : ByteArray) (W : World) (e : Ending) (w' : World) : Prop :=
  ∃ x1 x2 x3 x4 er, pieceT d sl b m n z = (x1, x2, x3, x4, er) ∧ e = .returned (.tuple #[.agg #[.int .i64 x1, .int .i64 x2, .int .i64 x3, .int .i64 x4], .int .i64 er]) ∧ Below W.heap.size W w' ∧ TS gb bs j d sl b m z w' ∧ TSt gb bs j d sl b m z w'
theorem piece_cut {gb bs j : Nat} {d sl b m n : Int} {z : ByteArray} {W : World} {x1 x2 x3 x4 er : Int} (hT : pieceT d sl b m n z = (x1, x2, x3, x4, er)) (hs : z.size < 1073741824) (h : TSt gb bs j d sl b m z W) :
    Calls Tryz.prog 87 #[.agg #[.int .i64 d, .int .i64 sl, .int .i64 b, .int .i64 m], .int .i64 n, .string z] W fun e w' => e = .returned (.tuple #[.agg #[.int .i64 x1, .int .i64 x2, .int .i64 x3, .int .i64 x4], .int .i64 er]) ∧ Below W.heap.size W w' ∧ TS gb bs j d sl b m z w' ∧ TSt gb bs j d sl b m z w' ∧ W.heap.size ≤ w'.heap.size :=
  (r6Parse_at hT hs W h.std h.wds h.dys).mono fun _ _ ⟨he, hb⟩ => ⟨he, hb, (h.later hb).cells, h.later hb, hb.size⟩
/-- What reading a piece leaves. -/
def PieceBox (wr : World) (x1 x2 x3 x4 er : Int) (s11 s12 : Value) (wx : World) : Prop :=
  ∃ tb, s11 = .pointer (some ⟨tb, 0, none⟩) ∧ s12 = .int .i64 er ∧ Box4 wx tb (.int .i64 x1) (.int .i64 x2) (.int .i64 x3) (.int .i64 x4) ∧ Below wr.heap.size wr wx
theorem below_drewA {W w2 : World} (h : Below W.drew.heap.size W.drew w2) : Below W.heap.size W w2 := (ext_drew (Below.refl _ _)).trans h
theorem below_drewB {W w2 : World} {o : Obj} (h : Below (W.alloc o).drew.heap.size (W.alloc o).drew w2) : Below W.heap.size W w2 := (ext_drew (ext_alloc (Below.refl _ _) o)).trans (h.mono (by show W.heap.size ≤ (W.alloc o).heap.size; rw [World.size_alloc]; omega))
def R7Gives (d sl b m n : Int) (s : ByteArray) (w : World) (e : Ending) (w' : World) : Prop :=
  ∃ v, e = .returned (.tuple #[v, .int .i64 (timesE d sl b m n (partsOf s))]) ∧ TimesOwn w.heap.size w' v (if timesE d sl b m n (partsOf s) = 0 then (partsOf s).map (pieceV d sl b m n) else []) ∧ Below w.heap.size w w'
def R7Loop (d sl b m n : Int) (zs : List ByteArray) (w1 : World) (v i : Value) (wr : World) : Prop :=
  ∃ j : Nat, j ≤ zs.length ∧ i = .int .i64 j ∧ TimesOwn w1.heap.size wr v ((zs.take j).map (pieceV d sl b m n)) ∧ firstE (pieceE d sl b m n) (zs.take j) = 0 ∧ Below w1.heap.size w1 wr
theorem firstE_take {f : ByteArray → Int} {zs : List ByteArray} {j : Nat} (h : firstE f (zs.take j) ≠ 0) : firstE f zs = firstE f (zs.take j) := by
  have e : ∀ (l r : List ByteArray), firstE f l ≠ 0 → firstE f (l ++ r) = firstE f l := by
    intro l
    induction l with
    | nil => intro r h; exact absurd rfl h
    | cons x l ih =>
      intro r h
      simp only [List.cons_append, firstE] at h ⊢
      by_cases hx : f x = 0
      · simp only [hx, if_true] at h ⊢; exact ih r h
      · simp only [hx, if_false]
  have := e (zs.take j) (zs.drop j) h
  rw [List.take_append_drop] at this
  exact this
set_option maxHeartbeats 8000000 in
theorem r7Times_walk (d sl b m n : Int) (s : ByteArray) (hs : s.size < 1073741824) (w : World) (hS : Std w) (hW : Wds w) (hD : Dys w) :
    Calls Tryz.prog 52 #[.string s, .agg #[.int .i64 d, .int .i64 sl, .int .i64 b, .int .i64 m], .int .i64 n] w fun e w' => R7Gives d sl b m n s w e w' := by
  obtain ⟨zs, hz⟩ : ∃ zs, partsOf s = zs := ⟨_, rfl⟩
  have hb0 : Below w.heap.size w (w.alloc (.cells #[.int .i64 d, .int .i64 sl, .int .i64 b, .int .i64 m] 24)) := ext_alloc (Below.refl _ _) _
  by_cases h0 : s.size = 0
  · have e0 := isEmpty_true _ h0
    have e1 : s.toList = [] := List.isEmpty_iff.1 e0
    have hp : partsOf s = [] := by unfold partsOf; rw [if_pos h0]
    clear hS hW hD
    go_enter Tryz.func52, Tryz.ntmps52
    go_wp2
    go_ret2
    exact ⟨_, by rw [hp]; rfl, by rw [hp]; exact World.ownsRow_nil _ _ _ _, hb0⟩
  · have e0 := isEmpty_false _ h0
    have e1 : s.toList ≠ [] := fun e => by rw [e] at e0; cases e0
    obtain ⟨i0, hi, hz0, hz1, hz2⟩ := info_parts infoTime
    have hzl : zs.length ≤ 1073741825 := by have := partsOf_len s; rw [hz] at this; omega
    have hzm : ∀ z ∈ zs, z.size < 1073741824 := by have := partsOf_mem s; rw [hz] at this; intro z h; have := this z h; omega
    have hpar := r3parts_walk s hs h0 (w.alloc (.cells #[.int .i64 d, .int .i64 sl, .int .i64 b, .int .i64 m] 24))
    have bG := Box4.new w 24 (.int .i64 d) (.int .i64 sl) (.int .i64 b) (.int .i64 m)
    replace hzm := hide hzm
    replace hz := hide hz
    go_enter Tryz.func52, Tryz.ntmps52
    go_wp2_with fail
    refine hpar.mono ?_
    clear hpar
    rintro e w1 ⟨v8, rfl, hpo, hb1⟩
    rw [hz.out] at hpo
    obtain ⟨A8, c8, rfl⟩ := owns_form hpo
    have bG1 := bG.later hb1
    have hS1 := (hS.alloc (.cells #[.int .i64 d, .int .i64 sl, .int .i64 b, .int .i64 m] 24)).after hb1
    have hW1 := hW.after (ext_trans hb0 hb1) hS
    have hD1 := hD.after (ext_trans hb0 hb1) hS
    replace hb0 := ext_trans hb0 hb1
    have hz1w := hb0.size
    have hgl := bG1.lt
    obtain ⟨gb, hgb⟩ : ∃ gb, w.heap.size = gb := ⟨_, rfl⟩
    rw [hgb] at bG1 hgl ⊢
    obtain ⟨len, hlen⟩ : ∃ len, zs.length = len := ⟨_, rfl⟩
    rw [hlen] at hzl ⊢
    replace hlen := hide hlen
    replace hgb := hide hgb
    clear bG hb1
    go_wp2
    go_loopw [9, 10] (fun v i wr => R7Loop d sl b m n zs w1 v i wr) (fun _ i _ => len - (intOf i).toNat)
    case atStart => exact ⟨0, Nat.zero_le _, rfl, World.ownsRow_nil _ _ _ _, rfl, Below.refl _ _⟩
    case round =>
      obtain ⟨j, hj, rfl, hown, hfe, hbr⟩ := hrel
      rw [hlen.out] at hj
      by_cases hlt : j < len
      · obtain ⟨z, hzj⟩ : ∃ z, zs[j]? = some z := ⟨_, List.getElem?_eq_getElem (by rw [hlen.out]; exact hlt)⟩
        have hzz := hzm.out z (List.mem_of_getElem? hzj)
        obtain ⟨bs, rfl, hbs, hcl⟩ := own_at hpo (by rw [hlen.out]; omega)
        have hcj := hcl j (.string z) (by rw [List.getElem?_map, hzj]; rfl)
        obtain ⟨x1, x2, x3, x4, er, hT⟩ : ∃ x1 x2 x3 x4 er, pieceT d sl b m n z = (x1, x2, x3, x4, er) := ⟨_, _, _, _, _, rfl⟩
        have hts : Hid ((zs.take (j + 1)).map (pieceV d sl b m n) = (zs.take j).map (pieceV d sl b m n) ++ [(x1, x2, x3, x4)]) := by
          refine hide ((take_map _ zs j z hzj).trans ?_); unfold pieceV; rw [hT]
        have hes : Hid (firstE (pieceE d sl b m n) (zs.take (j + 1)) = er) := by
          refine hide ((take_first _ zs j z hzj).trans ?_); rw [if_pos hfe]; unfold pieceE; rw [hT]
        have hst : TSt gb bs j d sl b m z wr :=
          ⟨cell_later hbr bG1.c0, cell_later hbr bG1.c1, cell_later hbr bG1.c2, cell_later hbr bG1.c3, cell_later hbr hcj, hS1.after hbr, hW1.after hbr hS1, hD1.after hbr hS1⟩
        obtain ⟨ts, hts0⟩ : ∃ ts, (zs.take j).map (pieceV d sl b m n) = ts := ⟨_, rfl⟩
        have htl : ts.length ≤ j := by rw [← hts0, List.length_map]; exact List.length_take_le _ _
        rw [hts0] at hown hts
        have hrw := hbr.size
        have hgr : gb < wr.heap.size := by omega
        have hbsr : bs < wr.heap.size := by omega
        replace hT := hide hT
        replace hfe := hide hfe
        clear hts0 hzj hcl hcj
        go_upto_region 8 with fail
        have hsc := hst.cells
        have hsd := TSt.drew hst
        have hscd := TS.drew hsc
        go_cut [11, 12] (fun s11 s12 wx => PieceBox wr x1 x2 x3 x4 er s11 s12 wx)
        case first =>
          go_region_held3 (fun W' => W'.cell? ⟨gb, 0, none⟩ = some (.int .i64 d) ∧ W'.cell? ⟨gb, 1, none⟩ = some (.int .i64 sl) ∧ W'.cell? ⟨gb, 2, none⟩ = some (.int .i64 b) ∧ W'.cell? ⟨gb, 3, none⟩ = some (.int .i64 m) ∧ W'.cell? ⟨bs, j, none⟩ = some (.string z)) (first | ((repeat (first | (with_reducible assumption) | (with_reducible refine TS.alloc ?_ _) | (with_reducible refine TS.drew ?_) | (with_reducible refine TS.set ?_ ?_ ?_ _) | omega)); done)) (first | (go_at_call 87; refine (piece_cut (gb := gb) (bs := bs) (j := j) hT.out hzz (by repeat (first | (with_reducible assumption) | (with_reducible refine TSt.alloc ?_ _) | (with_reducible refine TSt.drew ?_)))).mono ?_; rintro e w2 ⟨rfl, hb2, hs2, hst2, hz2⟩; (try simp only [World.size_alloc, size_drew'] at hz2); (try have c0 : w2.cell? ⟨wr.heap.size, 0, none⟩ = some (.int .i64 0) := cell_later hb2 (by first | (simp; done) | omega)); (try have c1 : w2.cell? ⟨wr.heap.size, 1, none⟩ = some (.int .i64 0) := cell_later hb2 (by first | (simp; done) | omega)); (try have c2 : w2.cell? ⟨wr.heap.size, 2, none⟩ = some (.int .i64 0) := cell_later hb2 (by first | (simp; done) | omega)); (try have c3 : w2.cell? ⟨wr.heap.size, 3, none⟩ = some (.int .i64 0) := cell_later hb2 (by first | (simp; done) | omega)); (try have qq0 : w2.frozen? ⟨wr.heap.size, 0, none⟩ = false := (hb2.frozen (p := ⟨wr.heap.size, 0, none⟩) (by first | (simp; done) | omega)).trans (by first | (simp; done) | assumption)); (try have qq1 : w2.frozen? ⟨wr.heap.size, 1, none⟩ = false := (hb2.frozen (p := ⟨wr.heap.size, 1, none⟩) (by first | (simp; done) | omega)).trans (by first | (simp; done) | assumption)); (try have qq2 : w2.frozen? ⟨wr.heap.size, 2, none⟩ = false := (hb2.frozen (p := ⟨wr.heap.size, 2, none⟩) (by first | (simp; done) | omega)).trans (by first | (simp; done) | assumption)); (try have qq3 : w2.frozen? ⟨wr.heap.size, 3, none⟩ = false := (hb2.frozen (p := ⟨wr.heap.size, 3, none⟩) (by first | (simp; done) | omega)).trans (by first | (simp; done) | assumption))))
          all_goals
            go_wp2_with fail
            go_meet
            first
              | exact ⟨_, rfl, rfl, Box4.new _ _ _ _ _ _, ext_alloc (below_drewA hb2) _⟩
              | exact ⟨_, rfl, rfl, box_same (fun i hi => by match i, hi with | 0, _ => exact ⟨_, c0⟩ | 1, _ => exact ⟨_, c1⟩ | 2, _ => exact ⟨_, c2⟩ | 3, _ => exact ⟨_, c3⟩) _ _ _ _, ext_set4 (below_drewB hb2) (Nat.le_refl _) _ _ _ _⟩
        case rest =>
          obtain ⟨tb, rfl, rfl, bT, hbx⟩ := hcut
          have hbw : Below w.heap.size w wc := ext_trans (ext_trans hb0 hbr) hbx
          by_cases he : er = 0
          · subst he
            have hown2 := owns_later hown hbx
            have hb2 : Below w1.heap.size w1 wc := ext_trans hbr hbx
            have hzc := hb2.size
            obtain ⟨t0, t1, t2, t3⟩ := bT
            clear hown hsc hsd hscd hst
            go_wp2_with (at_builtin; refine wpList_append_own _ rfl _ _ 45 rfl w1.heap.size 50 i0 (.agg #[.int .i64 0, .int .i64 0, .int .i64 0, .int .i64 0]) 4 32 Tryz.underlying45 hi hz0 hz1 hz2 rfl (by decide) _ _ _ rfl (hown2.alloc _) ⟨wc.heap.size, 0, none⟩ 1 1 (encT (x1, x2, x3, x4)) rfl rfl (new_four _ _ _ _ _ _) (one_times _) ?c3 ?c4 ?c5 ?_)
            case c3 => unfold maxLen; omega
            case c4 => omega
            case c5 => rw [World.size_alloc]; omega
            intro v' w4 hown4 hgrow _
            have hb4 : Below w1.heap.size w1 w4 := Below.grown (ext_alloc hb2 _) hgrow (by rw [World.size_alloc]; omega) (fun y hy => (hown2.lt y hy).1)
            clear hown2 hb2
            go_wp2
            go_roundw
            case rel => exact ⟨j + 1, by rw [hlen.out]; omega, by go_num, by rw [hts.out]; unfold TimesOwn; rw [List.length_append, flatT_snoc]; exact hown4, hes.out, hb4⟩
            case measure => simp [intOf]; omega
          · have he2 : (er != 0) = true := by simpa using he
            have htE : Hid (timesE d sl b m n (partsOf s) = er) := by
              have h1 : firstE (pieceE d sl b m n) zs = er := (firstE_take (j := j + 1) (by rw [hes.out]; exact he)).trans hes.out
              unfold timesE
              rw [hz.out, h1, if_neg he]
              exact hide rfl
            replace he := hide he
            clear hown hsc hsd hscd hst bT
            go_wp2
            go_ret2
            exact ⟨_, by rw [htE.out]; rfl, by rw [htE.out, if_neg he.out]; exact World.ownsRow_nil _ _ _ _, hbw⟩
      · obtain rfl : j = len := by omega
        have hall : Hid (zs.take j = zs) := hide (by rw [← hlen.out]; exact List.take_length)
        rw [hall.out] at hown hfe
        have hbw : Below w.heap.size w wr := ext_trans hb0 hbr
        have hlm : (zs.map (pieceV d sl b m n)).length = j := by rw [List.length_map]; exact hlen.out
        obtain ⟨A', c', rfl⟩ := owns_form hown
        rw [hlm] at hown ⊢
        replace hlm := hide hlm
        replace hfe := hide hfe
        clear hall hpo
        by_cases h24 : 24 < j
        · have htE : Hid (timesE d sl b m n (partsOf s) = 2) := by
            unfold timesE
            rw [hz.out, hfe.out, if_pos rfl, hlen.out, if_pos h24]
            exact hide rfl
          go_wp2
          go_ret2
          exact ⟨_, by rw [htE.out]; rfl, by rw [htE.out]; exact World.ownsRow_nil _ _ _ _, hbw⟩
        · have htE : Hid (timesE d sl b m n (partsOf s) = 0) := by
            unfold timesE
            rw [hz.out, hfe.out, if_pos rfl, hlen.out, if_neg h24]
            exact hide rfl
          have hfin : Hid (TimesOwn w.heap.size wr (.slice A' j c') (zs.map (pieceV d sl b m n))) := hide (owns_lower hown hz1w)
          clear hown
          go_wp2
          go_ret2
          exact ⟨_, by rw [htE.out]; rfl, by rw [htE.out, if_pos rfl, hz.out]; exact hfin.out, hbw⟩
end Go.Proofs.YtnbcaklnpflihaaGreatDoor
