/- Walk of timetableref09.Read. Conditions: texts shorter than 2^30 bytes; what the program's variables hold. -/
import Derived.Test.YtgbkochjoaalhaaGreatDoorR9D
namespace Go.Proofs.YtgbkochjoaalhaaGreatDoor
open Go.RowKit
set_option maxRecDepth 100000

/-- What the region of Read loads, and what the program's variables hold. -/
structure RSt (w0 : World) (gb rb off : Nat) (d sl b m line : Int) (u : Value) (W : World) : Prop where
  g0 : W.cell? ⟨gb, 0, none⟩ = some (.int .i64 d)
  g1 : W.cell? ⟨gb, 1, none⟩ = some (.int .i64 sl)
  g2 : W.cell? ⟨gb, 2, none⟩ = some (.int .i64 b)
  g3 : W.cell? ⟨gb, 3, none⟩ = some (.int .i64 m)
  r0 : W.cell? ⟨rb, off, none⟩ = some (.int .i64 line)
  r1 : W.cell? ⟨rb, off + 1, none⟩ = some u
  below : Below w0.heap.size w0 W
abbrev RC (gb rb off : Nat) (d sl b m line : Int) (u : Value) (W : World) : Prop := W.cell? ⟨gb, 0, none⟩ = some (.int .i64 d) ∧ W.cell? ⟨gb, 1, none⟩ = some (.int .i64 sl) ∧ W.cell? ⟨gb, 2, none⟩ = some (.int .i64 b) ∧ W.cell? ⟨gb, 3, none⟩ = some (.int .i64 m) ∧ W.cell? ⟨rb, off, none⟩ = some (.int .i64 line) ∧ W.cell? ⟨rb, off + 1, none⟩ = some u
section
variable {w0 : World} {gb rb off : Nat} {d sl b m line : Int} {u : Value} {W W' : World}
theorem RSt.cells (h : RSt w0 gb rb off d sl b m line u W) : RC gb rb off d sl b m line u W := ⟨h.g0, h.g1, h.g2, h.g3, h.r0, h.r1⟩
theorem RSt.later (h : RSt w0 gb rb off d sl b m line u W) (hb : Below W.heap.size W W') : RSt w0 gb rb off d sl b m line u W' :=
  ⟨cell_later hb h.g0, cell_later hb h.g1, cell_later hb h.g2, cell_later hb h.g3, cell_later hb h.r0, cell_later hb h.r1, ext_trans h.below hb⟩
theorem RSt.alloc (h : RSt w0 gb rb off d sl b m line u W) (o : Obj) : RSt w0 gb rb off d sl b m line u (W.alloc o) := h.later (ext_alloc (Below.refl _ _) _)
theorem RSt.drew (h : RSt w0 gb rb off d sl b m line u W) : RSt w0 gb rb off d sl b m line u W.drew := h.later (ext_drew (Below.refl _ _))
theorem RC.alloc (h : RC gb rb off d sl b m line u W) (o : Obj) : RC gb rb off d sl b m line u (W.alloc o) := ⟨cell_alloc_of h.1 o, cell_alloc_of h.2.1 o, cell_alloc_of h.2.2.1 o, cell_alloc_of h.2.2.2.1 o, cell_alloc_of h.2.2.2.2.1 o, cell_alloc_of h.2.2.2.2.2 o⟩
theorem RC.drew (h : RC gb rb off d sl b m line u W) : RC gb rb off d sl b m line u W.drew := h
theorem RC.set {c i : Nat} (h : RC gb rb off d sl b m line u W) (h1 : gb ≠ c) (h2 : rb ≠ c) (x : Value) : RC gb rb off d sl b m line u (W.setCell ⟨c, i, none⟩ x) := by
  have ho : ∀ (y z : Nat), y ≠ c → (W.setCell ⟨c, i, none⟩ x).cell? ⟨y, z, none⟩ = W.cell? ⟨y, z, none⟩ := fun y z hx => World.cell?_setCell_other _ _ _ _ (fun e => hx (by injection e with e1; exact e1.symm))
  exact ⟨(ho _ _ h1).trans h.1, (ho _ _ h1).trans h.2.1, (ho _ _ h1).trans h.2.2.1, (ho _ _ h1).trans h.2.2.2.1, (ho _ _ h2).trans h.2.2.2.2.1, (ho _ _ h2).trans h.2.2.2.2.2⟩
end
def OneCut (W : World) (gb rb off : Nat) (d sl b m n line : Int) (u : Value) (fs : List Fld) (k ee : Int) (e : Ending) (w' : World) : Prop :=
  ∃ (code : ByteArray) (A' : Option Addr) (q' c' : Nat), e = .returned (.tuple #[.agg #[.string code, .slice A' q' c'], .int .i64 k, .int .i64 ee]) ∧
    (ee = 0 → code = textAt fs 0 ∧ TimesOwn W.heap.size w' (.slice A' q' c') (staffT d sl b m n fs)) ∧ Below W.heap.size W w' ∧ RC gb rb off d sl b m line u w' ∧ W.heap.size ≤ w'.heap.size
theorem one_cut {wr W : World} {gb rb off : Nat} {d sl b m n line : Int} {F : Option Addr} {fs : List Fld} {c : Nat} {A : Option Addr} {q cr : Nat} {codes : Nat → ByteArray} {X1 : Nat → Value} {k ee : Int} (hke : oneKE d sl b m n fs codes q = (k, ee)) (hS : Std wr) (hW : Wds wr) (hD : Dys wr)
    (hF : FieldsAt wr.heap.size wr F fs) (hq : q ≤ 32) (hs : ∀ f ∈ fs, f.1.size < 1073741824) (hX : CellsAt wr.heap.size wr A 2 q fun j => [.string (codes j), X1 j]) (hR : RC gb rb off d sl b m line (.slice F fs.length c) wr) (hb : Below wr.heap.size wr W) :
    Calls Tryz.prog 43 #[.agg #[.int .i64 line, .slice F fs.length c], .agg #[.int .i64 d, .int .i64 sl, .int .i64 b, .int .i64 m], .int .i64 n, .slice A q cr] W fun e w' => OneCut W gb rb off d sl b m n line (.slice F fs.length c) fs k ee e w' :=
  (r9one_walk d sl b m n line F fs c A q cr codes X1 W (hS.after hb) (hW.after hb hS) (hD.after hb hS) ((hF.below hb).more hb.size) hq hs ((hX.below hb).more hb.size)).mono fun e w' ⟨code, A', q', c', he, ht, hb'⟩ => by
    have hbb := ext_trans hb hb'
    rw [hke] at he ht
    exact ⟨code, A', q', c', he, ht, hb', ⟨cell_later hbb hR.1, cell_later hbb hR.2.1, cell_later hbb hR.2.2.1, cell_later hbb hR.2.2.2.1, cell_later hbb hR.2.2.2.2.1, cell_later hbb hR.2.2.2.2.2⟩, hb'.size⟩
/-- What reading one record leaves. -/
def LectBox (wr : World) (d sl b m n : Int) (fs : List Fld) (k e : Int) (s11 s12 s13 : Value) (wx : World) : Prop :=
  ∃ (tb : Nat) (code : ByteArray) (A' : Option Addr) (q' c' : Nat), s11 = .pointer (some ⟨tb, 0, none⟩) ∧ s12 = .int .i64 k ∧ s13 = .int .i64 e ∧ wx.cell? ⟨tb, 0, none⟩ = some (.string code) ∧ wx.cell? ⟨tb, 1, none⟩ = some (.slice A' q' c') ∧
    (e = 0 → code = textAt fs 0 ∧ TimesOwn wr.heap.size wx (.slice A' q' c') (staffT d sl b m n fs)) ∧ Below wr.heap.size wr wx
theorem lectbox_new {wr w2 : World} {d sl b m n : Int} {fs : List Fld} {k e : Int} {code : ByteArray} {A' : Option Addr} {q' c' : Nat} {C : Nat} (hC : wr.heap.size ≤ C) (ht : e = 0 → code = textAt fs 0 ∧ TimesOwn C w2 (.slice A' q' c') (staffT d sl b m n fs)) (hb : Below wr.heap.size wr w2) (t : TypeId) :
    LectBox wr d sl b m n fs k e (.pointer (some ⟨w2.heap.size, 0, none⟩)) (.int .i64 k) (.int .i64 e) (w2.alloc (.cells #[.string code, .slice A' q' c'] t)) :=
  ⟨_, code, A', q', c', rfl, rfl, rfl, by simp, by simp, fun h => ⟨(ht h).1, owns_lower ((ht h).2.alloc _) hC⟩, ext_alloc hb _⟩
theorem lectbox_set {wr w2 : World} {d sl b m n : Int} {fs : List Fld} {k e : Int} {code : ByteArray} {A' : Option Addr} {q' c' x : Nat} {v0 v1 : Value} {C : Nat} (hx : wr.heap.size ≤ x) (hC : x < C) (c0 : w2.cell? ⟨x, 0, none⟩ = some v0) (c1 : w2.cell? ⟨x, 1, none⟩ = some v1)
    (ht : e = 0 → code = textAt fs 0 ∧ TimesOwn C w2 (.slice A' q' c') (staffT d sl b m n fs)) (hb : Below wr.heap.size wr w2) :
    LectBox wr d sl b m n fs k e (.pointer (some ⟨x, 0, none⟩)) (.int .i64 k) (.int .i64 e) ((w2.setCell ⟨x, 0, none⟩ (.string code)).setCell ⟨x, 1, none⟩ (.slice A' q' c')) := by
  have t0 : (w2.setCell ⟨x, 0, none⟩ (.string code)).cell? ⟨x, 0, none⟩ = some (.string code) := World.cell?_setCell_same _ _ _ c0
  have t1 : (w2.setCell ⟨x, 0, none⟩ (.string code)).cell? ⟨x, 1, none⟩ = some v1 := (World.cell?_setCell_other _ _ _ _ (by simp)).trans c1
  refine ⟨x, code, A', q', c', rfl, rfl, rfl, (World.cell?_setCell_other _ _ _ _ (by simp)).trans t0, World.cell?_setCell_same _ _ _ t1, fun h => ⟨(ht h).1, ?_⟩, ext_set (ext_set hb (p := ⟨x, 0, none⟩) hx _) (p := ⟨x, 1, none⟩) hx _⟩
  have hv : (Value.slice A' q' c').ownBlock ≠ some x := fun e => by have := ((ht h).2.lt _ e).1; omega
  exact owns_lower (owns_set (owns_set (ht h).2 hv) hv) (by omega)
def R9Loop (d sl b m n : Int) (rs : List Rec) (w : World) (v8 v9 i : Value) (wr : World) : Prop :=
  ∃ j : Nat, j ≤ rs.length ∧ i = .int .i64 j ∧ LectsOwn w.heap.size wr v8 (readRecs d sl b m n (rs.take j)).ls ∧ ProbsOwn w.heap.size wr v9 (readRecs d sl b m n (rs.take j)).ps ∧ Below w.heap.size w wr
theorem lects_snoc {B : Nat} {W W' : World} {v v' vt : Value} {ls : List Lect} {t0 : ByteArray} {ts : List T4} (us : List Value) (e1 : us.length = ls.length) (e2 : W.ownsRow B 47 2 v ls.length (lectCells ls us)) (e3 : ∀ (j : Nat) (l : Lect) (u : Value), ls[j]? = some l → us[j]? = some u → TimesOwn B W u l.2)
    (hu : TimesOwn B W vt ts) (hg : W.grownBy W' v.ownBlock) (hn : W'.ownsRow B 47 2 v' (ls.length + 1) (lectCells ls us ++ [.string t0, vt])) : LectsOwn B W' v' (ls ++ [(t0, ts)]) := by
  refine ⟨us ++ [vt], by simp [e1], ?_, fun j l u hl hx => ?_⟩
  · rw [lectCells_snoc _ _ e1, List.length_append]
    exact hn
  · by_cases hj : j < ls.length
    · rw [List.getElem?_append_left hj] at hl
      rw [List.getElem?_append_left (by omega)] at hx
      exact World.ownsRow.kept (e3 j l u hl hx) hg (own_ne (e3 j l u hl hx) e2 (by decide))
    · have hj2 : j = ls.length := by
        have := (List.getElem?_eq_some_iff.1 hl).1
        simp at this
        omega
      subst hj2
      rw [List.getElem?_append_right (Nat.le_refl _)] at hl
      rw [List.getElem?_append_right (by omega)] at hx
      simp at hl
      simp [e1] at hx
      subst hl
      subst hx
      exact World.ownsRow.kept hu hg (own_ne hu e2 (by decide))
theorem new_lect (w : World) (a : ByteArray) (u : Value) (t : TypeId) : ∀ (j : Nat) (v : Value), [Value.string a, u][j]? = some v → (w.alloc (.cells #[.string a, u] t)).cell? ((⟨w.heap.size, 0, none⟩ : Addr).add j) = some v := by
  intro j v hv
  match j, hv with
  | 0, hv => simp at hv; subst hv; simp [Addr.add]
  | 1, hv => simp at hv; subst hv; simp [Addr.add]
  | j + 2, hv => simp at hv
set_option maxHeartbeats 8000000 in
theorem r9Read_walk (d sl b m n : Int) (A : Option Addr) (rs : List Rec) (cap : Nat) (w : World) (hS : Std w) (hW : Wds w) (hD : Dys w) (hR : RecsAt w.heap.size w A rs) (hN : rs.length ≤ 4000000000000) (hs : ∀ r ∈ rs, ∀ f ∈ r.2, f.1.size < 1073741824) :
    Calls Tryz.prog 11 #[.slice A rs.length cap, .agg #[.int .i64 d, .int .i64 sl, .int .i64 b, .int .i64 m], .int .i64 n] w fun e w' => StaffReads d sl b m n rs w e w' := by
  have hb0 : Below w.heap.size w (w.alloc (.cells #[.int .i64 d, .int .i64 sl, .int .i64 b, .int .i64 m] 24)) := ext_alloc (Below.refl _ _) _
  have bG := Box4.new w 24 (.int .i64 d) (.int .i64 sl) (.int .i64 b) (.int .i64 m)
  obtain ⟨N, hNN⟩ : ∃ N, rs.length = N := ⟨_, rfl⟩
  rw [hNN] at hN ⊢
  replace hNN := hide hNN
  replace hs := hide hs
  cases hw : weekB d sl b m n
  · have e1 : staffRead d sl b m n rs = ([], [(0, 0, 1)]) := by unfold staffRead; rw [hw]; rfl
    clear hS hW hD hR bG
    go_enter Tryz.func11, Tryz.ntmps11
    go_wp2_with fail
    refine (r6Usable_walk d sl b m n _).mono ?_
    rintro e w1 ⟨rfl, hb1⟩
    rw [hw]
    have hbw := ext_trans hb0 hb1
    go_wp2
    go_ret2
    exact ⟨_, _, rfl, by rw [e1]; exact ⟨[], rfl, World.ownsRow_nil _ _ _ _, fun j l u h => by simp at h⟩, by rw [e1]; exact owns_lower (probs_one w1 1 0 0 1 rfl) hbw.size, ext_alloc hbw _⟩
  · have e1 : staffRead d sl b m n rs = ((readRecs d sl b m n rs).ls, (readRecs d sl b m n rs).ps) := by unfold staffRead; rw [hw]; rfl
    replace e1 := hide e1
    obtain ⟨iP, hiP, hP0, hP1, hP2⟩ := info_parts infoProb
    obtain ⟨iL, hiL, hL0, hL1, hL2⟩ := info_parts infoLect
    obtain ⟨gb, hgb⟩ : ∃ gb, w.heap.size = gb := ⟨_, rfl⟩
    go_enter Tryz.func11, Tryz.ntmps11
    go_wp2_with fail
    rw [hgb] at bG
    refine (r6Usable_walk d sl b m n _).mono ?_
    rintro e w1 ⟨rfl, hb1⟩
    rw [hw]
    have hbw1 := ext_trans hb0 hb1
    have bG1 := bG.later hb1
    have hgl := bG1.lt
    have hS1 := hS.after hbw1
    have hW1 := hW.after hbw1 hS
    have hD1 := hD.after hbw1 hS
    have hR1 := (hR.below hbw1).more hbw1.size
    obtain ⟨g0, g1, g2, g3⟩ := bG1
    clear hb0 hb1 bG hR hS hW hD
    replace hgb := hide hgb
    replace hgl := hide hgl
    go_wp2
    go_loopw [8, 9, 10] (fun v8 v9 i wr => R9Loop d sl b m n rs w1 v8 v9 i wr) (fun _ _ i _ => N - (intOf i).toNat)
    case atStart => exact ⟨0, Nat.zero_le _, rfl, ⟨[], rfl, World.ownsRow_nil _ _ _ _, fun j l u h => by simp [readRecs] at h⟩, World.ownsRow_nil _ _ _ _, Below.refl _ _⟩
    case round =>
      obtain ⟨j, hj, rfl, hL, hP, hb⟩ := hrel
      rw [hNN.out] at hj
      by_cases hlt : j < N
      · obtain ⟨r, hr⟩ : ∃ r, rs[j]? = some r := ⟨_, List.getElem?_eq_getElem (by rw [hNN.out]; exact hlt)⟩
        obtain ⟨rb, off, rfl, hrb, hcell⟩ := (hR1.below hb) (by rw [hNN.out]; omega)
        obtain ⟨F, c, k0, k1, hF⟩ := hcell j r hr
        have hsr := hide (hs.out r (List.mem_of_getElem? hr))
        have hstep := hide (take_rec d sl b m n rs j r hr)
        obtain ⟨st, hst⟩ : ∃ st, readRecs d sl b m n (rs.take j) = st := ⟨_, rfl⟩
        have hlen := readRecs_len d sl b m n j (rs.take j) (by rw [List.length_take, hNN.out]; omega)
        rw [hst] at hL hP hlen hstep
        obtain ⟨n1, n2, n3⟩ := hlen
        obtain ⟨line, fs⟩ := r
        dsimp only at k0 k1 hF hsr
        have hz := hb.size
        have hgr : gb < wr.heap.size := by have := hgl.out; omega
        have hrbr : rb < wr.heap.size := by omega
        clear hcell hr hst
        obtain ⟨A6, c6, rfl⟩ : ∃ A6 c6, u8 = .slice A6 st.ls.length c6 := by obtain ⟨us, -, h, -⟩ := hL; exact owns_form h
        obtain ⟨X1, hX1⟩ := lects_cells hL
        obtain ⟨⟨k, er⟩, hke⟩ : ∃ p, oneKE d sl b m n fs (codesOf st.ls) st.ls.length = p := ⟨_, rfl⟩
        have hRC : RC gb rb (off + j * 2) d sl b m line (.slice F fs.length c) wr := ⟨cell_later hb g0, cell_later hb g1, cell_later hb g2, cell_later hb g3, k0, k1⟩
        have hone := fun (W : World) (h : Below wr.heap.size wr W) => one_cut (cr := c6) hke (hS1.after hb) (hW1.after hb hS1) (hD1.after hb hS1) (hF.more hz) n1 hsr.out hX1 hRC h
        have herr := fun h => step_err (d := d) (sl := sl) (b := b) (m := m) (n := n) (line := line) (fs := fs) (s := st) n1 h
        have hok := fun h => step_ok (d := d) (sl := sl) (b := b) (m := m) (n := n) (line := line) (fs := fs) (s := st) n1 h
        have hpl := place_lt (d := d) (sl := sl) (b := b) (m := m) (n := n) (fs := fs) (codes := codesOf st.ls) (q := st.ls.length)
        rw [hke] at herr hok hpl
        dsimp only at herr hok hpl
        replace herr := hide herr
        replace hok := hide hok
        replace hpl := hide hpl
        replace hone := hide hone
        have hj0 : (0 : Int) ≤ (j : Int) := by omega
        have hj1 : (j : Int) < (N : Int) := by omega
        have hRd : RC gb rb (off + j * 2) d sl b m line (.slice F fs.length c) wr.drew := hRC.drew
        have hRC2 := hRC
        obtain ⟨q0, q1, q2, q3, q4, q5⟩ := hRC2
        clear hke hX1 k0 k1
        have hrefl := Below.refl wr.heap.size wr
        go_upto_region 8 with fail
        go_cut [11, 12, 13] (fun s11 s12 s13 wx => LectBox wr d sl b m n fs k er s11 s12 s13 wx)
        case first =>
          go_region_held3 (fun W' => W'.cell? ⟨gb, 0, none⟩ = some (.int .i64 d) ∧ W'.cell? ⟨gb, 1, none⟩ = some (.int .i64 sl) ∧ W'.cell? ⟨gb, 2, none⟩ = some (.int .i64 b) ∧ W'.cell? ⟨gb, 3, none⟩ = some (.int .i64 m) ∧ W'.cell? ⟨rb, off + j * 2, none⟩ = some (.int .i64 line) ∧ W'.cell? ⟨rb, off + j * 2 + 1, none⟩ = some (.slice F fs.length c)) (first | ((repeat (first | (with_reducible assumption) | (with_reducible refine RC.alloc ?_ _) | (with_reducible refine RC.drew ?_) | (with_reducible refine RC.set ?_ ?_ ?_ _) | omega)); done)) (first | (go_at_call 43; refine (hone.out _ (by repeat (first | (with_reducible assumption) | (with_reducible refine ext_alloc ?_ _) | (with_reducible refine ext_drew ?_)))).mono ?_; rintro e w2 ⟨code, A', q', c', rfl, ht, hb2, hc2, hz2⟩; (try simp only [World.size_alloc, size_drew'] at hz2); (try have x0 : w2.cell? ⟨wr.heap.size, 0, none⟩ = some (.string ⟨#[]⟩) := cell_later hb2 (by first | (simp; done) | omega)); (try have x1 : w2.cell? ⟨wr.heap.size, 1, none⟩ = some (.slice none 0 0) := cell_later hb2 (by first | (simp; done) | omega)); (try have qq0 : w2.frozen? ⟨wr.heap.size, 0, none⟩ = false := (hb2.frozen (p := ⟨wr.heap.size, 0, none⟩) (by first | (simp; done) | omega)).trans (by first | (simp; done) | assumption)); (try have qq1 : w2.frozen? ⟨wr.heap.size, 1, none⟩ = false := (hb2.frozen (p := ⟨wr.heap.size, 1, none⟩) (by first | (simp; done) | omega)).trans (by first | (simp; done) | assumption))))
          · go_wp2_with fail
            go_meet
            exact lectbox_new (wr := wr) (C := wr.drew.heap.size) (Nat.le_refl _) ht (below_drewA hb2) _
          · go_wp2_with fail
            go_meet
            exact lectbox_set (wr := wr) (C := wr.heap.size + 1) (Nat.le_refl _) (Nat.lt_succ_self _) x0 x1 (by have h := ht; simp only [size_drew', World.size_alloc] at h; exact h) (below_drewB hb2)
        case rest =>
          obtain ⟨tb, code, A', q', c', rfl, rfl, rfl, t0, t1, ht, hbx⟩ := hcut
          have hLw := hL.later hbx
          have hPw := owns_later hP hbx
          have hbw := ext_trans hb hbx
          have hFw := (hF.below (hbx.mono hz)).more hbw.size
          have hzc := hbx.size
          have hrbc : rb < wc.heap.size := by omega
          replace q4 := cell_later hbx q4
          replace q5 := cell_later hbx q5
          have htb : tb < wc.heap.size := World.block_lt_of_cell? _ _ t0
          clear hL hP hF hRC hRd q0 q1 q2 q3 hone hrefl
          by_cases he : er = 0
          · subst he
            obtain ⟨rfl, hT⟩ := ht rfl
            have hst2 := hide (hstep.out.trans (hok.out rfl))
            clear hstep hok herr ht hpl q4 q5 hFw
            obtain ⟨us, e1s, e2s, e3s⟩ := hLw
            have hT2 : TimesOwn w1.heap.size wc (.slice A' q' c') (staffT d sl b m n fs) := owns_lower hT hz
            clear hT
            go_wp2_with (at_builtin; refine wpList_append_own _ rfl _ _ 29 rfl w1.heap.size 47 iL (.agg #[.string ⟨#[]⟩, .slice none 0 0]) 2 40 Tryz.underlying29 hiL hL0 hL1 hL2 rfl (by decide) _ _ _ rfl (e2s.alloc _) ⟨wc.heap.size, 0, none⟩ 1 1 [.string (textAt fs 0), .slice A' q' c'] rfl rfl (new_lect _ _ _ _) ?c2 ?c3 ?c4 ?c5 ?_)
            case c2 => intro u hu; simp at hu; rcases hu with rfl | rfl <;> rfl
            case c3 => unfold maxLen; omega
            case c4 => omega
            case c5 => rw [World.size_alloc]; omega
            intro v' w4 hown4 hgrow _
            have hLn := lects_snoc us e1s (e2s.alloc _) (fun j l u h1 h2 => (e3s j l u h1 h2).alloc _) (hT2.alloc _) hgrow hown4
            have hPn : ProbsOwn w1.heap.size w4 u9 st.ps := World.ownsRow.kept (hPw.alloc (.cells #[.string (textAt fs 0), .slice A' q' c'] 47)) hgrow (own_ne (hPw.alloc (.cells #[.string (textAt fs 0), .slice A' q' c'] 47)) (e2s.alloc (.cells #[.string (textAt fs 0), .slice A' q' c'] 47)) (by decide))
            have hb4 : Below w1.heap.size w1 w4 := Below.grown (ext_alloc hbw _) hgrow (by rw [World.size_alloc]; omega) (fun y hy => (e2s.lt y hy).1)
            clear e2s e3s hT2 hPw hbw hgrow t0 t1
            go_wp2
            go_roundw
            case rel => exact ⟨j + 1, by rw [hNN.out]; omega, by go_num, by rw [hst2.out]; exact hLn, by rw [hst2.out]; exact hPn, hb4⟩
            case measure => simp [intOf]; omega
          · have he2 : (er != 0) = true := by simpa using he
            have hst2 := hide (hstep.out.trans (herr.out he))
            have hk : k < fs.length := by rcases hpl.out with h | h <;> omega
            replace he := hide he
            clear hstep hok herr ht hpl t0 t1
            go_wp2_with fail
            refine (r7Found_walk line F fs c k er _ hFw hk).mono ?_
            rintro e w3 ⟨rfl, hb3⟩
            have hLx := hLw.later hb3
            have hPx := owns_later hPw hb3
            have hb3x := ext_trans hbw hb3
            clear hLw hPw hFw q4 q5 hb3
            go_wp2_with (at_builtin; refine wpList_append_own _ rfl _ _ 30 rfl w1.heap.size 76 iP (.agg #[.int .i64 0, .int .i64 0, .int .i64 0, .int .i64 0]) 4 32 Tryz.underlying30 hiP hP0 hP1 hP2 rfl (by decide) _ _ _ rfl (hPx.alloc _) ⟨w3.heap.size, 0, none⟩ 1 1 (encP (line, placeOf fs k, er)) rfl rfl (new_prob _ _ _ _ _) (one_prob _) ?c3 ?c4 ?c5 ?_)
            case c3 => unfold maxLen; omega
            case c4 => omega
            case c5 => rw [World.size_alloc]; have := hb3x.size; omega
            intro v' w4 hPn hgrow _
            have hLn : LectsOwn w1.heap.size w4 (.slice A6 st.ls.length c6) st.ls := (hLx.later (ext_alloc (Below.refl _ _) _)).grown (hPx.alloc _) hgrow (by decide) (by decide)
            have hb4 : Below w1.heap.size w1 w4 := Below.grown (ext_alloc hb3x _) hgrow (by rw [World.size_alloc]; have := hb3x.size; omega) (fun y hy => (hPx.lt y hy).1)
            clear hLx hPx hb3x hgrow
            go_wp2
            go_roundw
            case rel => exact ⟨j + 1, by rw [hNN.out]; omega, by go_num, by rw [hst2.out]; exact hLn, by rw [hst2.out]; unfold ProbsOwn; rw [List.length_append, flatP_snoc]; exact hPn, hb4⟩
            case measure => simp [intOf]; omega
      · obtain rfl : j = N := by omega
        have hall : Hid (rs.take j = rs) := hide (by rw [← hNN.out]; exact List.take_length)
        rw [hall.out] at hL hP
        have hbw := ext_trans hbw1 hb
        clear hall g0 g1 g2 g3
        go_wp2
        go_ret2
        exact ⟨_, _, rfl, by rw [e1.out]; exact hL.lower hbw1.size, by rw [e1.out]; exact owns_lower hP hbw1.size, hbw⟩
end Go.Proofs.YtgbkochjoaalhaaGreatDoor
