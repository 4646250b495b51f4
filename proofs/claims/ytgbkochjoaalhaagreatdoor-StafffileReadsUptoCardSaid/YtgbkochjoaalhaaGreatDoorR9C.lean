/- Walks of timetableref09.Index and one. Conditions: texts shorter than 2^30 bytes; what the program's variables hold. -/
import Derived.Test.YtgbkochjoaalhaaGreatDoorR9B
namespace Go.Proofs.YtgbkochjoaalhaaGreatDoor
open Go.RowKit
set_option maxRecDepth 100000

set_option maxHeartbeats 2000000 in
theorem r9Index_walk (A : Option Addr) (n c : Nat) (code : ByteArray) (codes : Nat → ByteArray) (X1 : Nat → Value) (w : World) (hn : n ≤ 1000000)
    (hX : CellsAt w.heap.size w A 2 n fun j => [.string (codes j), X1 j]) :
    Calls Tryz.prog 75 #[.slice A n c, .string code] w fun e w' => IdxGives (fun j => sameS (codes j) code) n w e w' := by
  go_enter Tryz.func75, Tryz.ntmps75
  go_wp2
  go_loopw [5] (fun i wr => ∃ j : Nat, j ≤ n ∧ i = .int .i64 j ∧ Hid (orTo (fun j => sameS (codes j) code) j = false) ∧ Below w.heap.size w wr) (fun i _ => n - (intOf i).toNat)
  case atStart => exact ⟨0, Nat.zero_le _, rfl, rfl, Below.refl _ _⟩
  case round =>
    obtain ⟨j, hj, rfl, ho, hb⟩ := hrel
    by_cases hlt : j < n
    · obtain ⟨b, off, rfl, hbB, hc⟩ := (hX.below hb) (by omega)
      have k0 := hc j hlt 0 _ rfl
      rw [Nat.add_zero] at k0
      clear hc hX
      cases hq : sameS (codes j) code with
      | true =>
        have hit := hide (orTo_hit (p := fun j => sameS (codes j) code) hq n hlt)
        obtain ⟨x0, hx0⟩ : ∃ x, codes j = x := ⟨_, rfl⟩
        rw [hx0] at k0 hq
        have hq2 : (x0.toList == code.toList) = true := hq
        clear hx0 hq
        go_wp2
        go_ret
        exact ⟨j, rfl, by rw [hit.out]; simp, hb⟩
      | false =>
        have miss : Hid (orTo (fun j => sameS (codes j) code) (j + 1) = false) := by show orTo _ (j + 1) = false; unfold orTo; rw [ho.out, hq]; rfl
        obtain ⟨x0, hx0⟩ : ∃ x, codes j = x := ⟨_, rfl⟩
        rw [hx0] at k0 hq
        have hq2 : (x0.toList == code.toList) = false := hq
        clear hx0 hq ho
        go_wp2
        go_roundw
        case rel => exact ⟨j + 1, by omega, by go_num, miss, hb⟩
        case measure => simp [intOf]; omega
    · obtain rfl : j = n := by omega
      go_wp2
      go_ret
      exact ⟨-1, rfl, by rw [ho.out]; rfl, hb⟩
/-- Which field is wrong (-1: the record), and why. -/
def oneKE (d sl b m n : Int) (fs : List Fld) (codes : Nat → ByteArray) (q : Nat) : Int × Int :=
  if fs.length ≠ 2 then (-1, 9) else
  if codeB (textAt fs 0) = false then (0, 10) else
  if timesE d sl b m n (partsOf (textAt fs 1)) ≠ 0 then (1, timesE d sl b m n (partsOf (textAt fs 1))) else
  if orTo (fun j => sameS (codes j) (textAt fs 0)) q then (-1, 11) else
  if q = 32 then (-1, 2) else (0, 0)
theorem end_lect3 {fn : Func} {p u v : Tmp} (hr : fn.results = #[.cell p 47, .tmp u, .tmp v]) {Q : Ending → World → Prop} {act : Act} {w : World} (g : Nat) (a b x y : Value) (hd : act.defers = [])
    (hp : act.tmps.getD p undef = .pointer (some ⟨g, 0, none⟩)) (hx : act.tmps.getD u undef = x) (hy : act.tmps.getD v undef = y)
    (h0 : w.cell? ⟨g, 0, none⟩ = some a) (h1 : w.cell? ⟨g, 1, none⟩ = some b)
    (hQ : Q (.returned (.tuple #[.agg #[a, b], x, y])) w) : bodyPost Tryz.prog fn Q .ret act w := by
  refine bodyPost_ret (v := .tuple #[.agg #[a, b], x, y]) ?_ hd hQ
  simp only [results, hr]
  simp [Sem.run_bind, Result.andThen, -Array.getD_eq_getD_getElem?]
  rw [hp, hx, hy]
  simp only [asAddr, Sem.run_pure]
  rw [load2 w g a b h0 h1]
def OneRGives (d sl b m n : Int) (fs : List Fld) (codes : Nat → ByteArray) (q : Nat) (w : World) (e : Ending) (w' : World) : Prop :=
  ∃ (code : ByteArray) (A' : Option Addr) (q' c' : Nat), e = .returned (.tuple #[.agg #[.string code, .slice A' q' c'], .int .i64 (oneKE d sl b m n fs codes q).1, .int .i64 (oneKE d sl b m n fs codes q).2]) ∧
    ((oneKE d sl b m n fs codes q).2 = 0 → code = textAt fs 0 ∧ TimesOwn w.heap.size w' (.slice A' q' c') (staffT d sl b m n fs)) ∧ Below w.heap.size w w'
theorem heap4 (w : World) (o1 o2 o3 o4 : Obj) : ((((w.alloc o1).alloc o2).alloc o3).alloc o4).heap[w.heap.size]? = some o1 ∧ ((((w.alloc o1).alloc o2).alloc o3).alloc o4).heap[w.heap.size + 1]? = some o2 ∧
    ((((w.alloc o1).alloc o2).alloc o3).alloc o4).heap[w.heap.size + 2]? = some o3 ∧ ((((w.alloc o1).alloc o2).alloc o3).alloc o4).heap[w.heap.size + 3]? = some o4 := by
  have s1 : (w.alloc o1).heap.size = w.heap.size + 1 := World.size_alloc _ _
  have s2 : ((w.alloc o1).alloc o2).heap.size = w.heap.size + 2 := by rw [World.size_alloc, s1]
  have s3 : (((w.alloc o1).alloc o2).alloc o3).heap.size = w.heap.size + 3 := by rw [World.size_alloc, s2]
  refine ⟨?_, ?_, ?_, ?_⟩
  · rw [Below.heap_alloc _ _ _ (by omega), Below.heap_alloc _ _ _ (by omega), Below.heap_alloc _ _ _ (by omega)]; exact heap_alloc_new _ _
  · rw [Below.heap_alloc _ _ _ (by omega), Below.heap_alloc _ _ _ (by omega)]; exact heap_new2 _ _ _
  · rw [Below.heap_alloc _ _ _ (by omega)]; exact heap_new3 _ _ _ _
  · have := heap_alloc_new (((w.alloc o1).alloc o2).alloc o3) o4
    rw [s3] at this
    exact this
theorem two_cells {w : World} {g : Nat} {a b : Value} {t : TypeId} (h : w.heap[g]? = some (.cells #[a, b] t (0, 0))) : w.cell? ⟨g, 0, none⟩ = some a ∧ w.cell? ⟨g, 1, none⟩ = some b ∧ w.frozen? ⟨g, 0, none⟩ = false ∧ w.frozen? ⟨g, 1, none⟩ = false := by
  refine ⟨?_, ?_, by simp [World.frozen?, h], by simp [World.frozen?, h]⟩ <;> rw [cell_of_row w g _ _ _ _ h] <;> rfl
theorem two_set {W : World} {g : Nat} {a b x y : Value} (h0 : W.cell? ⟨g, 0, none⟩ = some a) (h1 : W.cell? ⟨g, 1, none⟩ = some b) :
    ((W.setCell ⟨g, 0, none⟩ x).setCell ⟨g, 1, none⟩ y).cell? ⟨g, 0, none⟩ = some x ∧ ((W.setCell ⟨g, 0, none⟩ x).setCell ⟨g, 1, none⟩ y).cell? ⟨g, 1, none⟩ = some y :=
  ⟨(World.cell?_setCell_other _ _ _ _ (by simp)).trans (World.cell?_setCell_same _ _ _ h0), World.cell?_setCell_same _ _ _ ((World.cell?_setCell_other _ _ _ _ (by simp)).trans h1)⟩
theorem text_at {fs : List Fld} {k : Nat} (h : k < fs.length) : (fs[k]'h).1 = textAt fs k := by
  unfold textAt; rw [List.getD_eq_getElem?_getD, List.getElem?_eq_getElem h]; rfl
/-- What the region of one loads. -/
abbrev OS (rb gb fb fo : Nat) (F : Value) (d sl b m : Int) (t1 : ByteArray) (W : World) : Prop := W.cell? ⟨rb, 1, none⟩ = some F ∧ W.cell? ⟨fb, fo, none⟩ = some (.string t1) ∧ W.cell? ⟨gb, 0, none⟩ = some (.int .i64 d) ∧ W.cell? ⟨gb, 1, none⟩ = some (.int .i64 sl) ∧ W.cell? ⟨gb, 2, none⟩ = some (.int .i64 b) ∧ W.cell? ⟨gb, 3, none⟩ = some (.int .i64 m)
theorem OS.later {rb gb fb fo : Nat} {F : Value} {d sl b m : Int} {t1 : ByteArray} {W W' : World} (h : OS rb gb fb fo F d sl b m t1 W) (hb : Below W.heap.size W W') : OS rb gb fb fo F d sl b m t1 W' :=
  ⟨cell_later hb h.1, cell_later hb h.2.1, cell_later hb h.2.2.1, cell_later hb h.2.2.2.1, cell_later hb h.2.2.2.2.1, cell_later hb h.2.2.2.2.2⟩
theorem r7_cut {d sl b m n : Int} {t1 : ByteArray} {U W : World} {rb gb fb fo : Nat} {F : Value} (hs : t1.size < 1073741824) (hS : Std U) (hW : Wds U) (hD : Dys U) (h : OS rb gb fb fo F d sl b m t1 U) (hb : Below U.heap.size U W) :
    Calls Tryz.prog 85 #[.string t1, .agg #[.int .i64 d, .int .i64 sl, .int .i64 b, .int .i64 m], .int .i64 n] W fun e w' =>
      ∃ v, e = .returned (.tuple #[v, .int .i64 (timesE d sl b m n (partsOf t1))]) ∧ TimesOwn U.heap.size w' v (if timesE d sl b m n (partsOf t1) = 0 then (partsOf t1).map (pieceV d sl b m n) else []) ∧ Below U.heap.size U w' ∧ OS rb gb fb fo F d sl b m t1 w' :=
  (r7Times_walk d sl b m n t1 hs W (hS.after hb) (hW.after hb hS) (hD.after hb hS)).mono fun _ _ ⟨v, he, ht, hb'⟩ => ⟨v, he, owns_lower ht hb.size, ext_trans hb hb', h.later (ext_trans hb hb')⟩
set_option maxHeartbeats 8000000 in
theorem r9one_walk (d sl b m n line : Int) (F : Option Addr) (fs : List Fld) (c : Nat) (A : Option Addr) (q cr : Nat) (codes : Nat → ByteArray) (X1 : Nat → Value) (w : World) (hS : Std w) (hW : Wds w) (hD : Dys w)
    (hF : FieldsAt w.heap.size w F fs) (hq : q ≤ 32) (hs : ∀ f ∈ fs, f.1.size < 1073741824) (hX : CellsAt w.heap.size w A 2 q fun j => [.string (codes j), X1 j]) :
    Calls Tryz.prog 43 #[.agg #[.int .i64 line, .slice F fs.length c], .agg #[.int .i64 d, .int .i64 sl, .int .i64 b, .int .i64 m], .int .i64 n, .slice A q cr] w fun e w' => OneRGives d sl b m n fs codes q w e w' := by
  by_cases hm : fs.length = 2
  · obtain ⟨fb, fo, rfl, hfb, hfc⟩ := hF (by omega)
    obtain ⟨f0, -, -⟩ := hfc 0 (by omega)
    obtain ⟨f1, -, -⟩ := hfc 1 (by omega)
    rw [text_at] at f0 f1
    rw [Nat.zero_mul, Nat.add_zero] at f0
    rw [Nat.one_mul] at f1
    have hs1 : (textAt fs 1).size < 1073741824 := by rw [← text_at (by omega)]; exact hs _ (List.getElem_mem _)
    have hm2 : ((fs.length : Int) != 2) = false := by simp; omega
    obtain ⟨t0, ht0⟩ : ∃ t0, textAt fs 0 = t0 := ⟨_, rfl⟩
    obtain ⟨t1, ht1⟩ : ∃ t1, textAt fs 1 = t1 := ⟨_, rfl⟩
    have hKE : oneKE d sl b m n fs codes q = (if codeB t0 = false then (0, 10) else if timesE d sl b m n (partsOf t1) ≠ 0 then (1, timesE d sl b m n (partsOf t1)) else if orTo (fun j => sameS (codes j) t0) q then (-1, 11) else if q = 32 then (-1, 2) else (0, 0)) := by
      unfold oneKE; rw [if_neg (by simp [hm]), ht0, ht1]
    have hST : staffT d sl b m n fs = if codeB t0 then (partsOf t1).map (pieceV d sl b m n) else [] := by unfold staffT; rw [ht0, ht1]
    rw [ht0] at f0
    rw [ht1] at f1 hs1
    have hc0 : textAt fs 0 = t0 := ht0
    replace hc0 := hide hc0
    clear ht0 ht1 hfc hF hs
    have hU4 := heap4 w (.cells #[.int .i64 line, .slice (some ⟨fb, fo, none⟩) fs.length c] 27) (.cells #[.int .i64 d, .int .i64 sl, .int .i64 b, .int .i64 m] 24) (.cells #[.string ⟨#[]⟩, .slice none 0 0] 47) (.cells #[.string t0, .slice none 0 0] 47)
    have hbU : Below w.heap.size w ((((w.alloc (.cells #[.int .i64 line, .slice (some ⟨fb, fo, none⟩) fs.length c] 27)).alloc (.cells #[.int .i64 d, .int .i64 sl, .int .i64 b, .int .i64 m] 24)).alloc (.cells #[.string ⟨#[]⟩, .slice none 0 0] 47)).alloc (.cells #[.string t0, .slice none 0 0] 47)) := (by repeat (first | exact Below.refl _ _ | refine ext_alloc ?_ _ | refine ext_drewN ?_ _ | refine ext_drew ?_ | refine ext_trans ?_ (by assumption)))
    obtain ⟨U, hU⟩ : ∃ U, (((w.alloc (.cells #[.int .i64 line, .slice (some ⟨fb, fo, none⟩) fs.length c] 27)).alloc (.cells #[.int .i64 d, .int .i64 sl, .int .i64 b, .int .i64 m] 24)).alloc (.cells #[.string ⟨#[]⟩, .slice none 0 0] 47)).alloc (.cells #[.string t0, .slice none 0 0] 47) = U := ⟨_, rfl⟩
    rw [hU] at hU4 hbU
    obtain ⟨u1, u2, u3, u4⟩ := hU4
    replace hU := hide hU
    replace hm := hide hm
    have hfb1 : fb < w.heap.size + 1 := by omega
    have hl0 : 0 < fs.length := by rw [hm.out]; omega
    have hl1 : 1 < fs.length := by rw [hm.out]; omega
    have hl2 : (1 : Int) < (fs.length : Int) := by omega
    have hl3 : (0 : Int) ≤ 1 := by omega
    have hfb2 : fb < w.heap.size + 1 + 1 := by omega
    go_enter Tryz.func43, Tryz.ntmps43
    go_wp2_with fail
    rw [hU.out]
    refine (r3valid_walk _ _).mono ?_
    rintro e W ⟨rfl, rfl⟩
    obtain ⟨-, o1, -, -⟩ := two_cells u1
    obtain ⟨g0, g1, g2, g3, -⟩ := scan_cells u2
    obtain ⟨r0, r1, rf0, rf1⟩ := two_cells u3
    obtain ⟨b0, b1, bf0, bf1⟩ := two_cells u4
    have f1U : U.cell? ⟨fb, fo + 3, none⟩ = some (.string t1) := (hbU.cell (p := ⟨fb, fo + 3, none⟩) hfb).trans f1
    have l3 : w.heap.size + 3 < U.heap.size := blk_lt u4
    have hSU := hS.after hbU
    have hWU := hW.after hbU hS
    have hDU := hD.after hbU hS
    have hXU := (hX.below hbU).more hbU.size
    have hOS : OS w.heap.size (w.heap.size + 1) fb (fo + 3) (.slice (some ⟨fb, fo, none⟩) fs.length c) d sl b m t1 U := ⟨o1, f1U, g0, g1, g2, g3⟩
    clear hS hW hD u1 u2 u3 u4 hU f0 f1
    cases hv : codeB t0
    · rw [hv, if_pos rfl] at hKE
      clear hOS hSU hWU hDU hX hXU hST
      go_wp2
      refine end_lect3 rfl (w.heap.size + 1 + 1) (.string t0) (.slice none 0 0) _ _ rfl rfl rfl rfl (two_set r0 r1).1 (two_set r0 r1).2 ⟨_, _, _, _, by rw [hKE]; rfl, (fun h => by rw [hKE] at h; cases h), ?_⟩
      exact (hbU.setCell (p := ⟨w.heap.size + 1 + 1, 0, none⟩) (by show w.heap.size ≤ w.heap.size + 1 + 1; omega) _).setCell (p := ⟨w.heap.size + 1 + 1, 1, none⟩) (by show w.heap.size ≤ w.heap.size + 1 + 1; omega) _
    · rw [hv, if_neg (by simp)] at hKE
      rw [hv, if_pos rfl] at hST
      obtain ⟨er, her⟩ : ∃ er, timesE d sl b m n (partsOf t1) = er := ⟨_, rfl⟩
      have hr7 := fun W hb => r7_cut (n := n) (W := W) hs1 hSU hWU hDU hOS hb
      rw [her] at hr7 hKE
      replace hr7 := hide hr7
      replace her := hide her
      replace hKE := hide hKE
      replace hST := hide hST
      go_upto_region 6 with fail
      have hOd : OS w.heap.size (w.heap.size + 1) fb (fo + 3) (.slice (some ⟨fb, fo, none⟩) fs.length c) d sl b m t1 U.drew := hOS
      go_region_held3 (fun W' => W'.cell? ⟨w.heap.size, 1, none⟩ = some (.slice (some ⟨fb, fo, none⟩) fs.length c) ∧ W'.cell? ⟨fb, fo + 3, none⟩ = some (.string t1) ∧ W'.cell? ⟨w.heap.size + 1, 0, none⟩ = some (.int .i64 d) ∧ W'.cell? ⟨w.heap.size + 1, 1, none⟩ = some (.int .i64 sl) ∧ W'.cell? ⟨w.heap.size + 1, 2, none⟩ = some (.int .i64 b) ∧ W'.cell? ⟨w.heap.size + 1, 3, none⟩ = some (.int .i64 m)) (first | (with_reducible assumption)) (first | (go_at_call 85; refine (hr7.out _ (by repeat (first | exact Below.refl _ _ | refine ext_drew ?_))).mono ?_; rintro e w2 ⟨v, rfl, ht, hb2, hs2⟩))
      all_goals
        have b0' := cell_later hb2 b0
        have b1' := cell_later hb2 b1
        have r0' := cell_later hb2 r0
        have r1' := cell_later hb2 r1
        have bf1' := (hb2.frozen (p := ⟨w.heap.size + 3, 1, none⟩) l3).trans bf1
        have rf0' := (hb2.frozen (p := ⟨w.heap.size + 2, 0, none⟩) (by show w.heap.size + 2 < _; omega)).trans rf0
        have rf1' := (hb2.frozen (p := ⟨w.heap.size + 2, 1, none⟩) (by show w.heap.size + 2 < _; omega)).trans rf1
        have hbw := hbU.trans (hb2.mono hbU.size)
        clear hs2 hOd hOS hXU hr7 b0 b1 r0 r1 bf0 bf1 rf0 rf1 g0 g1 g2 g3 o1 f1U
        by_cases he : er = 0
        · rw [if_pos he] at ht
          have hKE2 : Hid (oneKE d sl b m n fs codes q = (if orTo (fun j => sameS (codes j) t0) q then (-1, 11) else if q = 32 then (-1, 2) else (0, 0))) := by
            have := hKE.out; rw [if_neg (by simp [he])] at this; exact this
          subst he
          obtain ⟨A3, c3, hv3⟩ := owns_form ht
          obtain ⟨Lt, hLt⟩ : ∃ Lt, ((partsOf t1).map (pieceV d sl b m n)).length = Lt := ⟨_, rfl⟩
          rw [hLt] at hv3
          subst hv3
          clear hLt
          have hown : ∀ y, (Value.slice A3 Lt c3).ownBlock = some y → U.heap.size ≤ y := own_high ht (Nat.le_refl _)
          have hn3 : (Value.slice A3 Lt c3).ownBlock ≠ some (w.heap.size + 3) := fun e => by have := hown _ e; omega
          have hn2 : (Value.slice A3 Lt c3).ownBlock ≠ some (w.heap.size + 2) := fun e => by have := hown _ e; omega
          obtain ⟨V, hV⟩ : ∃ V, w2.setCell ⟨w.heap.size + 3, 1, none⟩ (.slice A3 Lt c3) = V := ⟨_, rfl⟩
          have v0 : V.cell? ⟨w.heap.size + 3, 0, none⟩ = some (.string t0) := by rw [← hV]; exact (World.cell?_setCell_other _ _ _ _ (by simp)).trans b0'
          have v1 : V.cell? ⟨w.heap.size + 3, 1, none⟩ = some (.slice A3 Lt c3) := by rw [← hV]; exact World.cell?_setCell_same _ _ _ b1'
          have x0 : V.cell? ⟨w.heap.size + 2, 0, none⟩ = some (.string ⟨#[]⟩) := by rw [← hV]; exact (World.cell?_setCell_other _ _ _ _ (by simp)).trans r0'
          have x1 : V.cell? ⟨w.heap.size + 2, 1, none⟩ = some (.slice none 0 0) := by rw [← hV]; exact (World.cell?_setCell_other _ _ _ _ (by simp)).trans r1'
          have y0 : V.frozen? ⟨w.heap.size + 2, 0, none⟩ = false := by rw [← hV, World.frozen?_setCell]; exact rf0'
          have y1 : V.frozen? ⟨w.heap.size + 2, 1, none⟩ = false := by rw [← hV, World.frozen?_setCell]; exact rf1'
          have htV : TimesOwn U.heap.size V (.slice A3 Lt c3) ((partsOf t1).map (pieceV d sl b m n)) := by rw [← hV]; exact owns_set ht hn3
          have hbV : Below w.heap.size w V := by rw [← hV]; exact hbw.setCell (p := ⟨w.heap.size + 3, 1, none⟩) (by show w.heap.size ≤ w.heap.size + 3; omega) _
          have hV2 : w.heap.size + 2 < V.heap.size := World.block_lt_of_cell? _ _ x0
          have hidx := r9Index_walk A q cr t0 codes X1 V (by omega) ((hX.below hbV).more hbV.size)
          obtain ⟨dup, hdup⟩ : ∃ dup, orTo (fun j => sameS (codes j) t0) q = dup := ⟨_, rfl⟩
          rw [hdup] at hKE2
          replace hKE := hKE2
          clear hKE2
          replace hV := hide hV
          replace hdup := hide hdup
          clear hX ht hbw hb2
          go_wp2_with fail
          rw [hV.out]
          refine hidx.mono ?_
          clear hidx
          rintro e w4 ⟨rr, rfl, hrr, hb4'⟩
          rw [hdup.out] at hrr
          have s0 := cell_later hb4' x0
          have s1 := cell_later hb4' x1
          have z0 := (hb4'.frozen (p := ⟨w.heap.size + 2, 0, none⟩) hV2).trans y0
          have z1 := (hb4'.frozen (p := ⟨w.heap.size + 2, 1, none⟩) hV2).trans y1
          have m0 := cell_later hb4' v0
          have m1 := cell_later hb4' v1
          have ht4 := owns_later htV hb4'
          have hb4 := ext_trans hbV hb4'
          clear b0' b1' r0' r1' bf1' rf0' rf1' hV v0 v1 x0 x1 y0 y1 hb4' hbV htV
          cases dup with
          | true =>
            have hr0 : 0 ≤ rr := of_decide_eq_true hrr
            have hKE3 : Hid (oneKE d sl b m n fs codes q = (-1, 11)) := hKE.out
            clear hrr hKE
            go_wp2
            refine end_lect3 rfl (w.heap.size + 1 + 1) (.string t0) (.slice A3 Lt c3) _ _ rfl rfl rfl rfl (two_set s0 s1).1 (two_set s0 s1).2 ⟨_, _, _, _, by rw [hKE3.out]; rfl, (fun h => by rw [hKE3.out] at h; cases h), ?_⟩
            exact (hb4.setCell (p := ⟨w.heap.size + 1 + 1, 0, none⟩) (by show w.heap.size ≤ w.heap.size + 1 + 1; omega) _).setCell (p := ⟨w.heap.size + 1 + 1, 1, none⟩) (by show w.heap.size ≤ w.heap.size + 1 + 1; omega) _
          | false =>
            have hr0 : ¬ 0 ≤ rr := of_decide_eq_false hrr
            clear hrr
            by_cases h32 : q = 32
            · have hKE3 : Hid (oneKE d sl b m n fs codes q = (-1, 2)) := hide (by have := hKE.out; simpa [h32] using this)
              clear hKE
              subst h32
              go_wp2
              refine end_lect3 rfl (w.heap.size + 1 + 1) (.string t0) (.slice A3 Lt c3) _ _ rfl rfl rfl rfl (two_set s0 s1).1 (two_set s0 s1).2 ⟨_, _, _, _, by rw [hKE3.out]; rfl, (fun h => by rw [hKE3.out] at h; cases h), ?_⟩
              exact (hb4.setCell (p := ⟨w.heap.size + 1 + 1, 0, none⟩) (by show w.heap.size ≤ w.heap.size + 1 + 1; omega) _).setCell (p := ⟨w.heap.size + 1 + 1, 1, none⟩) (by show w.heap.size ≤ w.heap.size + 1 + 1; omega) _
            · have hKE3 : Hid (oneKE d sl b m n fs codes q = (0, 0)) := hide (by have := hKE.out; simpa [h32] using this)
              have hq2 : ((q : Int) == 32) = false := by simp; omega
              clear hKE
              go_wp2
              refine end_lect3 rfl (w.heap.size + 1 + 1) (.string t0) (.slice A3 Lt c3) _ _ rfl rfl rfl rfl (two_set s0 s1).1 (two_set s0 s1).2 ⟨_, _, _, _, by rw [hKE3.out]; rfl, (fun _ => ⟨hc0.out.symm, by rw [hST.out]; exact owns_lower (owns_set (owns_set ht4 hn2) hn2) hbU.size⟩), ?_⟩
              exact (hb4.setCell (p := ⟨w.heap.size + 1 + 1, 0, none⟩) (by show w.heap.size ≤ w.heap.size + 1 + 1; omega) _).setCell (p := ⟨w.heap.size + 1 + 1, 1, none⟩) (by show w.heap.size ≤ w.heap.size + 1 + 1; omega) _
        · have he2 : (er != 0) = true := by simpa using he
          have hKE2 : Hid (oneKE d sl b m n fs codes q = (1, er)) := by have := hKE.out; rw [if_pos he] at this; exact this
          replace he := hide he
          clear hX ht hKE
          go_wp2
          refine end_lect3 rfl (w.heap.size + 1 + 1) (.string t0) (.slice none 0 0) _ _ rfl rfl rfl rfl (two_set r0' r1').1 (two_set r0' r1').2 ⟨_, _, _, _, by rw [hKE2.out]; rfl, (fun h => by rw [hKE2.out] at h; exact absurd h he.out), ?_⟩
          exact (hbw.setCell (p := ⟨w.heap.size + 1 + 1, 0, none⟩) (by show w.heap.size ≤ w.heap.size + 1 + 1; omega) _).setCell (p := ⟨w.heap.size + 1 + 1, 1, none⟩) (by show w.heap.size ≤ w.heap.size + 1 + 1; omega) _
  · have hk : oneKE d sl b m n fs codes q = (-1, 9) := if_pos hm
    have hm2 : ((fs.length : Int) != 2) = true := by simp; omega
    clear hF hX hs hS hW hD
    replace hm := hide hm
    go_enter Tryz.func43, Tryz.ntmps43
    go_wp2
    refine end_lect3 rfl (w.heap.size + 1 + 1) (.string ⟨#[]⟩) (.slice none 0 0) _ _ rfl rfl rfl rfl ?_ ?_ ⟨_, _, _, _, by rw [hk]; rfl, (fun h => by rw [hk] at h; cases h), (by repeat (first | exact Below.refl _ _ | refine ext_alloc ?_ _ | refine ext_drewN ?_ _ | refine ext_drew ?_ | refine ext_trans ?_ (by assumption)))⟩
    · rw [cell_of_row _ _ _ _ _ _ (heap_new3 _ _ _ _)]; rfl
    · rw [cell_of_row _ _ _ _ _ _ (heap_new3 _ _ _ _)]; rfl
end Go.Proofs.YtgbkochjoaalhaaGreatDoor
