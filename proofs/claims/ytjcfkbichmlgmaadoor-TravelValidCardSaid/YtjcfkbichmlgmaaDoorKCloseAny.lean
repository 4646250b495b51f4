/- Walk of timetableref08.Close. Conditions: the cells. Both Close of any table. Conditions: the cells. -/
import Derived.Test.YtjcfkbichmlgmaaDoorKAwake8
import Derived.Test.YtjcfkbichmlgmaaDoorKWrite8R
import Derived.Test.YtjcfkbichmlgmaaDoorKR8R
namespace Go.Proofs.YtjcfkbichmlgmaaDoor
open Go.RowKit
set_option maxRecDepth 100000

/-! A row is copied into another. -/
theorem owns_setCellsC {B h N C : Nat} {t : TypeId} : ∀ (cs : List Value) (o : Nat) (xs : List Value) (w : World), w.ownsRow B t 1 (.slice (some ⟨h, 0, none⟩) N C) N xs →
    (w.setCells h o cs).ownsRow B t 1 (.slice (some ⟨h, 0, none⟩) N C) N (putAll xs o cs) ∧ Only h w (w.setCells h o cs)
  | [], o, xs, w, hr => ⟨hr, Only.refl _ _⟩
  | c :: r, o, xs, w, hr => by
    have h1 := World.ownsRow.stored hr o c
    have h2 := owns_setCellsC r (o + 1) (xs.set o c) _ h1.1
    exact ⟨h2.1, h1.2.trans h2.2⟩
theorem putAll_len {α : Type} : ∀ (cs : List α) (o : Nat) (xs : List α), (putAll xs o cs).length = xs.length
  | [], _, _ => rfl
  | c :: r, o, xs => by rw [putAll, putAll_len]; simp
theorem putAll_get {α : Type} : ∀ (cs : List α) (o : Nat) (xs : List α) (i : Nat), o + cs.length ≤ xs.length → (putAll xs o cs)[i]? = if o ≤ i ∧ i < o + cs.length then cs[i - o]? else xs[i]?
  | [], o, xs, i, _ => by rw [putAll, if_neg (by simp only [List.length_nil]; omega)]
  | c :: r, o, xs, i, h => by
    rw [putAll, putAll_get r (o + 1) (xs.set o c) i (by simp only [List.length_cons, List.length_set] at h ⊢; omega)]
    simp only [List.length_cons] at h ⊢
    by_cases h1 : o + 1 ≤ i ∧ i < o + 1 + r.length
    · rw [if_pos h1, if_pos ⟨by omega, by omega⟩, show i - o = (i - (o + 1)) + 1 from by omega, List.getElem?_cons_succ]
    · rw [if_neg h1]
      by_cases h2 : i = o
      · subst h2
        rw [if_pos ⟨Nat.le_refl _, by omega⟩, List.getElem?_set_self (by omega), Nat.sub_self]
        rfl
      · rw [if_neg (by omega), List.getElem?_set_ne (fun e => h2 e.symm)]
theorem putAll_all {α : Type} (cs xs : List α) (h : cs.length = xs.length) : putAll xs 0 cs = cs := by
  apply List.ext_getElem?
  intro i
  rw [putAll_get cs 0 xs i (by omega)]
  by_cases hi : i < cs.length
  · rw [if_pos ⟨Nat.zero_le _, by omega⟩]; rfl
  · rw [if_neg (by omega), List.getElem?_eq_none (by omega), List.getElem?_eq_none (by omega)]
/-- copy onto a row of the table. -/
theorem copy_row {B n b fb fo ci fc : Nat} {x y : List Int} {w : World} (ty : TypeId) (hr : RowOwn B n w b y) (_h0 : 0 < n) (hx : x.length = n) (hc : ∀ j u, x[j]? = some u → w.cell? ⟨fb, fo + j, none⟩ = some (.int .i64 u)) :
    ∃ w', (Builtin.copy_ #[43, 43] ty #[.slice (some ⟨b, 0, none⟩) n ci, .slice (some ⟨fb, fo, none⟩) n fc]).run Tryd.prog w = .ok (.int .i64 (n : Int)) w' ∧ RowOwn B n w' b x ∧ Only b w w' := by
  obtain ⟨cur, -, hgg⟩ := row_blk hr
  have hyl := row_len hr
  have hrun := run_copy_cells (P := Tryd.prog) w 43 43 ty 3 b 0 n ci ⟨fb, fo, none⟩ n fc (ints x) Tryd.underlying43 info_int (by unfold ints; rw [List.length_map, hx]; exact (Nat.min_self n).symm)
    (fun j v hj => by
      unfold ints at hj
      rw [List.getElem?_map] at hj
      obtain ⟨u, hu, rfl⟩ := Option.map_eq_some_iff.1 hj
      rw [Addr.add_lit]; exact hc j u hu)
    (fun j hj => by
      unfold ints at hj
      rw [List.length_map, hx] at hj
      rw [Nat.zero_add, row_cell hr (List.getElem?_eq_getElem (by omega : j < y.length))]; rfl)
    (fun j _ => by simp [World.frozen?, hgg])
    (fun v hv => by unfold ints at hv; obtain ⟨u, -, rfl⟩ := List.mem_map.1 hv; rfl)
  obtain ⟨C, hr⟩ := hr
  obtain ⟨h1, h2⟩ := owns_setCellsC (ints x) 0 _ w hr
  rw [putAll_all _ _ (by unfold ints; rw [List.length_map, List.length_map, hx, hyl])] at h1
  have hl : (ints x).length = n := by unfold ints; rw [List.length_map, hx]
  rw [hl] at hrun
  exact ⟨_, hrun, ⟨C, h1⟩, h2⟩
theorem TR.rowSet {tw : TypeId} {w0 W W' : World} {u4 u6 a v : Value} {ws : List Way} {ps : List Prob} {names : List ByteArray} {n : Nat} {hs : List Nat} {m : List (List Int)} {i b : Nat} {x y : List Int} (h : TR tw w0 u4 u6 a v ws ps names n hs m W) (ha : ApartW tw) (h1 : hs[i]? = some b) (h2 : m[i]? = some y) (hr : RowOwn w0.heap.size n W' b x) (s2 : Only b W W') :
    TR tw w0 u4 u6 a v ws ps names n hs (m.set i x) W' := by
  obtain ⟨cur, hB, hg⟩ := row_blk (h.mat.row i b y h1 h2)
  refine ⟨h.nms.only s2 hg (Nat.zero_le _) (by decide) (by simp), h.ways.only s2 hg (Nat.zero_le _) ha.2.1 (by simp), owns_apart h.ps s2 hg (by decide), ?_, h.below.trans (Only.below s2 hB h.below.size)⟩
  refine ⟨h.mat.own.only s2 hg (Nat.zero_le _) (by decide) (by simp), by rw [List.length_set]; exact h.mat.len, h.mat.inc, fun j c z q1 q2 => ?_⟩
  by_cases hj : i = j
  · subst hj
    rw [h1] at q1
    obtain rfl := Option.some.inj q1
    rw [List.getElem?_set_self (List.getElem?_eq_some_iff.1 h2).1] at q2
    obtain rfl := Option.some.inj q2
    exact hr
  · rw [List.getElem?_set_ne hj] at q2
    refine (h.mat.row j c z q1 q2).kept s2 fun e => ?_
    have e := Option.some.inj e
    subst e
    obtain ⟨a1, a2⟩ := List.getElem?_eq_some_iff.1 h1
    obtain ⟨b1, b2⟩ := List.getElem?_eq_some_iff.1 q1
    exact hj ((List.getElem_inj h.mat.inc).1 (a2.trans b2.symm))
theorem infoStr3 : (Tryd.prog.info? 9).map (fun i => (i.zero, i.size, i.bytes)) = some (some (.string ⟨#[]⟩), 1, 16) := by kernel_rfl
/-- append(nil, strings...). -/
theorem wpList_strs {ops : Array Oper} {rest : List Oper} {o : Oper} {a : Act} {Q : Exit → Act → World → Prop} {w : World} (hgd : o.guard = none) (s x : Operand)
    (ho : o.op = .call { callee := .builtin .append, args := #[s, x], argTypes := #[22, 22] }) (hs : a.eval s = .slice none 0 0) (D : Option Addr) (d n : Nat) (bs : List ByteArray) (hn : bs.length = n) (hx : a.eval x = .slice D n d) (hD : At kStr AnyB w D bs) (hl : n ≤ 1000)
    (hk : ∀ D' d' w', Own kStr 9 [] 0 w.heap.size w' (.slice D' n d') bs → Below w.heap.size w w' → wpList Tryd.prog ops Q rest (a.put o.dst (.slice D' n d')) w') : wpList Tryd.prog ops Q (o :: rest) a w := by
  obtain ⟨i, hi, hz, h1, h2⟩ := info_parts infoStr3
  by_cases h0 : n = 0
  · subst h0
    obtain rfl : bs = [] := List.eq_nil_of_length_eq_zero hn
    refine wpList_plain hgd fun K hK => ?_
    have hrun : (Builtin.append_ #[22, 22] o.type #[.slice none 0 0, .slice D 0 d]).run Tryd.prog w = .ok (.slice none 0 0) w := by
      cases D <;> simp [Builtin.append_, run_underlying Tryd.underlying22, sizeOf, typeInfo, hi, Builtin.lenOf, Builtin.firstCells, loadCells, loadCellsFrom]
    unfold Oper.wp
    simp [execOp, ho, resolve, invoke, builtin, hs, hx, hrun, Result.andThen]
    exact hK _ _ (hk none 0 w Own.nil (Below.refl _ _))
  · obtain ⟨b, off, rfl, -, hb, hc⟩ := hD (by omega)
    refine wpList_append_own _ hgd s x 22 ho w.heap.size 9 i (.string ⟨#[]⟩) 1 16 Tryd.underlying22 hi hz h1 h2 rfl (by decide) (.slice none 0 0) 0 [] hs (World.ownsRow_nil _ _ _ _) ⟨b, off, none⟩ n d (bs.map Value.string) hx (by rw [List.length_map]; omega) (fun j u hj => ?_) (fun u hu => ?_) (by unfold maxLen; omega) (by omega) (Nat.le_refl _) ?_
    · rw [List.getElem?_map] at hj
      obtain ⟨z, hz, rfl⟩ := Option.map_eq_some_iff.1 hj
      obtain ⟨vs, hr, hcell⟩ := hc j z hz
      rw [rep_str] at hr
      subst hr
      rw [Addr.add_lit]
      simpa [kStr] using hcell 0 _ rfl
    · obtain ⟨z, -, rfl⟩ := List.mem_map.1 hu; rfl
    · intro v' w' hown hg _
      rw [List.nil_append, Nat.zero_add, ← hn] at hown
      have hO := own_ofStrs hown
      obtain ⟨D', d', rfl⟩ := hO.form
      rw [hn] at hO
      rw [hn]
      exact hk D' d' w' hO (Below.grown (Below.refl _ _) hg (Nat.le_refl _) (fun k hk => by cases hk))
set_option maxHeartbeats 16000000 in
theorem r8close_walk (D A : Option Addr) (bs : List ByteArray) (xs : List (List Int)) (d c : Nat) (w : World) (hd : bs.length ≤ d) (hV : validT bs xs = 0) (hD : At kStr AnyB w D bs) (hA : At (kSlice kInt) AnyB w A xs) :
    Calls Tryd.prog 8 #[.agg #[.slice D bs.length d, .slice A xs.length c]] w fun e w' => CloseEnd bs xs w e w' := by
  obtain ⟨hn8, hB⟩ := validT_ok hV
  have hxn := hB.sq.1
  have hb0 : Below w.heap.size w ((w.alloc (.cells #[.slice D bs.length d, .slice A xs.length c] 25)).alloc (.cells #[.slice none 0 0, .slice none 0 0] 25)) := (by repeat (first | exact Below.refl _ _ | refine ext_alloc ?_ _ | refine ext_drewN ?_ _ | refine ext_drew ?_ | refine ext_trans ?_ (by assumption)))
  have p0 : TBox ((w.alloc (.cells #[.slice D bs.length d, .slice A xs.length c] 25)).alloc (.cells #[.slice none 0 0, .slice none 0 0] 25)) w.heap.size (.slice D bs.length d) (.slice A xs.length c) := block_after (heap_alloc_new _ _)
  have r0 : TBox ((w.alloc (.cells #[.slice D bs.length d, .slice A xs.length c] 25)).alloc (.cells #[.slice none 0 0, .slice none 0 0] 25)) (w.heap.size + 1) (.slice none 0 0) (.slice none 0 0) := heap_new2 _ _ _
  obtain ⟨W, hW⟩ : ∃ W, (w.alloc (.cells #[.slice D bs.length d, .slice A xs.length c] 25)).alloc (.cells #[.slice none 0 0, .slice none 0 0] 25) = W := ⟨_, rfl⟩
  rw [hW] at hb0 p0 r0
  have hDW := hD.later hb0
  have hAW := hA.later hb0
  have hval := r8valid_walk D A bs xs d c W (by omega) (by omega) (fun x hx => by have := hB.sq.2 x hx; omega) hDW hAW
  rw [hV] at hval
  have hfin : Hid (∀ e w', CloseEnd bs xs w e w' = (∃ D' d' v hs, e = .returned (.tuple #[.agg #[.slice D' bs.length d', v], .int .i64 0]) ∧ Own kStr 9 [] 0 w.heap.size w' (.slice D' bs.length d') bs ∧ Mat bs.length w.heap.size w' v hs (closeF bs.length xs) ∧ Below w.heap.size w w')) := hide fun _ _ => rfl
  obtain ⟨p, hp⟩ : ∃ p, w.heap.size = p := ⟨_, rfl⟩
  obtain ⟨rg, hrg⟩ : ∃ rg, p + 1 = rg := ⟨_, rfl⟩
  rw [hp] at p0 r0
  rw [hrg] at r0
  rw [hxn] at p0 hval hW ⊢
  obtain ⟨n, hnn⟩ : ∃ n, bs.length = n := ⟨_, rfl⟩
  have hunk := fun (D' : Option Addr) (d' : Nat) (V : World) => r8unk_walk D' bs d' V (by omega)
  rw [hnn] at p0 hval hW hfin hn8 hB hxn hd ⊢
  simp only [hnn, UnkEnd] at hunk
  have hpl := blk_lt p0
  have hpr : w.heap.size ≤ rg := by omega
  replace hW := hide hW
  replace hp := hide hp
  replace hrg := hide hrg
  replace hnn := hide hnn
  replace hB := hide hB
  replace hunk := hide hunk
  clear hD hA hV hxn
  go_enter Tryd.func8, Tryd.ntmps8
  go_wp2_with fail
  rw [hW.out, hp.out, hrg.out]
  refine hval.mono ?_
  rintro e w1 ⟨rfl, hb1⟩
  replace p0 := tbox_later p0 hb1
  replace r0 := tbox_later r0 hb1
  replace hb0 := ext_trans hb0 hb1
  replace hDW := hDW.later hb1
  replace hAW := hAW.later hb1
  clear hval hW hpl hb1
  have hpl := blk_lt p0
  have hrl := blk_lt r0
  obtain ⟨e0, e1, -, -⟩ := tbox_cells p0
  go_wp2_with (at_builtin; refine wpList_strs rfl _ _ rfl rfl D d n bs hnn.out rfl hDW (by omega) ?_)
  intro D' d' w2 hown hb2
  have hu := hunk.out D' d' w2
  go_wp2_with fail
  refine hu.mono ?_
  rintro e w3 ⟨v, hs, rfl, hM, hb3⟩
  obtain ⟨Av, nv, cv, rfl⟩ : ∃ A n c, v = .slice A n c := by obtain ⟨A, c, e⟩ := hM.form; exact ⟨A, _, c, e⟩
  have hT3 : TC w1 (.slice D' n d') (.slice Av nv cv) bs n hs (unkM n) w3 := ⟨hown.later hb3, Own.nil, World.ownsRow_nil _ _ _ _, hM.lower hb2.size, ext_trans hb2 hb3⟩
  have hbx4 : TBox (w3.alloc (.cells #[.slice D' n d', .slice Av nv cv] 25)) w3.heap.size (.slice D' n d') (.slice Av nv cv) := heap_alloc_new _ _
  have hT4 := hT3.alloc (.cells #[.slice D' n d', .slice Av nv cv] 25)
  have hg1 : w1.heap.size ≤ w3.heap.size := hT3.below.size
  obtain ⟨w4, hw4⟩ : ∃ w4, w3.alloc (.cells #[.slice D' n d', .slice Av nv cv] 25) = w4 := ⟨_, rfl⟩
  obtain ⟨g, hg⟩ : ∃ g, w3.heap.size = g := ⟨_, rfl⟩
  rw [hw4] at hbx4 hT4
  rw [hg] at hbx4 hg1
  replace hw4 := hide hw4
  replace hg := hide hg
  clear hT3 hown hb2 hb3 hM hu hunk hDW e0 e1
  go_wp2_with fail
  rw [hw4.out, hg.out]
  go_loopw [7] (fun i wr => CellLoop w1 g (.slice D' n d') (.slice Av nv cv) bs n hs (fun q => xs.take q ++ (unkM n).drop q) i wr) (fun i _ => n - (intOf i).toNat)
  case atStart => exact ⟨0, Nat.zero_le _, rfl, hbx4, hT4⟩
  case round =>
    clear hbx4 hT4
    obtain ⟨j, hj, rfl, hbx, hT⟩ := hrel
    dsimp only at hT
    by_cases hlt : j < n
    · obtain ⟨x, hx, hxl⟩ := sq_row hB.out.sq hlt
      obtain ⟨y, hy, hyl⟩ := sq_row (sq_unk n) hlt
      obtain ⟨ab, aoff, F, fc, rfl, -, hab, k0, -, hF⟩ := (hAW.later hT.below).slice hx
      obtain ⟨fb, fo, rfl, -, hfb, -⟩ := hF.int (List.getElem?_eq_getElem (by omega : 0 < x.length))
      rw [hxl] at k0
      have hfx : ∀ q u, x[q]? = some u → wr.cell? ⟨fb, fo + q, none⟩ = some (.int .i64 u) := fun q u hq => by
        obtain ⟨fb', fo', e, -, -, h⟩ := hF.int hq
        injection e with e
        injection e with a1 a2
        subst a1 a2
        exact h
      have hm : (xs.take j ++ (unkM n).drop j)[j]? = some y := by
        have hjx : (xs.take j).length = j := by rw [List.length_take, hB.out.sq.1]; omega
        rw [List.getElem?_append_right (by omega), hjx, Nat.sub_self, List.getElem?_drop, Nat.add_zero]; exact hy
      have hset : (xs.take j ++ (unkM n).drop j).set j x = xs.take (j + 1) ++ (unkM n).drop (j + 1) := by
        have hjx : (xs.take j).length = j := by rw [List.length_take, hB.out.sq.1]; omega
        have hd : (unkM n).drop j = y :: (unkM n).drop (j + 1) := by
          have hjl := (List.getElem?_eq_some_iff.1 hy).1
          have hje := List.getElem?_eq_getElem hjl
          rw [hy] at hje
          rw [List.drop_eq_getElem_cons hjl, ← Option.some.inj hje]
        rw [List.set_append_right _ _ (by omega), hjx, Nat.sub_self, hd, List.set_cons_zero, List.take_add_one, hx]
        simp
      obtain ⟨sb, cc, bi, ci, hv, -, hsb, c1, hhi, hri, -⟩ := hT.mat.get hm
      have hml : (xs.take j ++ (unkM n).drop j).length = n := by rw [List.length_append, List.length_take, List.length_drop, hB.out.sq.1, (sq_unk n).1]; omega
      rw [hml] at hv
      injection hv with v1 v2 v3
      have v2s := v2.symm
      subst v1 v2s v3
      obtain ⟨w5, hrun, hr5, ho5⟩ := copy_row (ci := ci) (fc := fc) (ty := 3) hri (by omega) hxl hfx
      obtain ⟨w5d, hrund, hr5d, ho5d⟩ := copy_row (ci := ci) (fc := fc) (ty := 3) hri.drew (by omega) hxl hfx
      obtain ⟨cur, -, hbb⟩ := row_blk hri
      have hne := tbox_ne hbx hbb (by decide)
      have hT5 := hT.rowSet apart_way hhi hm hr5 ho5
      have hT5d := hT.drew.rowSet apart_way hhi hm hr5d ho5d
      rw [hset] at hT5 hT5d
      have hb5 := tbox_only hbx ho5 hne
      have hb5d := tbox_only (tbox_drew hbx) ho5d hne
      obtain ⟨e0, e1, -, -⟩ := tbox_cells hbx
      have hgl := blk_lt hbx
      have q0 := tbox_later p0 hT.below
      obtain ⟨q1, q2, -, -⟩ := tbox_cells q0
      have hql := blk_lt q0
      have hj0 : (0 : Int) ≤ (j : Int) := by omega
      have hj1 : (j : Int) < (n : Int) := by omega
      clear hm hset hT hbx hri hr5 ho5 hr5d ho5d hbb hne q0 hfx hF hx hy
      go_upto_region 9 with fail
      go_region_law (first | (refine step_copy_run rfl (.tmp 37) (.tmp 42) 43 43 rfl (.slice (some ⟨bi, 0, none⟩) n ci) (.slice (some ⟨fb, fo, none⟩) n fc) (by first | (simp [Act.eval]; done) | (simp [Act.eval, Act.put]; done)) (by first | (simp [Act.eval]; done) | (simp [Act.eval, Act.put]; done)) hrund ?_) | (refine step_copy_run rfl (.tmp 37) (.tmp 42) 43 43 rfl (.slice (some ⟨bi, 0, none⟩) n ci) (.slice (some ⟨fb, fo, none⟩) n fc) (by first | (simp [Act.eval]; done) | (simp [Act.eval, Act.put]; done)) (by first | (simp [Act.eval]; done) | (simp [Act.eval, Act.put]; done)) hrun ?_))
      all_goals
        clear hrun hrund e0 e1 q1 q2 k0 c1
        go_wp2
        go_roundw
        case rel => first | exact ⟨j + 1, by omega, by go_num, hb5, hT5⟩ | exact ⟨j + 1, by omega, by go_num, hb5d, hT5d⟩
        case measure => simp [intOf]; omega
    · obtain rfl : j = n := by omega
      rw [List.take_of_length_le (by rw [hB.out.sq.1]; exact Nat.le_refl _), List.drop_of_length_le (by rw [(sq_unk j).1]; exact Nat.le_refl _), List.append_nil] at hT
      obtain ⟨v, hv⟩ : ∃ v, Value.slice Av nv cv = v := ⟨_, rfl⟩
      rw [hv] at hT hbx
      clear hlt hj hAW hv
      go_wp2_with fail
      go_loopw [8] (fun i wr => CellLoop w1 g (.slice D' j d') v bs j hs (fun q => cloTo j q xs) i wr) (fun i _ => j - (intOf i).toNat)
      case atStart => exact ⟨0, Nat.zero_le _, rfl, hbx, hT⟩
      case round =>
        clear hbx hT
        obtain ⟨o, ho, rfl, hbx, hT⟩ := hrel
        dsimp only at hT
        by_cases hol : o < j
        · have hbn : Bnd j (big o) (cloTo j o xs) := hB.out.to o ho
          have hbg := big_le (j := o) (by omega)
          obtain ⟨M, hM⟩ : ∃ M, big o = M := ⟨_, rfl⟩
          rw [hM] at hbn hbg
          have hmid := hbn.mid hol hbg.1
          have hnx : Hid (cloTo j (o + 1) xs = cloOver o j j (cloTo j o xs)) := hide (cloTo_next _ _ _)
          obtain ⟨m0, hm0⟩ : ∃ m0, cloTo j o xs = m0 := ⟨_, rfl⟩
          rw [hm0] at hT hmid hnx
          replace hmid := hide hmid
          clear hM hm0 hbn
          go_wp2_with fail
          go_loopw [9] (fun i wr => CellLoop w1 g (.slice D' j d') v bs j hs (fun q => cloOver o j q m0) i wr) (fun i _ => j - (intOf i).toNat)
          case atStart => exact ⟨0, Nat.zero_le _, rfl, hbx, hT⟩
          case round =>
            clear hbx hT
            obtain ⟨i, hi, rfl, hbx, hT⟩ := hrel
            dsimp only at hT
            by_cases hil : i < j
            · have hmid2 := hide (Mid.overTo hol i hi hmid.out)
              have hnx2 : Hid (cloOver o j (i + 1) m0 = cloRow o i j (cloOver o j i m0)) := hide (cloOver_next _ _ _ _)
              obtain ⟨m1, hm1⟩ : ∃ m1, cloOver o j i m0 = m1 := ⟨_, rfl⟩
              rw [hm1] at hT hmid2 hnx2
              clear hm1
              go_wp2_with fail
              go_loopw [10] (fun i' wr => CellLoop w1 g (.slice D' j d') v bs j hs (fun q => cloRow o i q m1) i' wr) (fun i' _ => j - (intOf i').toNat)
              case atStart => exact ⟨0, Nat.zero_le _, rfl, hbx, hT⟩
              case round =>
                clear hbx hT
                obtain ⟨k, hk, rfl, hbx, hT⟩ := hrel
                dsimp only at hT
                by_cases hkl : k < j
                · have hmid3 := Mid.rowTo hol hil k hk hmid2.out
                  have hnx3 : Hid (cloRow o i (k + 1) m1 = clo1 o (cloRow o i k m1) i k) := hide (cloRow_next _ _ _ _)
                  obtain ⟨m, hm⟩ : ∃ m, cloRow o i k m1 = m := ⟨_, rfl⟩
                  rw [hm] at hT hmid3 hnx3
                  clear hm
                  obtain ⟨sb, cc, rfl⟩ := hT.slots hmid3.sq.1 (by omega)
                  obtain ⟨bi, ci, -, hsb, hbi, c1, c2, -⟩ := hT.look hmid3.sq hil hol
                  obtain ⟨bj, cj, -, -, hbj, c3, c4, -⟩ := hT.look hmid3.sq hol hkl
                  obtain ⟨e0, e1, -, -⟩ := tbox_cells hbx
                  have hgl := blk_lt hbx
                  have hx0 := hmid3.lo i o hil hol
                  have hx1 := hmid3.col i hil
                  have hy0 := hmid3.lo o k hol hkl
                  have hy1 := hmid3.row k hkl
                  have hz0 := hmid3.lo i k hil hkl
                  have hz1 := hmid3.hi i k hil hkl
                  have hsq := hmid3.sq
                  have hclo : clo1 o m i k = if atM m i o = -1 ∨ atM m o k = -1 then m else if atM m i k = -1 ∨ atM m i o + atM m o k < atM m i k then setM m i k (atM m i o + atM m o k) else m := rfl
                  rw [hclo] at hnx3
                  obtain ⟨x, hx⟩ : ∃ x, atM m i o = x := ⟨_, rfl⟩
                  obtain ⟨y, hy⟩ : ∃ y, atM m o k = y := ⟨_, rfl⟩
                  rw [hx] at hx0 hx1 c2 hnx3
                  rw [hy] at hy0 hy1 c4 hnx3
                  have hw : IntKind.i64.wrap (x + y) = x + y := by rw [IntKind.wrap_i64]; omega
                  have ho0 : (0 : Int) ≤ (o : Int) := by omega
                  have ho1 : (o : Int) < (j : Int) := by omega
                  have hi0 : (0 : Int) ≤ (i : Int) := by omega
                  have hi1 : (i : Int) < (j : Int) := by omega
                  have hk0 : (0 : Int) ≤ (k : Int) := by omega
                  have hk1 : (k : Int) < (j : Int) := by omega
                  clear hx hy hclo hmid3
                  go_upto_region 19 with fail
                  go_cut [11, 12] (fun s12 s13 V => s12 = .int .i64 x ∧ s13 = .int .i64 y ∧ TBox V g (.slice D' j d') (.slice (some ⟨sb, 0, none⟩) j cc) ∧ TC w1 (.slice D' j d') (.slice (some ⟨sb, 0, none⟩) j cc) bs j hs m V)
                  case first =>
                    have hTd := hT.drew
                    have hbd := tbox_drew hbx
                    go_region
                    all_goals
                      go_wp2_with fail
                      go_meet
                      exact ⟨rfl, rfl, by first | exact hbx | exact hbd, by first | exact hT | exact hTd⟩
                  case rest =>
                    clear hbx hT hsb hbi hbj c1 c2 c3 c4 e0 e1 hgl
                    obtain ⟨rfl, rfl, hbx, hT⟩ := hcut
                    have hbd := hbx
                    obtain ⟨bi, ci, hhi, hsb, hbi, c5, c6, f6⟩ := hT.look hsq hil hkl
                    obtain ⟨row, hrow, -⟩ := sq_row hsq hil
                    obtain ⟨e0, e1, -, -⟩ := tbox_cells hbx
                    have hgl := blk_lt hbx
                    have hTs := hide (hT.row apart_way hhi hrow (x + y) (k := k))
                    have hbs := hide (tbox_row (k := k) hbx hT.mat hhi hrow (.int .i64 (x + y)))
                    obtain ⟨z, hz⟩ : ∃ z, atM m i k = z := ⟨_, rfl⟩
                    rw [hz] at hz0 hz1 c6 hnx3
                    clear hz hrow hhi hsq
                    by_cases h1 : x = -1
                    · have hc : Hid (cloRow o i (k + 1) m1 = m) := hide (hnx3.out.trans (if_pos (Or.inl h1)))
                      clear hTs hbs hnx3 c5 c6 f6
                      subst h1
                      go_wp2_with fail
                      go_roundw
                      case rel => exact ⟨k + 1, by omega, by go_num, hbd, hT.sameBox hc.out.symm⟩
                      case measure => simp [intOf]; omega
                    · have hx9 : (0 : Int) ≤ x := by omega
                      by_cases h2 : y = -1
                      · have hc : Hid (cloRow o i (k + 1) m1 = m) := hide (hnx3.out.trans (if_pos (Or.inr h2)))
                        clear hTs hbs hnx3 c5 c6 f6
                        subst h2
                        go_wp2_with fail
                        go_roundw
                        case rel => exact ⟨k + 1, by omega, by go_num, hbd, hT.sameBox hc.out.symm⟩
                        case measure => simp [intOf]; omega
                      · have hy9 : (0 : Int) ≤ y := by omega
                        have hnx4 : Hid (cloRow o i (k + 1) m1 = if z = -1 ∨ x + y < z then setM m i k (x + y) else m) := hide (hnx3.out.trans (if_neg (fun h => h.elim h1 h2)))
                        clear hnx3
                        by_cases h3 : z = -1
                        · have hc : Hid (cloRow o i (k + 1) m1 = setM m i k (x + y)) := hide (hnx4.out.trans (if_pos (Or.inl h3)))
                          subst h3
                          clear hnx4 hT
                          go_wp2_with fail
                          go_roundw
                          case rel => exact ⟨k + 1, by omega, by go_num, hbs.out, hTs.out.sameBox hc.out.symm⟩
                          case measure => simp [intOf]; omega
                        · have hz9 : ¬ z < 0 := by omega
                          by_cases h4 : x + y < z
                          · have hc : Hid (cloRow o i (k + 1) m1 = setM m i k (x + y)) := hide (hnx4.out.trans (if_pos (Or.inr h4)))
                            clear hnx4 hT
                            go_wp2_with fail
                            go_roundw
                            case rel => exact ⟨k + 1, by omega, by go_num, hbs.out, hTs.out.sameBox hc.out.symm⟩
                            case measure => simp [intOf]; omega
                          · have hc : Hid (cloRow o i (k + 1) m1 = m) := hide (hnx4.out.trans (if_neg (fun h => h.elim h3 h4)))
                            clear hTs hbs hnx4
                            go_wp2_with fail
                            go_roundw
                            case rel => exact ⟨k + 1, by omega, by go_num, hbd, hT.sameBox hc.out.symm⟩
                            case measure => simp [intOf]; omega
                · obtain rfl : k = j := by omega
                  go_wp2_with fail
                  go_roundw
                  case rel => exact ⟨i + 1, by omega, by go_num, hbx, hT.sameBox hnx2.out.symm⟩
                  case measure => simp [intOf]; omega
            · obtain rfl : i = j := by omega
              go_wp2_with fail
              go_roundw
              case rel => exact ⟨o + 1, by omega, by go_num, hbx, hT.sameBox hnx.out.symm⟩
              case measure => simp [intOf]; omega
        · obtain rfl : o = j := by omega
          have hsqM : Sq o (cloTo o o xs) := (hB.out.to o (Nat.le_refl _)).sq
          have hcf : closeF o xs = capTo o o (cloTo o o xs) := rfl
          rw [hcf] at hfin
          obtain ⟨M0, hM0⟩ : ∃ M0, cloTo o o xs = M0 := ⟨_, rfl⟩
          rw [hM0] at hT hsqM hfin
          obtain ⟨Av, cv, hv⟩ := hT.mat.form
          rw [hsqM.1] at hv
          subst hv
          obtain ⟨e0, e1, -, -⟩ := tbox_cells hbx
          have hgl := blk_lt hbx
          clear hM0 hcf hB
          go_wp2_with fail
          clear e0 e1 hgl
          go_loopw [13] (fun i wr => CellLoop w1 g (.slice D' o d') (.slice Av o cv) bs o hs (fun q => capTo o q M0) i wr) (fun i _ => o - (intOf i).toNat)
          case atStart => exact ⟨0, Nat.zero_le _, rfl, hbx, hT⟩
          case round =>
            clear hbx hT
            obtain ⟨i, hi, rfl, hbx, hT⟩ := hrel
            dsimp only at hT
            by_cases hil : i < o
            · have hsq1 := sq_cap i hsqM
              have hnx : Hid (capTo o (i + 1) M0 = capRowTo i o (capTo o i M0)) := hide (capTo_next _ _ _)
              obtain ⟨m1, hm1⟩ : ∃ m1, capTo o i M0 = m1 := ⟨_, rfl⟩
              rw [hm1] at hT hsq1 hnx
              obtain ⟨sb, cc, hv⟩ := hT.slots hsq1.1 (by omega)
              injection hv with hv1 _ hv3
              subst hv1 hv3
              obtain ⟨bi, ci, hhi, hsb, hbi, c1, -, -⟩ := hT.look hsq1 hil hil
              have hi0 : (0 : Int) ≤ (i : Int) := by omega
              have hi1 : (i : Int) < (o : Int) := by omega
              clear hm1
              go_wp2_with fail
              clear c1 hsb hbi
              go_loopw [14] (fun i' wr => CellLoop w1 g (.slice D' o d') (.slice (some ⟨sb, 0, none⟩) o cv) bs o hs (fun q => capRowTo i q m1) i' wr) (fun i' _ => o - (intOf i').toNat)
              case atStart => exact ⟨0, Nat.zero_le _, rfl, hbx, hT⟩
              case round =>
                clear hbx hT
                obtain ⟨k, hk, rfl, hbx, hT⟩ := hrel
                dsimp only at hT
                by_cases hkl : k < o
                · have hsq2 := sq_capRow (i := i) k hsq1
                  have hnx2 : Hid (capRowTo i (k + 1) m1 = capE (capRowTo i k m1) i k) := hide (capRowTo_next _ _ _)
                  obtain ⟨m, hm⟩ : ∃ m, capRowTo i k m1 = m := ⟨_, rfl⟩
                  rw [hm] at hT hsq2 hnx2
                  obtain ⟨bi', ci', hhi', hsb, hbi, c5, c6, f6⟩ := hT.look hsq2 hil hkl
                  obtain ⟨e0, e1, -, -⟩ := tbox_cells hbx
                  have hgl := blk_lt hbx
                  obtain rfl : bi = bi' := Option.some.inj (hhi.symm.trans hhi')
                  obtain ⟨row, hrow, -⟩ := sq_row hsq2 hil
                  have hcap : capE m i k = setM m i k (min (atM m i k) 24) := rfl
                  rw [hcap] at hnx2
                  obtain ⟨z, hz⟩ : ∃ z, atM m i k = z := ⟨_, rfl⟩
                  rw [hz] at c6 hnx2
                  obtain ⟨u, hu⟩ : ∃ u, min z 24 = u := ⟨_, rfl⟩
                  rw [hu] at hnx2
                  have hTs := hide (hT.row apart_way hhi hrow u (k := k))
                  have hbs := hide (tbox_row (k := k) hbx hT.mat hhi hrow (.int .i64 u))
                  have hTsd := hide (hT.drew.row apart_way hhi hrow u (k := k))
                  have hbsd := hide (tbox_row (k := k) (tbox_drew hbx) hT.drew.mat hhi hrow (.int .i64 u))
                  have hk0 : (0 : Int) ≤ (k : Int) := by omega
                  have hk1 : (k : Int) < (o : Int) := by omega
                  clear hm hz hrow hcap hsq2 hT hbx hhi'
                  subst hu
                  go_upto_region 28 with fail
                  go_region
                  all_goals
                    clear e0 e1 c5 c6 f6
                    go_wp2
                    go_roundw
                    case rel => first | exact ⟨k + 1, by omega, by go_num, hbs.out, hTs.out.sameBox hnx2.out.symm⟩ | exact ⟨k + 1, by omega, by go_num, hbsd.out, hTsd.out.sameBox hnx2.out.symm⟩
                    case measure => simp [intOf]; omega
                · obtain rfl : k = o := by omega
                  go_wp2_with fail
                  go_roundw
                  case rel => exact ⟨i + 1, by omega, by go_num, hbx, hT.sameBox hnx.out.symm⟩
                  case measure => simp [intOf]; omega
            · obtain rfl : i = o := by omega
              obtain ⟨e0, e1, -, -⟩ := tbox_cells hbx
              have hgl := blk_lt hbx
              have hrr := tbox_later r0 hT.below
              obtain ⟨o0, o1, f0, f1⟩ := tbox_cells hrr
              have hrl2 := blk_lt hrr
              have ho2 : Only rg wr ((wr.setCell ⟨rg, 0, none⟩ (.slice D' i d')).setCell ⟨rg, 1, none⟩ (.slice Av i cv)) := only_setCell (only_setCell (Only.refl rg wr) (Or.inl rfl) _) (Or.inl rfl) _
              obtain ⟨d1, -, d3⟩ := hT.parts ho2 hrr
              have hbf : Below w.heap.size w ((wr.setCell ⟨rg, 0, none⟩ (.slice D' i d')).setCell ⟨rg, 1, none⟩ (.slice Av i cv)) := ext_set (ext_set (ext_trans hb0 hT.below) (p := ⟨rg, 0, none⟩) hpr _) (p := ⟨rg, 1, none⟩) hpr _
              obtain ⟨k0, k1⟩ := two_setT o0 o1 (x := .slice D' i d') (y := .slice Av i cv)
              have hz0 := hb0.size
              clear hT hbx hrr
              go_wp2
              refine end_trav2 rfl rg _ _ _ rfl rfl rfl k0 k1 ?_
              rw [hfin.out]
              exact ⟨D', d', _, hs, rfl, d1.lower hz0, d3.lower hz0, hbf⟩
end Go.Proofs.YtjcfkbichmlgmaaDoor

namespace Go.Proofs.YtjcfkbichmlgmaaDoor
open Go.RowKit
set_option maxRecDepth 100000

def clB (bs : List ByteArray) (xs : List (List Int)) : List ByteArray := if validT bs xs = 0 then bs else []
def clX (bs : List ByteArray) (xs : List (List Int)) : List (List Int) := if validT bs xs = 0 then closeF bs.length xs else []
def CloseAny (bs : List ByteArray) (xs : List (List Int)) (w : World) (e : Ending) (w' : World) : Prop :=
  ∃ D' d' A' c', e = .returned (.tuple #[.agg #[.slice D' (clB bs xs).length d', .slice A' (clX bs xs).length c'], .int .i64 (validT bs xs)]) ∧ At kStr AnyB w' D' (clB bs xs) ∧ At (kSlice kInt) AnyB w' A' (clX bs xs) ∧ Below w.heap.size w w'
theorem closeAny_of {bs : List ByteArray} {xs : List (List Int)} {w w' : World} {e : Ending} (hV : validT bs xs = 0) (h : CloseEnd bs xs w e w') : CloseAny bs xs w e w' := by
  obtain ⟨D', d', v, hs, rfl, hN, hM, hb⟩ := h
  obtain ⟨A', c', rfl, -, hA⟩ := hM.any
  unfold CloseAny clB clX
  rw [if_pos hV, if_pos hV, hV]
  exact ⟨D', d', A', c', rfl, hN.any'.any, hA, hb⟩
set_option maxHeartbeats 4000000 in
theorem tclose_any (D A : Option Addr) (bs : List ByteArray) (xs : List (List Int)) (d c : Nat) (w : World) (hbl : bs.length ≤ 9223372036854775807) (hxl : xs.length ≤ 9223372036854775807) (hd : bs.length ≤ d) (hD : At kStr AnyB w D bs) (hA : At (kSlice kInt) AnyB w A xs) :
    Calls Tryd.prog 7 #[.agg #[.slice D bs.length d, .slice A xs.length c]] w fun e w' => CloseAny bs xs w e w' := by
  by_cases hV : validT bs xs = 0
  · exact (tclose_walk D A bs xs d c w hd hV hD hA).mono fun _ _ h => closeAny_of hV h
  · have hfin : Hid (∀ e w', CloseAny bs xs w e w' = (∃ D' d' A' c', e = .returned (.tuple #[.agg #[.slice D' 0 d', .slice A' 0 c'], .int .i64 (validT bs xs)]) ∧ At kStr AnyB w' D' [] ∧ At (kSlice kInt) AnyB w' A' [] ∧ Below w.heap.size w w')) := by
      refine hide fun e w' => ?_
      unfold CloseAny clB clX
      rw [if_neg hV, if_neg hV]
      rfl
    have hb0 : Below w.heap.size w ((w.alloc (.cells #[.slice D bs.length d, .slice A xs.length c] 25)).alloc (.cells #[.slice none 0 0, .slice none 0 0] 25)) := (by repeat (first | exact Below.refl _ _ | refine ext_alloc ?_ _ | refine ext_drewN ?_ _ | refine ext_drew ?_ | refine ext_trans ?_ (by assumption)))
    have r0 : TBox ((w.alloc (.cells #[.slice D bs.length d, .slice A xs.length c] 25)).alloc (.cells #[.slice none 0 0, .slice none 0 0] 25)) (w.heap.size + 1) (.slice none 0 0) (.slice none 0 0) := heap_new2 _ _ _
    obtain ⟨W, hW⟩ : ∃ W, (w.alloc (.cells #[.slice D bs.length d, .slice A xs.length c] 25)).alloc (.cells #[.slice none 0 0, .slice none 0 0] 25) = W := ⟨_, rfl⟩
    rw [hW] at hb0 r0
    have hval := tvalid_walk D A bs xs d c W hbl hxl hd (hD.later hb0) (hA.later hb0)
    have hv2 : (validT bs xs != 0) = true := by simpa using hV
    obtain ⟨V, hVV⟩ : ∃ V, validT bs xs = V := ⟨_, rfl⟩
    rw [hVV] at hval hv2 hfin
    replace hW := hide hW
    clear hV hVV hD hA hbl hxl hd
    go_enter Tryd.func7, Tryd.ntmps7
    go_wp2_with fail
    rw [hW.out]
    refine hval.mono ?_
    clear hval hW
    rintro e w1 ⟨rfl, hb1⟩
    replace r0 := tbox_later r0 hb1
    obtain ⟨o0, o1, f0, f1⟩ := tbox_cells r0
    have hrl := blk_lt r0
    obtain ⟨k0, k1⟩ := two_setT o0 o1 (x := .slice none 0 0) (y := .slice none 0 0)
    have hbf : Below w.heap.size w ((w1.setCell ⟨w.heap.size + 1, 0, none⟩ (.slice none 0 0)).setCell ⟨w.heap.size + 1, 1, none⟩ (.slice none 0 0)) := ext_set (ext_set (ext_trans hb0 hb1) (p := ⟨w.heap.size + 1, 0, none⟩) (Nat.le_succ _) _) (p := ⟨w.heap.size + 1, 1, none⟩) (Nat.le_succ _) _
    go_wp2
    refine end_trav2 rfl (w.heap.size + 1) _ _ _ rfl rfl rfl k0 k1 ?_
    rw [hfin.out]
    exact ⟨none, 0, none, 0, rfl, fun h => absurd h (by decide), fun h => absurd h (by decide), hbf⟩
set_option maxHeartbeats 4000000 in
theorem r8close_any (D A : Option Addr) (bs : List ByteArray) (xs : List (List Int)) (d c : Nat) (w : World) (hbl : bs.length ≤ 9223372036854775807) (hxl : xs.length ≤ 9223372036854775807) (hd : bs.length ≤ d) (hrl : ∀ x ∈ xs, x.length ≤ 9223372036854775807) (hD : At kStr AnyB w D bs) (hA : At (kSlice kInt) AnyB w A xs) :
    Calls Tryd.prog 8 #[.agg #[.slice D bs.length d, .slice A xs.length c]] w fun e w' => CloseAny bs xs w e w' := by
  by_cases hV : validT bs xs = 0
  · exact (r8close_walk D A bs xs d c w hd hV hD hA).mono fun _ _ h => closeAny_of hV h
  · have hfin : Hid (∀ e w', CloseAny bs xs w e w' = (∃ D' d' A' c', e = .returned (.tuple #[.agg #[.slice D' 0 d', .slice A' 0 c'], .int .i64 (validT bs xs)]) ∧ At kStr AnyB w' D' [] ∧ At (kSlice kInt) AnyB w' A' [] ∧ Below w.heap.size w w')) := by
      refine hide fun e w' => ?_
      unfold CloseAny clB clX
      rw [if_neg hV, if_neg hV]
      rfl
    have hb0 : Below w.heap.size w ((w.alloc (.cells #[.slice D bs.length d, .slice A xs.length c] 25)).alloc (.cells #[.slice none 0 0, .slice none 0 0] 25)) := (by repeat (first | exact Below.refl _ _ | refine ext_alloc ?_ _ | refine ext_drewN ?_ _ | refine ext_drew ?_ | refine ext_trans ?_ (by assumption)))
    have r0 : TBox ((w.alloc (.cells #[.slice D bs.length d, .slice A xs.length c] 25)).alloc (.cells #[.slice none 0 0, .slice none 0 0] 25)) (w.heap.size + 1) (.slice none 0 0) (.slice none 0 0) := heap_new2 _ _ _
    obtain ⟨W, hW⟩ : ∃ W, (w.alloc (.cells #[.slice D bs.length d, .slice A xs.length c] 25)).alloc (.cells #[.slice none 0 0, .slice none 0 0] 25) = W := ⟨_, rfl⟩
    rw [hW] at hb0 r0
    have hval := r8valid_walk D A bs xs d c W hbl hxl hrl (hD.later hb0) (hA.later hb0)
    have hv2 : (validT bs xs != 0) = true := by simpa using hV
    obtain ⟨V, hVV⟩ : ∃ V, validT bs xs = V := ⟨_, rfl⟩
    rw [hVV] at hval hv2 hfin
    replace hW := hide hW
    clear hV hVV hD hA hbl hxl hd
    go_enter Tryd.func8, Tryd.ntmps8
    go_wp2_with fail
    rw [hW.out]
    refine hval.mono ?_
    clear hval hW
    rintro e w1 ⟨rfl, hb1⟩
    replace r0 := tbox_later r0 hb1
    obtain ⟨o0, o1, f0, f1⟩ := tbox_cells r0
    have hrl := blk_lt r0
    obtain ⟨k0, k1⟩ := two_setT o0 o1 (x := .slice none 0 0) (y := .slice none 0 0)
    have hbf : Below w.heap.size w ((w1.setCell ⟨w.heap.size + 1, 0, none⟩ (.slice none 0 0)).setCell ⟨w.heap.size + 1, 1, none⟩ (.slice none 0 0)) := ext_set (ext_set (ext_trans hb0 hb1) (p := ⟨w.heap.size + 1, 0, none⟩) (Nat.le_succ _) _) (p := ⟨w.heap.size + 1, 1, none⟩) (Nat.le_succ _) _
    go_wp2
    refine end_trav2 rfl (w.heap.size + 1) _ _ _ rfl rfl rfl k0 k1 ?_
    rw [hfin.out]
    exact ⟨none, 0, none, 0, rfl, fun h => absurd h (by decide), fun h => absurd h (by decide), hbf⟩
end Go.Proofs.YtjcfkbichmlgmaaDoor
