/- Walks of the program's check of a selection: checker.valid, its closure, slices.IndexFunc and ContainsFunc at selections, Selection. Condition: the selection's size is a number of the machine. Walks of the reference's Depth, parts, sound, Sound, none: what is said of a selection. Condition: the selection's cells. -/
import Derived.Test.YtdnnahdafhddlaaGreatDoorYOneLen
namespace Go.Proofs.YtdnnahdafhddlaaGreatDoor
open Go.RowKit
set_option maxRecDepth 100000

theorem selnamed_walk (k : Int) (w : World) : Calls Tryz.prog 107 #[.int .i64 k] w fun e w' => e = .returned (.bool (namedK k)) ∧ w = w' := by
  by_cases h : 2 ≤ k ∧ k ≤ 7
  · rw [show namedK k = true from by unfold namedK; simp; omega]
    go_enter Tryz.func107, Tryz.ntmps107
    go_wp2
    all_goals
      go_ret
      exact ⟨ret_bool (by simp; try omega), rfl⟩
  · rw [show namedK k = false from by unfold namedK; simp; omega]
    go_enter Tryz.func107, Tryz.ntmps107
    go_wp2
    all_goals
      go_ret
      exact ⟨ret_bool (by simp; try omega), rfl⟩
/-- Block cb counts the parts. -/
def CkAt (w : World) (cb p : Nat) : Prop := w.heap[cb]? = some (.cells #[.int .i64 p] 105 (0, 0))
theorem ck_cell {w : World} {cb p : Nat} (h : CkAt w cb p) : w.cell? ⟨cb, 0, none⟩ = some (.int .i64 p) ∧ w.frozen? ⟨cb, 0, none⟩ = false ∧ cb < w.heap.size :=
  ⟨by rw [cell_of_row w cb _ _ _ _ h]; rfl, by simp [World.frozen?, show w.heap[cb]? = _ from h], blk_lt h⟩
theorem ck_set {w : World} {cb p : Nat} (h : CkAt w cb p) (q : Nat) : CkAt (w.setCell ⟨cb, 0, none⟩ (.int .i64 q)) cb q ∧ Only cb w (w.setCell ⟨cb, 0, none⟩ (.int .i64 q)) := by
  have hg : w.heap[cb]? = _ := h
  refine ⟨?_, only_setCell (World.grownBy.refl _ _) (Or.inl rfl) _⟩
  show (w.setCell ⟨cb, 0, none⟩ (.int .i64 q)).heap[cb]? = _
  simp only [World.setCell, Array.getElem?_modify, hg]
  rfl
theorem CkAt.later {w w' : World} {cb p : Nat} (h : CkAt w cb p) (hb : Below w.heap.size w w') : CkAt w' cb p := (hb.block cb (blk_lt h)).trans h
theorem selrep_only {cb : Nat} {w w' : World} {s : Sel} {vs : List Value} (h : kSel.rep (fun b => b < cb) w s vs) (ho : Only cb w w') : kSel.rep (fun b => b < cb) w' s vs :=
  kSel.kept h fun b hb hlt => ⟨hb, Nat.lt_of_lt_of_le hlt ho.size, ho.block b hlt (by intro e; injection e with e; omega)⟩
/-- What the check of a selection does. -/
def ValidSpec (s : Sel) : Prop := ∀ (cb : Nat) (k : Int) (n : ByteArray) (A : Option Addr) (m c : Nat) (d : Int) (p : Nat) (w : World), CkAt w cb p → p ≤ 64 → 0 ≤ d → d ≤ 100 → kSel.rep (fun b => b < cb) w s [.int .i64 k, .string n, .slice A m c] →
  Calls Tryz.prog 59 #[.pointer (some ⟨cb, 0, none⟩), .agg #[.int .i64 k, .string n, .slice A m c], .int .i64 d] w fun e w' => e = .returned (.bool (validN codeB s d p).1) ∧ CkAt w' cb (validN codeB s d p).2 ∧ Only cb w w'
set_option maxHeartbeats 1000000 in
theorem valid1_walk (s : Sel) (hs : ValidSpec s) (cb b1 b2 : Nat) (k : Int) (n : ByteArray) (A : Option Addr) (m c : Nat) (d : Int) (p : Nat) (w : World) (hc : CkAt w cb p) (hp : p ≤ 64) (hd : 1 ≤ d) (hd2 : d ≤ 100) (hr : kSel.rep (fun b => b < cb) w s [.int .i64 k, .string n, .slice A m c])
    (h1 : w.cell? ⟨b1, 0, none⟩ = some (.pointer (some ⟨cb, 0, none⟩))) (h2 : w.cell? ⟨b2, 0, none⟩ = some (.int .i64 d)) :
    Calls Tryz.prog 109 #[.agg #[.int .i64 k, .string n, .slice A m c], .pointer (some ⟨b1, 0, none⟩), .pointer (some ⟨b2, 0, none⟩)] w fun e w' => e = .returned (.bool (!(validN codeB s (d - 1) p).1)) ∧ CkAt w' cb (validN codeB s (d - 1) p).2 ∧ Only cb w w' := by
  obtain ⟨W, hW⟩ : ∃ W, w.alloc (.cells #[.int .i64 k, .string n, .slice A m c] 40) = W := ⟨_, rfl⟩
  obtain ⟨r, hrr⟩ : ∃ r, w.heap.size = r := ⟨_, rfl⟩
  have hb : Below w.heap.size w W := by rw [← hW]; exact ext_alloc (Below.refl _ _) _
  have hrow : W.heap[r]? = some (.cells #[.int .i64 k, .string n, .slice A m c] 40 (0, 0)) := by rw [← hW, ← hrr]; exact heap_alloc_new _ _
  have hcall := hs cb k n A m c (d - 1) p W (hc.later hb) hp (by omega) (by omega) (kSel.kept hr fun b h1 h2 => ⟨h1, Nat.lt_of_lt_of_le h2 hb.size, hb.block b h2⟩)
  obtain ⟨y0, y1, y2, -⟩ := sel_cells hrow
  have h1' := cell_later hb h1
  have h2' := cell_later hb h2
  have hl1 := World.block_lt_of_cell? _ _ h1
  have hl2 := World.block_lt_of_cell? _ _ h2
  have hrl := blk_lt hrow
  have e1 : IntKind.i64.wrap (d - 1) = d - 1 := IntWalk.i64_in _ (by omega)
  have ho1 : Only cb w W := only_of_below hb _
  clear hrow hr hc hs
  go_enter Tryz.func109, Tryz.ntmps109
  go_wp2_with fail
  refine hcall.mono ?_
  rintro e w1 ⟨rfl, hc1, ho2⟩
  obtain ⟨Q, hQ⟩ : ∃ Q, (validN codeB s (d - 1) p).1 = Q := ⟨_, rfl⟩
  rw [hQ]
  replace hQ := hide hQ
  go_wp2
  go_ret
  exact ⟨by rw [hQ.out]; rfl, hc1, ho1.trans ho2⟩
theorem at_ck {cb : Nat} {w w' : World} {A : Option Addr} {l : List Sel} (h : At kSel (fun b => b < cb) w A l) (ho : Only cb w w') : At kSel (fun b => b < cb) w' A l :=
  h.kept fun b hb hlt => ⟨hb, Nat.lt_of_lt_of_le hlt ho.size, ho.block b hlt (by intro e; injection e with e; omega)⟩
theorem cell_ck {cb b : Nat} {w w' : World} {v : Value} (h : w.cell? ⟨b, 0, none⟩ = some v) (ho : Only cb w w') (hne : b ≠ cb) : w'.cell? ⟨b, 0, none⟩ = some v := cell_only h ho hne
set_option maxHeartbeats 2000000 in
theorem idxsel_walk (ks : List Sel) (hsp : ∀ s, s ∈ ks → ValidSpec s) (cb b1 b2 : Nat) (A : Option Addr) (c : Nat) (d : Int) (p : Nat) (w : World) (hc : CkAt w cb p) (hp : p ≤ 64) (hd : 1 ≤ d) (hd2 : d ≤ 100) (hA : At kSel (fun b => b < cb) w A ks)
    (h1 : w.cell? ⟨b1, 0, none⟩ = some (.pointer (some ⟨cb, 0, none⟩))) (h2 : w.cell? ⟨b2, 0, none⟩ = some (.int .i64 d)) (hb1 : b1 ≠ cb) (hb2 : b2 ≠ cb) (hlen : ks.length ≤ 9223372036854775807) :
    Calls Tryz.prog 160 #[.slice A ks.length c, .func (.func 109) #[] #[.pointer (some ⟨b1, 0, none⟩), .pointer (some ⟨b2, 0, none⟩)]] w fun e w' =>
      ∃ r : Int, e = .returned (.int .i64 r) ∧ decide (0 ≤ r) = !(kidsN codeB ks (d - 1) p).1 ∧ CkAt w' cb (kidsN codeB ks (d - 1) p).2 ∧ Only cb w w' := by
  have eg : ∀ args w, (callFunc 109 args).run Tryz.prog w = .ok (.enter 109 args) w := enters_of Tryz.func109 (by kernel_rfl) rfl
  obtain ⟨N, hN⟩ : ∃ N, ks.length = N := ⟨_, rfl⟩
  obtain ⟨R, hR⟩ : ∃ R, kidsN codeB ks (d - 1) p = R := ⟨_, rfl⟩
  rw [hN] at hlen ⊢
  rw [hR]
  replace hN := hide hN
  have hR0 := hide hR
  replace hsp := hide hsp
  clear hR
  go_enter Tryz.func160, Tryz.ntmps160
  go_wp2
  go_loopw [5, 8] (fun _ i wr => ∃ j q : Nat, j ≤ N ∧ i = .int .i64 j ∧ CkAt wr cb q ∧ q ≤ 64 ∧ Only cb w wr ∧ Hid (kidsN codeB (ks.drop j) (d - 1) q = R)) (fun _ i _ => N - (intOf i).toNat)
  case atStart => exact ⟨0, p, Nat.zero_le _, rfl, hc, hp, Only.refl _ _, hR0⟩
  case round =>
    clear hR0 hc hp
    obtain ⟨j, q, hj, rfl, hc, hp, ho, hR⟩ := hrel
    by_cases hlt : j < N
    · obtain ⟨s, hs⟩ : ∃ s, ks[j]? = some s := ⟨_, List.getElem?_eq_getElem (by rw [hN.out]; exact hlt)⟩
      have hdr : ks.drop j = s :: ks.drop (j + 1) := by
        rw [List.drop_eq_getElem_cons (by rw [hN.out]; exact hlt)]
        congr 1
        rw [List.getElem?_eq_getElem (by rw [hN.out]; exact hlt)] at hs
        injection hs
      have hR2 : (if (validN codeB s (d - 1) q).1 then kidsN codeB (ks.drop (j + 1)) (d - 1) (validN codeB s (d - 1) q).2 else (false, (validN codeB s (d - 1) q).2)) = R := by rw [← hR.out, hdr, kidsN_cons]
      obtain ⟨b9, off, vs, rfl, hb9, hbl9, hrep, hcs⟩ := (at_ck hA ho).get hs
      obtain ⟨k9, n9, A8, m8, c8, rfl⟩ := SelRep.form hrep
      have q0 := hcs 0 _ rfl
      have q1 := hcs 1 _ rfl
      have q2 := hcs 2 _ rfl
      simp only [Nat.add_zero] at q0
      have hcall := valid1_walk s (hsp.out s (List.mem_of_getElem? hs)) cb b1 b2 k9 n9 A8 m8 c8 d q wr hc hp hd hd2 hrep (cell_ck h1 ho hb1) (cell_ck h2 ho hb2)
      have hle : (validN codeB s (d - 1) q).1 = true → (validN codeB s (d - 1) q).2 ≤ 64 := by
        intro hv
        obtain ⟨e1, e2⟩ := validN_says codeB s (d - 1) q
        rw [e2 hv]
        rw [hv] at e1
        have e1 := e1.symm
        simp only [Bool.and_eq_true, decide_eq_true_iff] at e1
        exact e1.2
      obtain ⟨V, hV⟩ : ∃ V, (validN codeB s (d - 1) q) = V := ⟨_, rfl⟩
      rw [hV] at hcall hR2 hle
      obtain ⟨V1, V2⟩ := V
      have hj0 : (0 : Int) ≤ (j : Int) := by omega
      have hj1 : (j : Int) < (N : Int) := by omega
      have e3 : kSel.k = 3 := rfl
      rw [e3] at q0 q1 q2
      clear hcs hrep hdr hR hs e3
      replace hV := hide hV
      cases V1 with
      | true =>
        have hR3 : Hid (kidsN codeB (ks.drop (j + 1)) (d - 1) V2 = R) := hide hR2
        have hle2 := hide (hle rfl)
        clear hle
        have hcall : Calls Tryz.prog 109 #[.agg #[.int .i64 k9, .string n9, .slice A8 m8 c8], .pointer (some ⟨b1, 0, none⟩), .pointer (some ⟨b2, 0, none⟩)] wr fun e w' => e = .returned (.bool false) ∧ CkAt w' cb V2 ∧ Only cb wr w' := hcall
        clear hR2
        go_wp2_with fail
        refine hcall.mono ?_
        rintro e w1 ⟨rfl, hc1, ho1⟩
        clear hcall q0 q1 q2
        go_wp2
        go_roundw
        case rel => exact ⟨j + 1, V2, by omega, by go_num, hc1, hle2.out, ho.trans ho1, hR3⟩
        case measure => simp [intOf]; omega
      | false =>
        have hR3 : Hid ((false, V2) = R) := hide hR2
        have hcall : Calls Tryz.prog 109 #[.agg #[.int .i64 k9, .string n9, .slice A8 m8 c8], .pointer (some ⟨b1, 0, none⟩), .pointer (some ⟨b2, 0, none⟩)] wr fun e w' => e = .returned (.bool true) ∧ CkAt w' cb V2 ∧ Only cb wr w' := hcall
        clear hR2
        go_wp2_with fail
        refine hcall.mono ?_
        rintro e w1 ⟨rfl, hc1, ho1⟩
        clear hcall q0 q1 q2
        go_wp2
        go_ret
        exact ⟨(j : Int), rfl, by rw [← hR3.out]; simp, by rw [← hR3.out]; exact hc1, ho.trans ho1⟩
    · obtain rfl : j = N := by omega
      have hR3 : Hid ((true, q) = R) := hide (by rw [← hR.out, List.drop_eq_nil_of_le (by rw [hN.out]; omega), kidsN_nil])
      clear hR
      go_wp2
      go_ret
      exact ⟨-1, rfl, by rw [← hR3.out]; rfl, by rw [← hR3.out]; exact hc, ho⟩
set_option maxHeartbeats 1000000 in
theorem consel_walk (ks : List Sel) (hsp : ∀ s, s ∈ ks → ValidSpec s) (cb b1 b2 : Nat) (A : Option Addr) (c : Nat) (d : Int) (p : Nat) (w : World) (hc : CkAt w cb p) (hp : p ≤ 64) (hd : 1 ≤ d) (hd2 : d ≤ 100) (hA : At kSel (fun b => b < cb) w A ks)
    (h1 : w.cell? ⟨b1, 0, none⟩ = some (.pointer (some ⟨cb, 0, none⟩))) (h2 : w.cell? ⟨b2, 0, none⟩ = some (.int .i64 d)) (hb1 : b1 ≠ cb) (hb2 : b2 ≠ cb) (hlen : ks.length ≤ 9223372036854775807) :
    Calls Tryz.prog 108 #[.slice A ks.length c, .func (.func 109) #[] #[.pointer (some ⟨b1, 0, none⟩), .pointer (some ⟨b2, 0, none⟩)]] w fun e w' =>
      e = .returned (.bool (!(kidsN codeB ks (d - 1) p).1)) ∧ CkAt w' cb (kidsN codeB ks (d - 1) p).2 ∧ Only cb w w' := by
  have hcall := idxsel_walk ks hsp cb b1 b2 A c d p w hc hp hd hd2 hA h1 h2 hb1 hb2 hlen
  clear hsp hc hA h1 h2
  go_enter Tryz.func108, Tryz.ntmps108
  go_wp2_with fail
  refine hcall.mono ?_
  rintro e w' ⟨r, rfl, hr, hb⟩
  clear hcall
  replace hr := hide hr
  obtain ⟨Q, hQ⟩ : ∃ Q, decide ((0 : Int) ≤ r) = Q := ⟨_, rfl⟩
  have hge : (r ≥ 0) = (0 ≤ r) := rfl
  go_wp2
  go_ret
  exact ⟨by rw [← hr.out, hQ]; rfl, hb⟩
theorem rowc1 {w : World} {b : Nat} {x : Value} {ty : TypeId} (h : w.heap[b]? = some (.cells #[x] ty (0, 0))) : w.cell? ⟨b, 0, none⟩ = some x ∧ w.frozen? ⟨b, 0, none⟩ = false ∧ b < w.heap.size :=
  ⟨by rw [cell_of_row w b _ _ _ _ h]; rfl, by simp [World.frozen?, h], blk_lt h⟩
theorem str_empty (n : ByteArray) : (n.toList == ([] : List UInt8)) = decide (n.size = 0) := by
  rw [word_is]
  exact decide_eq_decide.2 ⟨fun h => by rw [h]; rfl, fun h => by
    apply ByteArray.ext
    exact Array.eq_empty_of_size_eq_zero h⟩
set_option maxHeartbeats 4000000 in
theorem valid_step (k : Int) (n : ByteArray) (ks : List Sel) (ih : ∀ s, s ∈ ks → ValidSpec s) (hlen : ks.length ≤ 9223372036854775807) : ValidSpec (.mk k n ks) := by
  intro cb k' n' A m c d p w hc hp hd hd2 hr
  obtain ⟨A', c', he, hcap, hA⟩ := rep_sel.1 hr
  simp only [List.cons.injEq, Value.int.injEq, Value.string.injEq, Value.slice.injEq, and_true, true_and] at he
  obtain ⟨rfl, rfl, rfl, rfl, rfl⟩ := he
  obtain ⟨W, hW⟩ : ∃ W, ((w.alloc (.cells #[.pointer (some ⟨cb, 0, none⟩)] 103)).alloc (.cells #[.int .i64 k', .string n', .slice A ks.length c] 40)).alloc (.cells #[.int .i64 d] 3) = W := ⟨_, rfl⟩
  obtain ⟨b1, hb1⟩ : ∃ b1, w.heap.size = b1 := ⟨_, rfl⟩
  have hb : Below w.heap.size w W := by rw [← hW]; exact (by repeat (first | exact Below.refl _ _ | refine ext_alloc ?_ _ | refine ext_drewN ?_ _ | refine ext_drew ?_ | refine ext_trans ?_ (by assumption)))
  obtain ⟨c0, c1, c2⟩ := ck_cell hc
  have hbc : cb < b1 := by rw [← hb1]; exact c2
  have hr1 : W.heap[b1]? = some (.cells #[.pointer (some ⟨cb, 0, none⟩)] 103 (0, 0)) := by
    rw [← hW, ← hb1]
    exact (Below.heap_alloc _ _ _ (by simp only [World.size_alloc]; omega)).trans ((Below.heap_alloc _ _ _ (by simp only [World.size_alloc]; omega)).trans (heap_alloc_new _ _))
  obtain ⟨b2, hb2⟩ : ∃ b2, b1 + 1 = b2 := ⟨_, rfl⟩
  have hr2 : W.heap[b2]? = some (.cells #[.int .i64 k', .string n', .slice A ks.length c] 40 (0, 0)) := by
    rw [← hW, ← hb2, ← hb1]
    refine (Below.heap_alloc _ _ _ (by simp only [World.size_alloc]; omega)).trans ?_
    have := heap_alloc_new (w.alloc (.cells #[.pointer (some ⟨cb, 0, none⟩)] 103)) (.cells #[.int .i64 k', .string n', .slice A ks.length c] 40)
    rw [World.size_alloc] at this
    exact this
  obtain ⟨b3, hb3⟩ : ∃ b3, b2 + 1 = b3 := ⟨_, rfl⟩
  have hr3 : W.heap[b3]? = some (.cells #[.int .i64 d] 3 (0, 0)) := by
    rw [← hW, ← hb3, ← hb2, ← hb1]
    have := heap_alloc_new ((w.alloc (.cells #[.pointer (some ⟨cb, 0, none⟩)] 103)).alloc (.cells #[.int .i64 k', .string n', .slice A ks.length c] 40)) (.cells #[.int .i64 d] 3)
    rw [World.size_alloc, World.size_alloc] at this
    exact this
  have hcW := hc.later hb
  have hAW := hA.kept (S' := fun b => b < cb) (w' := W) fun b h1 h2 => ⟨h1, Nat.lt_of_lt_of_le h2 hb.size, hb.block b h2⟩
  have hoW : Only cb w W := only_of_below hb _
  obtain ⟨c0, c1, c2⟩ := ck_cell hcW
  obtain ⟨d0, -, d2⟩ := rowc1 hr1
  obtain ⟨hc3, hoc⟩ := ck_set hcW (p + 1)
  have e1 : IntKind.i64.wrap ((p : Int) + 1) = (p : Int) + 1 := IntWalk.i64_in _ (by omega)
  clear hA hr hc hb
  go_enter Tryz.func59, Tryz.ntmps59
  go_upto_region 2 with fail
  clear c0 c1 c2 d0 d2
  have hc3 : CkAt (W.setCell ⟨cb, 0, none⟩ (.int .i64 ((p : Int) + 1))) cb (p + 1) := hc3
  have hoc : Only cb W (W.setCell ⟨cb, 0, none⟩ (.int .i64 ((p : Int) + 1))) := hoc
  have hr1' := row_other (r := cb) (i := 0) hr1 (by omega) (.int .i64 ((p : Int) + 1))
  have hr2' := row_other (r := cb) (i := 0) hr2 (by omega) (.int .i64 ((p : Int) + 1))
  have hr3' := row_other (r := cb) (i := 0) hr3 (by omega) (.int .i64 ((p : Int) + 1))
  have hA2 := at_ck hAW hoc
  have ho2 := hoW.trans hoc
  clear hr1 hr2 hr3 hAW hoW hoc hcW hW e1
  generalize W.setCell ⟨cb, 0, none⟩ (Value.int .i64 ((p : Int) + 1)) = V at *
  obtain ⟨c0, -, c2⟩ := ck_cell hc3
  have c0 : V.cell? ⟨cb, 0, none⟩ = some (.int .i64 ((p : Int) + 1)) := c0
  obtain ⟨d0, -, d2⟩ := rowc1 hr1'
  obtain ⟨f0, f1, f2, -⟩ := sel_cells hr2'
  obtain ⟨g0, -, g2⟩ := rowc1 hr3'
  have hE0 := str_empty n'
  have hE : n'.toList.isEmpty = decide (n'.size = 0) := by rw [← hE0]; cases n'.toList <;> rfl
  have hv := validN_mk codeB k' n' ks d p
  obtain ⟨NK, hNK⟩ : ∃ NK, namedK k' = NK := ⟨_, rfl⟩
  obtain ⟨CV, hCV⟩ : ∃ CV, codeB n' = CV := ⟨_, rfl⟩
  obtain ⟨EM, hEM⟩ : ∃ EM, decide (n'.size = 0) = EM := ⟨_, rfl⟩
  obtain ⟨N, hN⟩ : ∃ N, ks.length = N := ⟨_, rfl⟩
  have hnm := selnamed_walk k'
  have hcv := cvalid_walk n'
  rw [hNK] at hnm
  rw [hCV] at hcv
  rw [hEM] at hE hE0
  rw [hN] at f2 hlen hcap hv ⊢
  have hfs : fieldsS codeB k' n' N = (decide (1 ≤ k') && decide (k' ≤ 10) && (NK == !EM) && (!NK || CV) && (if k' = 8 ∨ k' = 9 then decide (2 ≤ N) else if k' = 10 then decide (N = 1) else decide (N = 0))) := by
    unfold fieldsS
    rw [hNK, hCV, ← hEM]
    congr 3
    congr 1
    simp
  rw [hfs] at hv
  clear hfs hr1' hr2' hr3'
  replace hNK := hide hNK
  replace hCV := hide hCV
  replace hEM := hide hEM
  replace hN := hide hN
  have hpi : ((64 : Int) < (p : Int) + 1) ↔ 64 < p + 1 := by omega
  obtain ⟨BAD, hBAD⟩ : ∃ BAD, (decide (d < 1) || decide (64 < p + 1) || !(decide (1 ≤ k') && decide (k' ≤ 10) && (NK == !EM) && (!NK || CV))) = BAD := ⟨_, rfl⟩
  replace hBAD := hide hBAD
  go_cut [53] (fun sc V' => ∃ nq, sc = .bool BAD ∧ V' = V.drewN nq)
  case first =>
    clear hv ih hA2 ho2 hc3 hpi
    by_cases hD : d < 1
    · have z1 : decide (d < 1) = true := decide_eq_true hD
      go_quiet (first | (go_at_call 107; exact quiet_left (hnm _)) | (go_at_call 32; exact quiet_left (hcv _)))
      go_wp2_with fail
      go_meet
      exact ⟨nq, by rw [show BAD = true from by rw [← hBAD.out, z1]; simp], rfl⟩
    · have z1 : decide (d < 1) = false := decide_eq_false hD
      by_cases hP : 64 < p + 1
      · have hP' : (64 : Int) < (p : Int) + 1 := by omega
        have z2 : decide (64 < p + 1) = true := decide_eq_true hP
        go_quiet (first | (go_at_call 107; exact quiet_left (hnm _)) | (go_at_call 32; exact quiet_left (hcv _)))
        go_wp2_with fail
        go_meet
        exact ⟨nq, by rw [show BAD = true from by rw [← hBAD.out, z1, z2]; simp], rfl⟩
      · have hP' : ¬ (64 : Int) < (p : Int) + 1 := by omega
        have z2 : decide (64 < p + 1) = false := decide_eq_false hP
        by_cases hK : 1 ≤ k'
        · have hK' : ¬ k' < 1 := by omega
          have z3 : decide (1 ≤ k') = true := decide_eq_true hK
          by_cases hT : k' ≤ 10
          · have hT' : ¬ 10 < k' := by omega
            have z4 : decide (k' ≤ 10) = true := decide_eq_true hT
            cases NK <;> cases EM <;> cases CV
            all_goals
              go_quiet (first | (go_at_call 107; exact quiet_left (hnm _)) | (go_at_call 32; exact quiet_left (hcv _)))
              go_wp2_with fail
              go_meet
              first
                | exact ⟨nq, by rw [show BAD = true from by rw [← hBAD.out, z1, z2, z3, z4]; rfl], rfl⟩
                | exact ⟨nq, by rw [show BAD = false from by rw [← hBAD.out, z1, z2, z3, z4]; rfl], rfl⟩
          · have hT' : 10 < k' := by omega
            have z4 : decide (k' ≤ 10) = false := decide_eq_false hT
            go_quiet (first | (go_at_call 107; exact quiet_left (hnm _)) | (go_at_call 32; exact quiet_left (hcv _)))
            go_wp2_with fail
            go_meet
            exact ⟨nq, by rw [show BAD = true from by rw [← hBAD.out, z1, z2, z3, z4]; simp], rfl⟩
        · have hK' : k' < 1 := by omega
          have z3 : decide (1 ≤ k') = false := decide_eq_false hK
          go_quiet (first | (go_at_call 107; exact quiet_left (hnm _)) | (go_at_call 32; exact quiet_left (hcv _)))
          go_wp2_with fail
          go_meet
          exact ⟨nq, by rw [show BAD = true from by rw [← hBAD.out, z1, z2, z3]; simp], rfl⟩
  case rest =>
    obtain ⟨nq, rfl, rfl⟩ := hcut
    have hbd : Below V.heap.size V (V.drewN nq) := below_drewN (Below.refl _ _) _
    have hc4 := hc3.later hbd
    have ho4 := Only.later ho2 hbd
    have hA4 := hA2.kept (S' := fun b => b < cb) (w' := V.drewN nq) fun b h1 h2 => ⟨h1, Nat.lt_of_lt_of_le h2 hbd.size, hbd.block b h2⟩
    replace d0 := cell_later hbd d0
    replace f0 := cell_later hbd f0
    replace f1 := cell_later hbd f1
    replace f2 := cell_later hbd f2
    replace g0 := cell_later hbd g0
    have l2 := World.block_lt_of_cell? _ _ f0
    clear hc3 ho2 hA2 c0 c2 d2 g2 hnm hcv hE hE0 hpi hbd
    generalize V.drewN nq = U at *
    have hBAD := hBAD.out
    cases BAD with
    | true =>
      have hv2 : validN codeB (.mk k' n' ks) d p = (false, p + 1) := by
        rw [hv]
        refine if_pos ?_
        simp only [Bool.or_eq_true, decide_eq_true_iff, Bool.not_eq_true'] at hBAD
        rcases hBAD with (h | h) | h
        · exact .inl h
        · exact .inr (.inl h)
        · exact .inr (.inr (by rw [h]; rfl))
      clear hv hBAD
      replace hv2 := hide hv2
      go_wp2
      go_ret
      exact ⟨by rw [hv2.out]; rfl, by rw [hv2.out]; exact hc4, ho4⟩
    | false =>
      simp only [Bool.or_eq_false_iff, decide_eq_false_iff_not, Bool.not_eq_false'] at hBAD
      obtain ⟨⟨hD, hP⟩, hH⟩ := hBAD
      rw [hH, Bool.true_and] at hv
      clear hH
      have hcs := consel_walk ks ih cb b1 b3 A c d (p + 1) U hc4 (by omega) (by omega) hd2 hA4 d0 g0 (by omega) (by omega) (by rw [hN.out]; exact hlen)
      rw [hN.out] at hcs
      have hdp : ¬ (d < 1) ∧ ¬ (64 < p + 1) := ⟨hD, hP⟩
      obtain ⟨R, hR⟩ : ∃ R, kidsN codeB ks (d - 1) (p + 1) = R := ⟨_, rfl⟩
      rw [hR] at hcs hv
      replace hR := hide hR
      clear hA4 hD hP
      by_cases h89 : k' = 8 ∨ k' = 9
      · rw [if_pos h89] at hv
        by_cases hN2 : 2 ≤ N
        · have hv2 : validN codeB (.mk k' n' ks) d p = R := by
            rw [hv]
            refine if_neg ?_
            rintro (h | h | h)
            · exact hdp.1 h
            · exact hdp.2 h
            · rw [decide_eq_true hN2] at h; cases h
          have hn2 : ¬ (N : Int) < 2 := by omega
          clear hv hdp
          replace hv2 := hide hv2
          rcases h89 with rfl | rfl
          all_goals
            go_wp2_with fail
            refine hcs.mono ?_
            rintro e w1 ⟨rfl, hc5, ho5⟩
            clear hcs
            obtain ⟨Q, hQ⟩ : ∃ Q, R.1 = Q := ⟨_, rfl⟩
            rw [hQ]
            replace hQ := hide hQ
            go_wp2
            go_ret
            exact ⟨by rw [hv2.out, hQ.out]; simp, by rw [hv2.out]; exact hc5, ho4.trans ho5⟩
        · have hv2 : validN codeB (.mk k' n' ks) d p = (false, p + 1) := by
            rw [hv]
            exact if_pos (.inr (.inr (decide_eq_false hN2)))
          have hn2 : (N : Int) < 2 := by omega
          clear hv hdp hcs
          replace hv2 := hide hv2
          rcases h89 with rfl | rfl
          all_goals
            go_wp2
            go_ret
            exact ⟨by rw [hv2.out]; rfl, by rw [hv2.out]; exact hc4, ho4⟩
      · rw [if_neg h89] at hv
        have e8 : (k' == 8) = false := by rw [beq_eq_false_iff_ne]; omega
        have e9 : (k' == 9) = false := by rw [beq_eq_false_iff_ne]; omega
        by_cases h10 : k' = 10
        · rw [if_pos h10] at hv
          by_cases hN2 : N = 1
          · have hv2 : validN codeB (.mk k' n' ks) d p = R := by
              rw [hv]
              refine if_neg ?_
              rintro (h | h | h)
              · exact hdp.1 h
              · exact hdp.2 h
              · rw [decide_eq_true hN2] at h; cases h
            have hn2 : ((N : Int) != 1) = false := by rw [hN2]; rfl
            clear hv hdp hN
            replace hv2 := hide hv2
            replace hN2 := hide hN2
            subst h10
            go_wp2_with fail
            refine hcs.mono ?_
            rintro e w1 ⟨rfl, hc5, ho5⟩
            clear hcs
            obtain ⟨Q, hQ⟩ : ∃ Q, R.1 = Q := ⟨_, rfl⟩
            rw [hQ]
            replace hQ := hide hQ
            go_wp2
            go_ret
            exact ⟨by rw [hv2.out, hQ.out]; simp, by rw [hv2.out]; exact hc5, ho4.trans ho5⟩
          · have hv2 : validN codeB (.mk k' n' ks) d p = (false, p + 1) := by
              rw [hv]
              exact if_pos (.inr (.inr (decide_eq_false hN2)))
            have hn2 : ((N : Int) != 1) = true := by rw [bne_iff_ne]; omega
            clear hv hdp hcs
            replace hv2 := hide hv2
            replace hN2 := hide hN2
            subst h10
            go_wp2
            go_ret
            exact ⟨by rw [hv2.out]; rfl, by rw [hv2.out]; exact hc4, ho4⟩
        · rw [if_neg h10] at hv
          have e10 : (k' == 10) = false := by rw [beq_eq_false_iff_ne]; omega
          have hv2 : validN codeB (.mk k' n' ks) d p = (decide (N = 0), p + 1) := by
            rw [hv]
            by_cases hN2 : N = 0
            · rw [if_neg (by
                rintro (h | h | h)
                · exact hdp.1 h
                · exact hdp.2 h
                · rw [decide_eq_true hN2] at h; cases h), decide_eq_true hN2, ← hR.out]
              have hk : ks = [] := List.length_eq_zero_iff.1 (hN.out.trans hN2)
              rw [hk]
              rfl
            · rw [if_pos (.inr (.inr (decide_eq_false hN2))), decide_eq_false hN2]
          obtain ⟨Q, hQ⟩ : ∃ Q, ((N : Int) == 0) = Q := ⟨_, rfl⟩
          have hQ2 : Hid (decide (N = 0) = Q) := hide (by rw [← hQ, Bool.eq_iff_iff]; simp)
          clear hv hdp hcs h89 h10
          replace hv2 := hide hv2
          go_wp2
          go_ret
          exact ⟨by rw [hv2.out, hQ2.out]; rfl, by rw [hv2.out]; exact hc4, ho4⟩
theorem valid_all : ∀ s, selSize s ≤ 9223372036854775807 → ValidSpec s := by
  refine Sel.ind fun k n ks ih hs => ?_
  rw [selSize_mk] at hs
  have hsum : ∀ s, s ∈ ks → selSize s ≤ sumS selSize ks := by
    intro s hs
    clear ih
    induction ks with
    | nil => cases hs
    | cons x r ih =>
      show _ ≤ selSize x + sumS selSize r
      rcases List.mem_cons.1 hs with rfl | h
      · omega
      · have := ih (by rename_i q; exact Nat.le_trans (by show 1 + sumS selSize r ≤ 1 + (selSize x + sumS selSize r); omega) q) h
        omega
  have hlen : ∀ l : List Sel, l.length ≤ sumS selSize l := by
    intro l
    induction l with
    | nil => exact Nat.le_refl _
    | cons x r ih =>
      show r.length + 1 ≤ selSize x + sumS selSize r
      have := selSize_pos x
      omega
  exact valid_step k n ks (fun s h => ih s h (by have := hsum s h; omega)) (by have := hlen ks; omega)
set_option maxHeartbeats 1000000 in
theorem selection_walk (s : Sel) (hs : selSize s ≤ 9223372036854775807) (k : Int) (n : ByteArray) (A : Option Addr) (m c : Nat) (w : World) (hr : kSel.rep AnyB w s [.int .i64 k, .string n, .slice A m c]) :
    Calls Tryz.prog 26 #[.agg #[.int .i64 k, .string n, .slice A m c]] w fun e w' => e = .returned (.bool (validN codeB s 8 0).1) ∧ Below w.heap.size w w' := by
  obtain ⟨W, hW⟩ : ∃ W, (w.alloc (.cells #[.int .i64 k, .string n, .slice A m c] 40)).alloc (.cells #[.int .i64 0] 105) = W := ⟨_, rfl⟩
  obtain ⟨b, hb⟩ : ∃ b, w.heap.size = b := ⟨_, rfl⟩
  obtain ⟨cb, hcb⟩ : ∃ cb, b + 1 = cb := ⟨_, rfl⟩
  have hbl : Below w.heap.size w W := by rw [← hW]; exact (by repeat (first | exact Below.refl _ _ | refine ext_alloc ?_ _ | refine ext_drewN ?_ _ | refine ext_drew ?_ | refine ext_trans ?_ (by assumption)))
  have hrow : W.heap[b]? = some (.cells #[.int .i64 k, .string n, .slice A m c] 40 (0, 0)) := by
    rw [← hW, ← hb]
    exact (Below.heap_alloc _ _ _ (by simp only [World.size_alloc]; omega)).trans (heap_alloc_new _ _)
  have hck : CkAt W cb 0 := by
    rw [← hW, ← hcb, ← hb]
    have := heap_alloc_new (w.alloc (.cells #[.int .i64 k, .string n, .slice A m c] 40)) (.cells #[.int .i64 0] 105)
    rw [World.size_alloc] at this
    exact this
  have hrep : kSel.rep (fun x => x < cb) W s [.int .i64 k, .string n, .slice A m c] := kSel.kept (kSel.lo hr) fun x h1 h2 => ⟨by omega, Nat.lt_of_lt_of_le h2 hbl.size, hbl.block x h2⟩
  have hcall := valid_all s hs cb k n A m c 8 0 W hck (by omega) (by omega) (by omega) hrep
  obtain ⟨y0, y1, y2, -⟩ := sel_cells hrow
  have hrl := blk_lt hrow
  obtain ⟨R, hR⟩ : ∃ R, validN codeB s 8 0 = R := ⟨_, rfl⟩
  rw [hR] at hcall ⊢
  clear hr hrep hrow hck hR
  go_enter Tryz.func26, Tryz.ntmps26
  go_wp2_with fail
  refine hcall.mono ?_
  rintro e w1 ⟨rfl, hc1, ho1⟩
  clear hcall
  go_wp2
  go_ret
  exact ⟨rfl, Below.trans hbl (Only.below (B := w.heap.size) ho1 (by omega) hbl.size)⟩
end Go.Proofs.YtdnnahdafhddlaaGreatDoor

namespace Go.Proofs.YtdnnahdafhddlaaGreatDoor
open Go.RowKit
set_option maxRecDepth 100000

theorem sel_le_sum {ks : List Sel} {s : Sel} (hs : s ∈ ks) : selSize s ≤ sumS selSize ks := by
  induction ks with
  | nil => cases hs
  | cons x r ih =>
    show _ ≤ selSize x + sumS selSize r
    rcases List.mem_cons.1 hs with rfl | h
    · omega
    · have := ih h
      omega
theorem len_le_sum : ∀ l : List Sel, l.length ≤ sumS selSize l
  | [] => Nat.le_refl _
  | x :: r => by
    have := len_le_sum r
    have := selSize_pos x
    show r.length + 1 ≤ selSize x + sumS selSize r
    omega
theorem drop_at {α : Type} {l : List α} {j : Nat} {x : α} (h : l[j]? = some x) : l.drop j = x :: l.drop (j + 1) := by
  have hj := (List.getElem?_eq_some_iff.1 h).1
  rw [List.drop_eq_getElem_cons hj]
  congr 1
  rw [List.getElem?_eq_getElem hj] at h
  injection h
/-- A selection's value is boxed: its cells, its parts. -/
theorem sel_boxed {w : World} {s : Sel} {k : Int} {n : ByteArray} {A : Option Addr} {m c : Nat} (hr : kSel.rep AnyB w s [.int .i64 k, .string n, .slice A m c]) : ∃ ks, s = .mk k n ks ∧ m = ks.length ∧ m ≤ c ∧ At kSel AnyB w A ks := by
  obtain ⟨k', n', ks⟩ := s
  obtain ⟨A', c', he, hcap, hA⟩ := rep_sel.1 hr
  simp only [List.cons.injEq, Value.int.injEq, Value.string.injEq, Value.slice.injEq, and_true, true_and] at he
  obtain ⟨rfl, rfl, rfl, rfl, rfl⟩ := he
  exact ⟨ks, rfl, rfl, hcap, hA⟩
set_option maxHeartbeats 4000000 in
theorem rdepth_walk : ∀ (s : Sel), selSize s ≤ 9223372036854775807 → ∀ (m : Nat), m ≤ 101 → ∀ (k : Int) (n : ByteArray) (A : Option Addr) (l c : Nat) (w : World), kSel.rep AnyB w s [.int .i64 k, .string n, .slice A l c] →
    Calls Tryz.prog 111 #[.agg #[.int .i64 k, .string n, .slice A l c], .int .i64 m] w fun e w' => e = .returned (.int .i64 (depthR s m)) ∧ Below w.heap.size w w' := by
  refine Sel.ind fun k n ks ih hs m hm k n A l c w hr => ?_
  (
    obtain ⟨ks', he, rfl, hcap, hA⟩ := sel_boxed hr
    injection he with he1 he2 he3
    subst he1
    subst he2
    subst he3
    rw [selSize_mk] at hs
    have hll := len_le_sum ks
    have hkm : ∀ x, x ∈ ks → selSize x ≤ 9223372036854775807 := fun x hx => by have := sel_le_sum hx; omega
    obtain ⟨N, hN⟩ : ∃ N, ks.length = N := ⟨_, rfl⟩
    rw [hN] at hcap hll ⊢
    obtain ⟨W, hW⟩ : ∃ W, w.alloc (.cells #[.int .i64 k, .string n, .slice A N c] 40) = W := ⟨_, rfl⟩
    obtain ⟨r, hrr⟩ : ∃ r, w.heap.size = r := ⟨_, rfl⟩
    have hb1 : Below w.heap.size w W := by rw [← hW]; exact ext_alloc (Below.refl _ _) _
    have hr1 : W.heap[r]? = some (.cells #[.int .i64 k, .string n, .slice A N c] 40 (0, 0)) := by rw [← hW, ← hrr]; exact heap_alloc_new _ _
    have hA1 := hA.later hb1
    have hNl : N ≤ 9223372036854775807 := by omega
    replace hN := hide hN
    clear hA hr)
  have ih := hide (fun x hx => ih x hx (hkm x hx))
  have hd := depthR_mk k n ks m
  by_cases h1 : m ≤ 1
  · rw [if_pos h1] at hd
    rw [hd]
    have hm1 : (m : Int) ≤ 1 := by omega
    go_enter Tryz.func111, Tryz.ntmps111
    go_wp2
    go_ret
    exact ⟨rfl, hb1⟩
  · rw [if_neg h1] at hd
    obtain ⟨R, hR⟩ : ∃ R, depthR (.mk k n ks) m = R := ⟨_, rfl⟩
    rw [hR] at hd ⊢
    have hle : R ≤ 101 := by rw [← hR, depthR_eq]; omega
    have hm1 : ¬ (m : Int) ≤ 1 := by omega
    have e1 : IntKind.i64.wrap ((m : Int) - 1) = ((m - 1 : Nat) : Int) := (IntWalk.i64_in _ (by omega)).trans (by omega)
    clear hR
    replace hd := hide hd
    replace h1 := hide h1
    go_enter Tryz.func111, Tryz.ntmps111
    go_wp2
    replace hW := hide hW
    replace hrr := hide hrr
    go_loopw [5, 6] (fun v i wr => ∃ j d : Nat, j ≤ N ∧ i = .int .i64 j ∧ v = .int .i64 d ∧ Hid (deepS (fun s => depthR s (m - 1)) (ks.drop j) d + 1 = R) ∧ d ≤ 101 ∧ Below W.heap.size W wr) (fun _ i _ => N - (intOf i).toNat)
    case atStart => exact ⟨0, 0, Nat.zero_le _, rfl, rfl, hide hd.out.symm, Nat.zero_le _, Below.refl _ _⟩
    case round =>
      obtain ⟨j, d, hj, rfl, rfl, hR, hdl, hbr⟩ := hrel
      have hrw : wr.heap[r]? = _ := (hbr.block r (blk_lt hr1)).trans hr1
      obtain ⟨y0, y1, y2, -⟩ := sel_cells hrw
      have hrl := blk_lt hrw
      by_cases hjN : j < N
      · (
        obtain ⟨z, hz⟩ : ∃ z, ks[j]? = some z := ⟨_, List.getElem?_eq_getElem (by rw [hN.out]; exact hjN)⟩
        have hzm := List.mem_of_getElem? hz
        obtain ⟨pb, po, vs, rfl, -, hpl, hrep, hcl⟩ := (hA1.later hbr).get hz
        obtain ⟨k9, n9, A9, m9, c9, rfl⟩ := SelRep.form hrep
        have q0 : wr.cell? ⟨pb, po + j * 3, none⟩ = some (.int .i64 k9) := hcl 0 _ rfl
        have q1 : wr.cell? ⟨pb, po + j * 3 + 1, none⟩ = some (.string n9) := hcl 1 _ rfl
        have q2 : wr.cell? ⟨pb, po + j * 3 + 2, none⟩ = some (.slice A9 m9 c9) := hcl 2 _ rfl
        have k0 : (0 : Int) ≤ (j : Int) := by omega
        have k1 : (j : Int) < (N : Int) := by omega)
        have hc := ih.out z hzm (m - 1) (by omega) k9 n9 A9 m9 c9 wr hrep
        have hx : depthR z (m - 1) ≤ 101 := by rw [depthR_eq]; omega
        rw [drop_at hz] at hR
        have hR2 : Hid (deepS (fun s => depthR s (m - 1)) (ks.drop (j + 1)) (max d (depthR z (m - 1))) + 1 = R) := hR
        obtain ⟨X, hX⟩ : ∃ X, depthR z (m - 1) = X := ⟨_, rfl⟩
        rw [hX] at hc hx hR2
        clear hcl hrep hz hX hR hrw
        go_wp2_with fail
        refine hc.mono ?_
        rintro e w2 ⟨rfl, hb2⟩
        clear hc
        go_wp2
        go_roundw
        case rel => exact ⟨j + 1, max d X, by omega, by go_num, by go_num, hR2, by omega, ext_trans hbr hb2⟩
        case measure => simp [intOf]; omega
      · obtain rfl : j = N := by omega
        rw [← hN.out, List.drop_length] at hR
        have hdd : d + 1 = R := hR.out
        have e2 : IntKind.i64.wrap ((d : Int) + 1) = (R : Int) := (IntWalk.i64_in _ (by omega)).trans (by omega)
        clear hR hrw hdd
        go_wp2
        go_ret
        exact ⟨rfl, ext_trans hb1 hbr⟩
theorem rDepth_walk (s : Sel) (hs : selSize s ≤ 9223372036854775807) (k : Int) (n : ByteArray) (A : Option Addr) (l c : Nat) (w : World) (hr : kSel.rep AnyB w s [.int .i64 k, .string n, .slice A l c]) :
    Calls Tryz.prog 63 #[.agg #[.int .i64 k, .string n, .slice A l c]] w fun e w' => e = .returned (.int .i64 (depthR s 101)) ∧ Below w.heap.size w w' := by
  obtain ⟨W, hW⟩ : ∃ W, w.alloc (.cells #[.int .i64 k, .string n, .slice A l c] 40) = W := ⟨_, rfl⟩
  have hb1 : Below w.heap.size w W := by rw [← hW]; exact ext_alloc (Below.refl _ _) _
  have hr1 : W.heap[w.heap.size]? = some (.cells #[.int .i64 k, .string n, .slice A l c] 40 (0, 0)) := by rw [← hW]; exact heap_alloc_new _ _
  obtain ⟨y0, y1, y2, -⟩ := sel_cells hr1
  have hc := rdepth_walk s hs 101 (Nat.le_refl _) k n A l c W (kSel.later hr hb1)
  have hc : Calls Tryz.prog 111 #[.agg #[.int .i64 k, .string n, .slice A l c], .int .i64 101] W fun e w' => e = .returned (.int .i64 (depthR s 101)) ∧ Below W.heap.size W w' := hc
  clear hr hr1
  go_enter Tryz.func63, Tryz.ntmps63
  go_wp2_with fail
  refine hc.mono ?_
  rintro e w2 ⟨rfl, hb2⟩
  go_wp2
  go_ret
  exact ⟨rfl, ext_trans hb1 hb2⟩
set_option maxHeartbeats 4000000 in
theorem rparts_walk : ∀ (s : Sel), selSize s ≤ 9223372036854775807 → ∀ (k : Int) (n : ByteArray) (A : Option Addr) (l c : Nat) (w : World), kSel.rep AnyB w s [.int .i64 k, .string n, .slice A l c] →
    Calls Tryz.prog 64 #[.agg #[.int .i64 k, .string n, .slice A l c]] w fun e w' => e = .returned (.int .i64 (partsR s)) ∧ Below w.heap.size w w' := by
  refine Sel.ind fun k n ks ih hs k n A l c w hr => ?_
  (
    obtain ⟨ks', he, rfl, hcap, hA⟩ := sel_boxed hr
    injection he with he1 he2 he3
    subst he1
    subst he2
    subst he3
    rw [selSize_mk] at hs
    have hll := len_le_sum ks
    have hkm : ∀ x, x ∈ ks → selSize x ≤ 9223372036854775807 := fun x hx => by have := sel_le_sum hx; omega
    obtain ⟨N, hN⟩ : ∃ N, ks.length = N := ⟨_, rfl⟩
    rw [hN] at hcap hll ⊢
    obtain ⟨W, hW⟩ : ∃ W, w.alloc (.cells #[.int .i64 k, .string n, .slice A N c] 40) = W := ⟨_, rfl⟩
    obtain ⟨r, hrr⟩ : ∃ r, w.heap.size = r := ⟨_, rfl⟩
    have hb1 : Below w.heap.size w W := by rw [← hW]; exact ext_alloc (Below.refl _ _) _
    have hr1 : W.heap[r]? = some (.cells #[.int .i64 k, .string n, .slice A N c] 40 (0, 0)) := by rw [← hW, ← hrr]; exact heap_alloc_new _ _
    have hA1 := hA.later hb1
    have hNl : N ≤ 9223372036854775807 := by omega
    replace hN := hide hN
    clear hA hr)
  have ih := hide (fun x hx => ih x hx (hkm x hx))
  have hd := partsR_mk k n ks
  obtain ⟨R, hR⟩ : ∃ R, partsR (.mk k n ks) = R := ⟨_, rfl⟩
  rw [hR] at hd ⊢
  replace hd := hide hd
  clear hR
  go_enter Tryz.func64, Tryz.ntmps64
  go_wp2
  replace hW := hide hW
  replace hrr := hide hrr
  go_loopw [3, 4] (fun v i wr => ∃ j d : Nat, j ≤ N ∧ i = .int .i64 j ∧ v = .int .i64 d ∧ Hid (restS partsR (ks.drop j) d = R) ∧ d + sumS selSize (ks.drop j) ≤ 9223372036854775807 ∧ Below W.heap.size W wr) (fun _ i _ => N - (intOf i).toNat)
  case atStart => exact ⟨0, 1, Nat.zero_le _, rfl, rfl, hide hd.out.symm, hs, Below.refl _ _⟩
  case round =>
    obtain ⟨j, d, hj, rfl, rfl, hR, hdl, hbr⟩ := hrel
    have hrw : wr.heap[r]? = _ := (hbr.block r (blk_lt hr1)).trans hr1
    obtain ⟨y0, y1, y2, -⟩ := sel_cells hrw
    have hrl := blk_lt hrw
    by_cases hjN : j < N
    · (
        obtain ⟨z, hz⟩ : ∃ z, ks[j]? = some z := ⟨_, List.getElem?_eq_getElem (by rw [hN.out]; exact hjN)⟩
        have hzm := List.mem_of_getElem? hz
        obtain ⟨pb, po, vs, rfl, -, hpl, hrep, hcl⟩ := (hA1.later hbr).get hz
        obtain ⟨k9, n9, A9, m9, c9, rfl⟩ := SelRep.form hrep
        have q0 : wr.cell? ⟨pb, po + j * 3, none⟩ = some (.int .i64 k9) := hcl 0 _ rfl
        have q1 : wr.cell? ⟨pb, po + j * 3 + 1, none⟩ = some (.string n9) := hcl 1 _ rfl
        have q2 : wr.cell? ⟨pb, po + j * 3 + 2, none⟩ = some (.slice A9 m9 c9) := hcl 2 _ rfl
        have k0 : (0 : Int) ≤ (j : Int) := by omega
        have k1 : (j : Int) < (N : Int) := by omega)
      by_cases hd1 : d ≤ 1000
      · have hdi : (d : Int) ≤ 1000 := by omega
        have hc := ih.out z hzm k9 n9 A9 m9 c9 wr hrep
        obtain ⟨hx, -⟩ := partsR_eq z
        rw [drop_at hz] at hR hdl
        have hdl2 : d + (selSize z + sumS selSize (ks.drop (j + 1))) ≤ 9223372036854775807 := hdl
        have hR2 : Hid (restS partsR (ks.drop (j + 1)) (d + partsR z) = R) := hide ((if_pos hd1).symm.trans hR.out)
        obtain ⟨X, hX⟩ : ∃ X, partsR z = X := ⟨_, rfl⟩
        rw [hX] at hc hx hR2
        have e2 : IntKind.i64.wrap ((d : Int) + (X : Int)) = ((d + X : Nat) : Int) := (IntWalk.i64_in _ (by omega)).trans (by omega)
        clear hcl hrep hz hX hR hrw hdl
        go_wp2_with fail
        refine hc.mono ?_
        rintro e w2 ⟨rfl, hb2⟩
        clear hc
        go_wp2
        go_roundw
        case rel => exact ⟨j + 1, d + X, by omega, by go_num, by go_num, hR2, by omega, ext_trans hbr hb2⟩
        case measure => simp [intOf]; omega
      · have hdi : ¬ (d : Int) ≤ 1000 := by omega
        rw [drop_at hz] at hR
        have hdd : d = R := (if_neg hd1).symm.trans hR.out
        subst hdd
        clear hR hrep hcl hz hrw hd1
        go_wp2
        go_ret
        exact ⟨rfl, ext_trans hb1 hbr⟩
    · obtain rfl : j = N := by omega
      rw [← hN.out, List.drop_length] at hR
      have hdd : d = R := hR.out
      subst hdd
      clear hR hrw
      go_wp2
      go_ret
      exact ⟨rfl, ext_trans hb1 hbr⟩

theorem fields1 (ok : ByteArray → Bool) (n : ByteArray) (c : Nat) : fieldsS ok 1 n c = (decide (n.size = 0) && decide (c = 0)) := by
  have h : namedK 1 = false := rfl
  unfold fieldsS
  rw [h]
  by_cases q : n.size = 0 <;> simp [q]
theorem fieldsNm (n : ByteArray) (c : Nat) {k : Int} (h1 : 2 ≤ k) (h2 : k ≤ 7) : fieldsS codeB k n c = (codeB n && decide (c = 0)) := by
  have h : namedK k = true := by unfold namedK; rw [decide_eq_true h1, decide_eq_true h2]; rfl
  have q8 : ¬ (k = 8 ∨ k = 9) := by omega
  have q10 : ¬ k = 10 := by omega
  have q1 : (1 : Int) ≤ k := by omega
  have q2 : k ≤ 10 := by omega
  unfold fieldsS
  rw [h, if_neg q8, if_neg q10, decide_eq_true q1, decide_eq_true q2]
  cases hc : codeB n with
  | false => simp
  | true =>
    have h0 : n.size ≠ 0 := fun e => by rw [codeB_no (by omega)] at hc; cases hc
    simp [h0]
theorem fields89 (ok : ByteArray → Bool) (n : ByteArray) (c : Nat) {k : Int} (h8 : k = 8 ∨ k = 9) : fieldsS ok k n c = (decide (n.size = 0) && decide (2 ≤ c)) := by
  have h : namedK k = false := by rcases h8 with rfl | rfl <;> rfl
  have q1 : (1 : Int) ≤ k := by omega
  have q2 : k ≤ 10 := by omega
  unfold fieldsS
  rw [h, if_pos h8, decide_eq_true q1, decide_eq_true q2]
  by_cases q : n.size = 0 <;> simp [q]
theorem fields10 (ok : ByteArray → Bool) (n : ByteArray) (c : Nat) : fieldsS ok 10 n c = (decide (n.size = 0) && decide (c = 1)) := by
  have h : namedK 10 = false := rfl
  unfold fieldsS
  rw [h]
  by_cases q : n.size = 0 <;> simp [q]
theorem fieldsNo (ok : ByteArray → Bool) (n : ByteArray) (c : Nat) {k : Int} (h : k < 1 ∨ 10 < k) : fieldsS ok k n c = false := by
  unfold fieldsS
  rcases h with h | h
  · rw [decide_eq_false (by omega : ¬ 1 ≤ k)]; simp
  · rw [decide_eq_false (by omega : ¬ k ≤ 10)]; simp
set_option maxHeartbeats 8000000 in
theorem rsound_walk : ∀ (s : Sel), selSize s ≤ 9223372036854775807 → ∀ (k : Int) (n : ByteArray) (A : Option Addr) (l c : Nat) (w : World), kSel.rep AnyB w s [.int .i64 k, .string n, .slice A l c] →
    Calls Tryz.prog 65 #[.agg #[.int .i64 k, .string n, .slice A l c]] w fun e w' => e = .returned (.bool (soundS codeB s)) ∧ Below w.heap.size w w' := by
  refine Sel.ind fun k n ks ih hs k n A l c w hr => ?_
  (
    obtain ⟨ks', he, rfl, hcap, hA⟩ := sel_boxed hr
    injection he with he1 he2 he3
    subst he1
    subst he2
    subst he3
    rw [selSize_mk] at hs
    have hll := len_le_sum ks
    have hkm : ∀ x, x ∈ ks → selSize x ≤ 9223372036854775807 := fun x hx => by have := sel_le_sum hx; omega
    obtain ⟨N, hN⟩ : ∃ N, ks.length = N := ⟨_, rfl⟩
    rw [hN] at hcap hll ⊢
    obtain ⟨W, hW⟩ : ∃ W, w.alloc (.cells #[.int .i64 k, .string n, .slice A N c] 40) = W := ⟨_, rfl⟩
    obtain ⟨r, hrr⟩ : ∃ r, w.heap.size = r := ⟨_, rfl⟩
    have hb1 : Below w.heap.size w W := by rw [← hW]; exact ext_alloc (Below.refl _ _) _
    have hr1 : W.heap[r]? = some (.cells #[.int .i64 k, .string n, .slice A N c] 40 (0, 0)) := by rw [← hW, ← hrr]; exact heap_alloc_new _ _
    have hA1 := hA.later hb1
    have hNl : N ≤ 9223372036854775807 := by omega
    replace hN := hide hN
    clear hA hr)
  have ih := hide (fun x hx => ih x hx (hkm x hx))
  have hd := soundS_mk codeB k n ks
  obtain ⟨R, hR⟩ : ∃ R, soundS codeB (.mk k n ks) = R := ⟨_, rfl⟩
  rw [hR] at hd ⊢
  rw [hN.out] at hd
  replace hd := hide hd
  clear hR
  go_enter Tryz.func65, Tryz.ntmps65
  go_wp2
  replace hW := hide hW
  replace hrr := hide hrr
  go_loopw [3] (fun i wr => ∃ j : Nat, j ≤ N ∧ i = .int .i64 j ∧ Hid ((ks.drop j).all (soundS codeB) = ks.all (soundS codeB)) ∧ Below W.heap.size W wr) (fun i _ => N - (intOf i).toNat)
  case atStart => exact ⟨0, Nat.zero_le _, rfl, hide rfl, Below.refl _ _⟩
  case round =>
    obtain ⟨j, hj, rfl, hR, hbr⟩ := hrel
    have hrw : wr.heap[r]? = _ := (hbr.block r (blk_lt hr1)).trans hr1
    obtain ⟨y0, y1, y2, -⟩ := sel_cells hrw
    have hrl := blk_lt hrw
    by_cases hjN : j < N
    · (
        obtain ⟨z, hz⟩ : ∃ z, ks[j]? = some z := ⟨_, List.getElem?_eq_getElem (by rw [hN.out]; exact hjN)⟩
        have hzm := List.mem_of_getElem? hz
        obtain ⟨pb, po, vs, rfl, -, hpl, hrep, hcl⟩ := (hA1.later hbr).get hz
        obtain ⟨k9, n9, A9, m9, c9, rfl⟩ := SelRep.form hrep
        have q0 : wr.cell? ⟨pb, po + j * 3, none⟩ = some (.int .i64 k9) := hcl 0 _ rfl
        have q1 : wr.cell? ⟨pb, po + j * 3 + 1, none⟩ = some (.string n9) := hcl 1 _ rfl
        have q2 : wr.cell? ⟨pb, po + j * 3 + 2, none⟩ = some (.slice A9 m9 c9) := hcl 2 _ rfl
        have k0 : (0 : Int) ≤ (j : Int) := by omega
        have k1 : (j : Int) < (N : Int) := by omega)
      have hc := ih.out z hzm k9 n9 A9 m9 c9 wr hrep
      rw [drop_at hz, List.all_cons] at hR
      cases hX : soundS codeB z with
      | true =>
        rw [hX] at hc hR
        have hR2 : Hid ((ks.drop (j + 1)).all (soundS codeB) = ks.all (soundS codeB)) := hR
        clear hcl hrep hz hR hrw hX
        go_wp2_with fail
        refine hc.mono ?_
        rintro e w2 ⟨rfl, hb2⟩
        clear hc
        go_wp2
        go_roundw
        case rel => exact ⟨j + 1, by omega, by go_num, hR2, ext_trans hbr hb2⟩
        case measure => simp [intOf]; omega
      | false =>
        rw [hX] at hc hR
        have hR2 : R = false := by rw [hd.out, ← hR.out]; rfl
        subst hR2
        clear hcl hrep hz hR hrw hX
        go_wp2_with fail
        refine hc.mono ?_
        rintro e w2 ⟨rfl, hb2⟩
        clear hc
        go_wp2
        go_ret
        exact ⟨rfl, ext_trans hb1 (ext_trans hbr hb2)⟩
    · obtain rfl : j = N := by omega
      rw [← hN.out, List.drop_length] at hR
      have hfin : R = fieldsS codeB k n j := by rw [hd.out, ← hR.out]; simp
      have hE0 := str_empty n
      have hE : n.toList.isEmpty = decide (n.size = 0) := by rw [← hE0]; cases n.toList <;> rfl
      obtain ⟨EM, hEM⟩ : ∃ EM, decide (n.size = 0) = EM := ⟨_, rfl⟩
      rw [hEM] at hE hE0
      have hv := r3valid_walk n
      obtain ⟨CV, hCV⟩ : ∃ CV, codeB n = CV := ⟨_, rfl⟩
      rw [hCV] at hv
      obtain ⟨Z0, hZ0⟩ : ∃ Z0, ((j : Int) == 0) = Z0 := ⟨_, rfl⟩
      obtain ⟨Z1, hZ1⟩ : ∃ Z1, ((j : Int) == 1) = Z1 := ⟨_, rfl⟩
      have z0 : decide (j = 0) = Z0 := by rw [← hZ0, Bool.eq_iff_iff]; simp
      have z1 : decide (j = 1) = Z1 := by rw [← hZ1, Bool.eq_iff_iff]; simp; omega
      replace hEM := hide hEM
      replace hCV := hide hCV
      replace z0 := hide z0
      replace z1 := hide z1
      clear hR hrw ih hs hkm hA1
      by_cases k1 : k = 1
      · subst k1
        have hf : R = (EM && Z0) := by rw [hfin, fields1, hEM.out, z0.out]
        subst hf
        clear hfin
        cases EM
        · cases Z0
          · (
        go_wp2
        go_ret
        exact ⟨by first | rfl | simp, ext_trans hb1 hbr⟩)
          · (
        go_wp2
        go_ret
        exact ⟨by first | rfl | simp, ext_trans hb1 hbr⟩)
        · cases Z0
          · (
        go_wp2
        go_ret
        exact ⟨by first | rfl | simp, ext_trans hb1 hbr⟩)
          · (
        go_wp2
        go_ret
        exact ⟨by first | rfl | simp, ext_trans hb1 hbr⟩)
      · have k1' : (k == 1) = false := by rw [beq_eq_false_iff_ne]; exact k1
        by_cases kn : 2 ≤ k ∧ k ≤ 7
        · obtain ⟨kn1, kn2⟩ := kn
          have hf : R = (CV && Z0) := by rw [hfin, fieldsNm n j kn1 kn2, hCV.out, z0.out]
          subst hf
          replace k1 := hide k1
          clear hfin hE0 hE
          cases CV
          · go_wp2_with (go_at_call 36; refine (hv _).mono ?_; rintro e w' ⟨rfl, rfl⟩)
            go_ret
            exact ⟨by first | rfl | simp, ext_trans hb1 hbr⟩
          · cases Z0
            · go_wp2_with (go_at_call 36; refine (hv _).mono ?_; rintro e w' ⟨rfl, rfl⟩)
              go_ret
              exact ⟨by first | rfl | simp, ext_trans hb1 hbr⟩
            · go_wp2_with (go_at_call 36; refine (hv _).mono ?_; rintro e w' ⟨rfl, rfl⟩)
              go_ret
              exact ⟨by first | rfl | simp, ext_trans hb1 hbr⟩
        · by_cases k8 : k = 8 ∨ k = 9
          · have hf : R = (EM && decide (2 ≤ j)) := by rw [hfin, fields89 _ n j k8, hEM.out]
            replace k1 := hide k1
            replace kn := hide kn
            clear hfin hv
            by_cases hj2 : 2 ≤ j
            · have hji : (2 : Int) ≤ (j : Int) := by omega
              rw [decide_eq_true hj2] at hf
              subst hf
              rcases k8 with rfl | rfl
              · cases EM
                · (
        go_wp2
        go_ret
        exact ⟨by first | rfl | simp, ext_trans hb1 hbr⟩)
                · (
        go_wp2
        go_ret
        exact ⟨by first | rfl | simp, ext_trans hb1 hbr⟩)
              · cases EM
                · (
        go_wp2
        go_ret
        exact ⟨by first | rfl | simp, ext_trans hb1 hbr⟩)
                · (
        go_wp2
        go_ret
        exact ⟨by first | rfl | simp, ext_trans hb1 hbr⟩)
            · have hji : ¬ (2 : Int) ≤ (j : Int) := by omega
              rw [decide_eq_false hj2] at hf
              subst hf
              rcases k8 with rfl | rfl
              · cases EM
                · (
        go_wp2
        go_ret
        exact ⟨by first | rfl | simp, ext_trans hb1 hbr⟩)
                · (
        go_wp2
        go_ret
        exact ⟨by first | rfl | simp, ext_trans hb1 hbr⟩)
              · cases EM
                · (
        go_wp2
        go_ret
        exact ⟨by first | rfl | simp, ext_trans hb1 hbr⟩)
                · (
        go_wp2
        go_ret
        exact ⟨by first | rfl | simp, ext_trans hb1 hbr⟩)
          · have k8' : (k == 8) = false := by rw [beq_eq_false_iff_ne]; omega
            have k9' : (k == 9) = false := by rw [beq_eq_false_iff_ne]; omega
            by_cases k10 : k = 10
            · subst k10
              have hf : R = (EM && Z1) := by rw [hfin, fields10, hEM.out, z1.out]
              subst hf
              clear hfin
              cases EM
              · cases Z1
                · (
        go_wp2
        go_ret
        exact ⟨by first | rfl | simp, ext_trans hb1 hbr⟩)
                · (
        go_wp2
        go_ret
        exact ⟨by first | rfl | simp, ext_trans hb1 hbr⟩)
              · cases Z1
                · (
        go_wp2
        go_ret
        exact ⟨by first | rfl | simp, ext_trans hb1 hbr⟩)
                · (
        go_wp2
        go_ret
        exact ⟨by first | rfl | simp, ext_trans hb1 hbr⟩)
            · have k10' : (k == 10) = false := by rw [beq_eq_false_iff_ne]; exact k10
              have hf : R = false := by rw [hfin, fieldsNo codeB n j (by omega)]
              subst hf
              have kq : (k < 2 ∧ ¬ 2 ≤ k) ∨ (2 ≤ k ∧ ¬ k ≤ 7) := by omega
              clear hfin
              replace k1 := hide k1
              replace kn := hide kn
              replace k8 := hide k8
              replace k10 := hide k10
              rcases kq with ⟨kq0, kq⟩ | ⟨kq, kq2⟩
              · (
        go_wp2
        go_ret
        exact ⟨by first | rfl | simp, ext_trans hb1 hbr⟩)
              · (
        go_wp2
        go_ret
        exact ⟨by first | rfl | simp, ext_trans hb1 hbr⟩)
end Go.Proofs.YtdnnahdafhddlaaGreatDoor
