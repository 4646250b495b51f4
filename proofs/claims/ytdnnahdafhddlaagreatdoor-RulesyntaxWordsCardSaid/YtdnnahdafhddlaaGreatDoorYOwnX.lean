/- Walk of the parser's read: a rule, or the first error. Conditions: the parser's cells are as PsAt says; what the program's variables hold. Rows of data that are appended to, apart from other rows that grow. No condition. -/
import Derived.Test.YtdnnahdafhddlaaGreatDoorYRrG
namespace Go.Proofs.YtdnnahdafhddlaaGreatDoor
open Go.RowKit
set_option maxRecDepth 100000

theorem row1 {w : World} {b : Nat} {x : Value} {ty : TypeId} (h : w.heap[b]? = some (.cells #[x] ty (0, 0))) : w.cell? ⟨b, 0, none⟩ = some x ∧ w.frozen? ⟨b, 0, none⟩ = false ∧ b < w.heap.size :=
  ⟨by rw [cell_of_row w b _ _ _ _ h]; rfl, by simp [World.frozen?, h], blk_lt h⟩
/-- What the deferred closure leaves where the reading panicked. -/
structure Caught (w : World) (pu pp pb b : Nat) (c : Int) (w' : World) : Prop where
  row : RowV 43 w' pu (ru0 ⟨#[]⟩ 0 0)
  parts : w'.cell? ⟨pp, 0, none⟩ = some (.slice none 0 0)
  bad : w'.cell? ⟨pb, 0, none⟩ = some (.pointer (some ⟨w.heap.size, 0, none⟩))
  err : w'.heap[w.heap.size]? = some (.cells #[.int .i64 b, .int .i64 c] 96 (0, 0))
  below : ∀ B, B ≤ pu → B ≤ pp → B ≤ pb → B ≤ w.heap.size → Below B w w'
theorem caught {w W : World} {pu pp pb b : Nat} {c : Int} (hrow : RowV 43 W pu (ru0 ⟨#[]⟩ 0 0)) (hW : w.alloc (.cells #[.int .i64 b, .int .i64 c] 96) = W)
    (hp : W.heap[pp]? = some (.cells #[.slice none 0 0] 35 (0, 0))) (hb : W.heap[pb]? = some (.cells #[.pointer none] 92 (0, 0))) (h12 : pu ≠ pp) (h13 : pu ≠ pb) (h23 : pp ≠ pb) (hu : pu < w.heap.size) (hpl : pp < w.heap.size) (hbl : pb < w.heap.size) :
    Caught w pu pp pb b c (((((((((((((((W.setCell ⟨pu, 0, none⟩ (.string ⟨#[]⟩)).setCell ⟨pu, 1, none⟩ (.int .i64 0)).setCell ⟨pu, 2, none⟩ (.int .i64 0)).setCell ⟨pu, 3, none⟩ (.int .i64 0)).setCell ⟨pu, 4, none⟩ (.string ⟨#[]⟩)).setCell ⟨pu, 5, none⟩ (.slice none 0 0)).setCell ⟨pu, 6, none⟩ (.int .i64 0)).setCell ⟨pu, 7, none⟩ (.string ⟨#[]⟩)).setCell ⟨pu, 8, none⟩ (.slice none 0 0)).setCell ⟨pu, 9, none⟩ (.int .i64 0)).setCell ⟨pu, 10, none⟩ (.slice none 0 0)).setCell ⟨pu, 11, none⟩ (.slice none 0 0)).setCell ⟨pu, 12, none⟩ (.int .i64 0)).setCell ⟨pp, 0, none⟩ (.slice none 0 0)).setCell ⟨pb, 0, none⟩ (.pointer (some ⟨w.heap.size, 0, none⟩))) := by
  have hrow2 := (((((((((((((hrow.set 0 (.string ⟨#[]⟩)).set 1 (.int .i64 0)).set 2 (.int .i64 0)).set 3 (.int .i64 0)).set 4 (.string ⟨#[]⟩)).set 5 (.slice none 0 0)).set 6 (.int .i64 0)).set 7 (.string ⟨#[]⟩)).set 8 (.slice none 0 0)).set 9 (.int .i64 0)).set 10 (.slice none 0 0)).set 11 (.slice none 0 0)).set 12 (.int .i64 0))
  have e : ∀ (k : Nat), k ≠ pu → (((((((((((((W.setCell ⟨pu, 0, none⟩ (.string ⟨#[]⟩)).setCell ⟨pu, 1, none⟩ (.int .i64 0)).setCell ⟨pu, 2, none⟩ (.int .i64 0)).setCell ⟨pu, 3, none⟩ (.int .i64 0)).setCell ⟨pu, 4, none⟩ (.string ⟨#[]⟩)).setCell ⟨pu, 5, none⟩ (.slice none 0 0)).setCell ⟨pu, 6, none⟩ (.int .i64 0)).setCell ⟨pu, 7, none⟩ (.string ⟨#[]⟩)).setCell ⟨pu, 8, none⟩ (.slice none 0 0)).setCell ⟨pu, 9, none⟩ (.int .i64 0)).setCell ⟨pu, 10, none⟩ (.slice none 0 0)).setCell ⟨pu, 11, none⟩ (.slice none 0 0)).setCell ⟨pu, 12, none⟩ (.int .i64 0)).heap[k]? = W.heap[k]? := fun k hk => (Below.heap_setCell _ ⟨pu, 12, none⟩ _ k hk).trans ((Below.heap_setCell _ ⟨pu, 11, none⟩ _ k hk).trans ((Below.heap_setCell _ ⟨pu, 10, none⟩ _ k hk).trans ((Below.heap_setCell _ ⟨pu, 9, none⟩ _ k hk).trans ((Below.heap_setCell _ ⟨pu, 8, none⟩ _ k hk).trans ((Below.heap_setCell _ ⟨pu, 7, none⟩ _ k hk).trans ((Below.heap_setCell _ ⟨pu, 6, none⟩ _ k hk).trans ((Below.heap_setCell _ ⟨pu, 5, none⟩ _ k hk).trans ((Below.heap_setCell _ ⟨pu, 4, none⟩ _ k hk).trans ((Below.heap_setCell _ ⟨pu, 3, none⟩ _ k hk).trans ((Below.heap_setCell _ ⟨pu, 2, none⟩ _ k hk).trans ((Below.heap_setCell _ ⟨pu, 1, none⟩ _ k hk).trans (Below.heap_setCell _ ⟨pu, 0, none⟩ _ k hk))))))))))))
  obtain ⟨X, hX⟩ : ∃ X, (((((((((((((W.setCell ⟨pu, 0, none⟩ (.string ⟨#[]⟩)).setCell ⟨pu, 1, none⟩ (.int .i64 0)).setCell ⟨pu, 2, none⟩ (.int .i64 0)).setCell ⟨pu, 3, none⟩ (.int .i64 0)).setCell ⟨pu, 4, none⟩ (.string ⟨#[]⟩)).setCell ⟨pu, 5, none⟩ (.slice none 0 0)).setCell ⟨pu, 6, none⟩ (.int .i64 0)).setCell ⟨pu, 7, none⟩ (.string ⟨#[]⟩)).setCell ⟨pu, 8, none⟩ (.slice none 0 0)).setCell ⟨pu, 9, none⟩ (.int .i64 0)).setCell ⟨pu, 10, none⟩ (.slice none 0 0)).setCell ⟨pu, 11, none⟩ (.slice none 0 0)).setCell ⟨pu, 12, none⟩ (.int .i64 0)) = X := ⟨_, rfl⟩
  have hsz : X.heap.size = W.heap.size := by rw [← hX]; simp [World.setCell]
  have hbX : ∀ B, B ≤ pu → B ≤ w.heap.size → Below B w X := by
    intro B hB1 hB2
    have hbW : Below B w W := by rw [← hW]; exact (Below.refl _ _).alloc hB2 _
    rw [← hX]
    exact (((((((((((((hbW.setCell hB1 (.string ⟨#[]⟩)).setCell hB1 (.int .i64 0)).setCell hB1 (.int .i64 0)).setCell hB1 (.int .i64 0)).setCell hB1 (.string ⟨#[]⟩)).setCell hB1 (.slice none 0 0)).setCell hB1 (.int .i64 0)).setCell hB1 (.string ⟨#[]⟩)).setCell hB1 (.slice none 0 0)).setCell hB1 (.int .i64 0)).setCell hB1 (.slice none 0 0)).setCell hB1 (.slice none 0 0)).setCell hB1 (.int .i64 0))
  rw [hX] at hrow2 e ⊢
  have hpX := (e pp (Ne.symm h12)).trans hp
  have hbX2 := (e pb (Ne.symm h13)).trans hb
  have herr : X.heap[w.heap.size]? = some (.cells #[.int .i64 b, .int .i64 c] 96 (0, 0)) := (e _ (by omega)).trans (by rw [← hW]; exact heap_alloc_new _ _)
  have q1 := row_other (r := pp) (i := 0) hbX2 (Ne.symm h23) (.slice none 0 0)
  have q2 := row_other (r := pp) (i := 0) herr (by omega) (.slice none 0 0)
  obtain ⟨cs, r1, r2⟩ := hrow2
  have q3 := row_other (r := pp) (i := 0) r1 h12 (.slice none 0 0)
  have q4 : (X.setCell ⟨pp, 0, none⟩ (.slice none 0 0)).heap[pp]? = some (.cells #[.slice none 0 0] 35 (0, 0)) := by
    simp only [World.setCell, Array.getElem?_modify, hpX]
    rfl
  have s1 := row_other (r := pb) (i := 0) q2 (by omega) (.pointer (some ⟨w.heap.size, 0, none⟩))
  have s2 := row_other (r := pb) (i := 0) q3 h13 (.pointer (some ⟨w.heap.size, 0, none⟩))
  have s3 := row_other (r := pb) (i := 0) q4 h23 (.pointer (some ⟨w.heap.size, 0, none⟩))
  have s4 : ((X.setCell ⟨pp, 0, none⟩ (.slice none 0 0)).setCell ⟨pb, 0, none⟩ (.pointer (some ⟨w.heap.size, 0, none⟩))).heap[pb]? = some (.cells #[.pointer (some ⟨w.heap.size, 0, none⟩)] 92 (0, 0)) := by
    rw [World.setCell]
    simp only [Array.getElem?_modify, q1]
    rfl
  exact ⟨⟨cs, s2, r2⟩, (row1 s3).1, (row1 s4).1, s1, fun B h1 h2 h3 h4 => ((hbX B h1 h4).setCell h2 _).setCell h3 _⟩
set_option maxHeartbeats 4000000 in
/-- The deferred closure, where the reading panicked. -/
theorem catch_bad (pu pp pb : Nat) (b : Nat) (c : Int) (older : List PanicEntry) (w : World) (hrow : RowV 43 w pu (ru0 ⟨#[]⟩ 0 0)) (hp : w.heap[pp]? = some (.cells #[.slice none 0 0] 35 (0, 0))) (hb : w.heap[pb]? = some (.cells #[.pointer none] 92 (0, 0))) (h12 : pu ≠ pp) (h13 : pu ≠ pb) (h23 : pp ≠ pb) :
    CallsD Tryz.prog 95 #[.pointer (some ⟨pu, 0, none⟩), .pointer (some ⟨pp, 0, none⟩), .pointer (some ⟨pb, 0, none⟩)] (.panicking ({ v := .iface 96 (.agg #[.int .i64 b, .int .i64 c]), recovered := false } :: older)) w fun e u' w' =>
      e = .returned (.tuple #[]) ∧ u' = .panicking ({ v := .iface 96 (.agg #[.int .i64 b, .int .i64 c]), recovered := true } :: older) ∧ Caught w pu pp pb b c w' := by
  have hu := hrow.lt
  have hpl := blk_lt hp
  have hbl := blk_lt hb
  refine callsD_of_wpS Tryz.func95 rfl fun c₀ cs hmode => ?_
  change Code.wpS _ _ _ { tmps := #[.pointer (some ⟨pu, 0, none⟩), .pointer (some ⟨pp, 0, none⟩), .pointer (some ⟨pb, 0, none⟩), undef, undef, undef, undef, undef, undef, undef, undef, undef], defers := [] } _ _
  apply wpS_seq
  apply wpS_region
  have hta : ∀ V : World, (Instr.typeAssert (.iface 96 (.agg #[.int .i64 b, .int .i64 c])) 20 96 true).run Tryz.prog V = .ok (.tuple #[.agg #[.int .i64 b, .int .i64 c], .bool true]) V := fun V => by kernel_rfl
  simp [wpOpsS, go_sem, recoverD, hmode, hta, Exit.thenS]
  obtain ⟨W, hW⟩ : ∃ W, w.alloc (.cells #[.int .i64 b, .int .i64 c] 96) = W := ⟨_, rfl⟩
  have hbW : Below w.heap.size w W := by rw [← hW]; exact ext_alloc (Below.refl _ _) _
  have hrowW := hrow.later hbW
  have hpW := (hbW.block pp hpl).trans hp
  have hbbW := (hbW.block pb hbl).trans hb
  have hdone := hide (caught (b := b) (c := c) hrowW hW hpW hbbW h12 h13 h23 hu hpl hbl)
  obtain ⟨h, hh⟩ : ∃ h, w.heap.size = h := ⟨_, rfl⟩
  have hlt := hrowW.lt
  have c0 := hrowW.get (j := 0) rfl
  have c1 := hrowW.get (j := 1) rfl
  have c2 := hrowW.get (j := 2) rfl
  have c3 := hrowW.get (j := 3) rfl
  have c4 := hrowW.get (j := 4) rfl
  have c5 := hrowW.get (j := 5) rfl
  have c6 := hrowW.get (j := 6) rfl
  have c7 := hrowW.get (j := 7) rfl
  have c8 := hrowW.get (j := 8) rfl
  have c9 := hrowW.get (j := 9) rfl
  have c10 := hrowW.get (j := 10) rfl
  have c11 := hrowW.get (j := 11) rfl
  have c12 := hrowW.get (j := 12) rfl
  have hfz := hrowW.free
  have f0 := hfz 0
  have f1 := hfz 1
  have f2 := hfz 2
  have f3 := hfz 3
  have f4 := hfz 4
  have f5 := hfz 5
  have f6 := hfz 6
  have f7 := hfz 7
  have f8 := hfz 8
  have f9 := hfz 9
  have f10 := hfz 10
  have f11 := hfz 11
  have f12 := hfz 12
  obtain ⟨d0, d1, d2⟩ := row1 hpW
  obtain ⟨e0, e1, e2⟩ := row1 hbbW
  rw [hW, hh]
  rw [hh] at hdone
  replace hW := hide hW
  clear hfz hrowW hpW hbbW hbW hrow hp hb hta hu hpl hbl
  refine wpS_of_wp ?_
  go_wp2
  clear c0 c1 c2 c3 c4 c5 c6 c7 c8 c9 c10 c11 c12 f0 f1 f2 f3 f4 f5 f6 f7 f8 f9 f10 f11 f12 d0 d1 d2 e0 e1 e2 hlt hW hh
  generalize World.setCell _ _ _ = X at hdone ⊢
  simp [bodyPostS, results, Tryz.results95]
  exact hdone.out
set_option maxHeartbeats 4000000 in
/-- The deferred closure, where the reading returned. -/
theorem catch_none (p q s : Addr) (w : World) :
    CallsD Tryz.prog 95 #[.pointer (some p), .pointer (some q), .pointer (some s)] .returning w fun e u' w' => e = .returned (.tuple #[]) ∧ u' = .returning ∧ w' = w.alloc (.cells #[.int .i64 0, .int .i64 0] 96) := by
  refine callsD_of_wpS Tryz.func95 rfl fun c₀ cs hmode => ?_
  change Code.wpS _ _ _ { tmps := #[.pointer (some p), .pointer (some q), .pointer (some s), undef, undef, undef, undef, undef, undef, undef, undef, undef], defers := [] } _ _
  apply wpS_seq
  apply wpS_region
  have hta : ∀ V : World, (Instr.typeAssert .nilIface 20 96 true).run Tryz.prog V = .ok (.tuple #[.agg #[.int .i64 0, .int .i64 0], .bool false]) V := fun V => by kernel_rfl
  simp [wpOpsS, go_sem, recoverD, hmode, hta, Exit.thenS]
  refine wpS_of_wp ?_
  go_wp2
  generalize World.alloc _ _ = X
  cases c₀
  simp_all [bodyPostS, results, Tryz.results95]
/-- A rule's cells are written whole. -/
theorem wrote13 {V : World} {pu : Nat} {n' n : ByteArray} {wt' k' wt k : Nat} {f0' f0 : Int} {f1' f1 : ByteArray} {f2' f2 : Value} {s0' s0 : Int} {s1' s1 : ByteArray} {s2' s2 : Value} {m' m : Nat} (hrow : RowV 43 V pu (ruleL n' wt' k' f0' f1' f2' s0' s1' s2' m')) :
    RowV 43 (((((((((((((V.setCell ⟨pu, 0, none⟩ (.string n)).setCell ⟨pu, 1, none⟩ (.int .i64 (wt : Int))).setCell ⟨pu, 2, none⟩ (.int .i64 (k : Int))).setCell ⟨pu, 3, none⟩ (.int .i64 f0)).setCell ⟨pu, 4, none⟩ (.string f1)).setCell ⟨pu, 5, none⟩ f2).setCell ⟨pu, 6, none⟩ (.int .i64 s0)).setCell ⟨pu, 7, none⟩ (.string s1)).setCell ⟨pu, 8, none⟩ s2).setCell ⟨pu, 9, none⟩ (.int .i64 (m : Int))).setCell ⟨pu, 10, none⟩ (.slice none 0 0)).setCell ⟨pu, 11, none⟩ (.slice none 0 0)).setCell ⟨pu, 12, none⟩ (.int .i64 0)) pu (ruleL n wt k f0 f1 f2 s0 s1 s2 m) ∧ (∀ z, z ≠ pu → (((((((((((((V.setCell ⟨pu, 0, none⟩ (.string n)).setCell ⟨pu, 1, none⟩ (.int .i64 (wt : Int))).setCell ⟨pu, 2, none⟩ (.int .i64 (k : Int))).setCell ⟨pu, 3, none⟩ (.int .i64 f0)).setCell ⟨pu, 4, none⟩ (.string f1)).setCell ⟨pu, 5, none⟩ f2).setCell ⟨pu, 6, none⟩ (.int .i64 s0)).setCell ⟨pu, 7, none⟩ (.string s1)).setCell ⟨pu, 8, none⟩ s2).setCell ⟨pu, 9, none⟩ (.int .i64 (m : Int))).setCell ⟨pu, 10, none⟩ (.slice none 0 0)).setCell ⟨pu, 11, none⟩ (.slice none 0 0)).setCell ⟨pu, 12, none⟩ (.int .i64 0)).heap[z]? = V.heap[z]?) ∧ (∀ B, B ≤ pu → Below B V (((((((((((((V.setCell ⟨pu, 0, none⟩ (.string n)).setCell ⟨pu, 1, none⟩ (.int .i64 (wt : Int))).setCell ⟨pu, 2, none⟩ (.int .i64 (k : Int))).setCell ⟨pu, 3, none⟩ (.int .i64 f0)).setCell ⟨pu, 4, none⟩ (.string f1)).setCell ⟨pu, 5, none⟩ f2).setCell ⟨pu, 6, none⟩ (.int .i64 s0)).setCell ⟨pu, 7, none⟩ (.string s1)).setCell ⟨pu, 8, none⟩ s2).setCell ⟨pu, 9, none⟩ (.int .i64 (m : Int))).setCell ⟨pu, 10, none⟩ (.slice none 0 0)).setCell ⟨pu, 11, none⟩ (.slice none 0 0)).setCell ⟨pu, 12, none⟩ (.int .i64 0))) ∧ (((((((((((((V.setCell ⟨pu, 0, none⟩ (.string n)).setCell ⟨pu, 1, none⟩ (.int .i64 (wt : Int))).setCell ⟨pu, 2, none⟩ (.int .i64 (k : Int))).setCell ⟨pu, 3, none⟩ (.int .i64 f0)).setCell ⟨pu, 4, none⟩ (.string f1)).setCell ⟨pu, 5, none⟩ f2).setCell ⟨pu, 6, none⟩ (.int .i64 s0)).setCell ⟨pu, 7, none⟩ (.string s1)).setCell ⟨pu, 8, none⟩ s2).setCell ⟨pu, 9, none⟩ (.int .i64 (m : Int))).setCell ⟨pu, 10, none⟩ (.slice none 0 0)).setCell ⟨pu, 11, none⟩ (.slice none 0 0)).setCell ⟨pu, 12, none⟩ (.int .i64 0)).heap.size = V.heap.size :=
  ⟨(((((((((((((hrow.set 0 (.string n)).set 1 (.int .i64 (wt : Int))).set 2 (.int .i64 (k : Int))).set 3 (.int .i64 f0)).set 4 (.string f1)).set 5 f2).set 6 (.int .i64 s0)).set 7 (.string s1)).set 8 s2).set 9 (.int .i64 (m : Int))).set 10 (.slice none 0 0)).set 11 (.slice none 0 0)).set 12 (.int .i64 0)), fun z hk => (Below.heap_setCell _ ⟨pu, 12, none⟩ _ z hk).trans ((Below.heap_setCell _ ⟨pu, 11, none⟩ _ z hk).trans ((Below.heap_setCell _ ⟨pu, 10, none⟩ _ z hk).trans ((Below.heap_setCell _ ⟨pu, 9, none⟩ _ z hk).trans ((Below.heap_setCell _ ⟨pu, 8, none⟩ _ z hk).trans ((Below.heap_setCell _ ⟨pu, 7, none⟩ _ z hk).trans ((Below.heap_setCell _ ⟨pu, 6, none⟩ _ z hk).trans ((Below.heap_setCell _ ⟨pu, 5, none⟩ _ z hk).trans ((Below.heap_setCell _ ⟨pu, 4, none⟩ _ z hk).trans ((Below.heap_setCell _ ⟨pu, 3, none⟩ _ z hk).trans ((Below.heap_setCell _ ⟨pu, 2, none⟩ _ z hk).trans ((Below.heap_setCell _ ⟨pu, 1, none⟩ _ z hk).trans (Below.heap_setCell _ ⟨pu, 0, none⟩ _ z hk)))))))))))), fun B hB1 => ((((((((((((((Below.refl B V).setCell hB1 (.string n)).setCell hB1 (.int .i64 (wt : Int))).setCell hB1 (.int .i64 (k : Int))).setCell hB1 (.int .i64 f0)).setCell hB1 (.string f1)).setCell hB1 f2).setCell hB1 (.int .i64 s0)).setCell hB1 (.string s1)).setCell hB1 s2).setCell hB1 (.int .i64 (m : Int))).setCell hB1 (.slice none 0 0)).setCell hB1 (.slice none 0 0)).setCell hB1 (.int .i64 0)), by simp [World.setCell]⟩
theorem wrote1 {V : World} {p : Nat} {x y : Value} {ty : TypeId} (h : V.heap[p]? = some (.cells #[x] ty (0, 0))) : (V.setCell ⟨p, 0, none⟩ y).heap[p]? = some (.cells #[y] ty (0, 0)) := by
  simp only [World.setCell, Array.getElem?_modify, h]
  rfl
/-- What reading a line does: the rule, or the first error in a new block. -/
def ReadG (r : Res RuleT) (g : Nat) (w : World) (en : Ending) (w' : World) : Prop :=
  Only g w w' ∧ match r with
    | .error y => ∃ h, en = .returned (.tuple #[ruleV ⟨#[]⟩ 0 0 0 ⟨#[]⟩ (.slice none 0 0) 0 ⟨#[]⟩ (.slice none 0 0) 0, .slice none 0 0, .pointer (some ⟨h, 0, none⟩)]) ∧ w.heap.size ≤ h ∧ w'.heap[h]? = some (.cells #[.int .i64 y.1, .int .i64 y.2] 96 (0, 0))
    | .ok (u, _) => ∃ v1 v2, vRule w w' u (.tuple #[v1, v2]) ∧ en = .returned (.tuple #[v1, v2, .pointer none])
theorem only_low {g : Nat} {a b c : World} (h : Only g a b) (k : Below a.heap.size b c) : Only g a c :=
  ⟨k.os.trans h.os, k.tape.trans h.tape, k.output.trans h.output, Nat.le_trans h.size k.size, fun i hi hne => (k.block i hi).trans (h.block i hi hne)⟩
set_option maxHeartbeats 4000000 in
theorem read_walk (g : Nat) (t : ByteArray) (e a : Nat) (w w0 : World) (hS : Std w0) (hbw : Below w0.heap.size w0 w) (hg0 : w0.heap.size ≤ g) (h : PsAt w g t e a) (ha : a ≤ t.size) (hs : t.size < 1073741824) :
    Calls Tryz.prog 53 #[.pointer (some ⟨g, 0, none⟩)] w fun en w' => ReadG (ruleP gramT t e (t.size + 1) a) g w en w' := by
  have hmf : ∀ (fn : Fn) (first cap : Array Value) (w : World), (Instr.makeFunc fn first cap).run Tryz.prog w = .ok (.func fn first cap) w := fun _ _ _ _ => rfl
  obtain ⟨pu, hpu⟩ : ∃ pu, w.heap.size = pu := ⟨_, rfl⟩
  obtain ⟨W, hW⟩ : ∃ W, ((w.alloc (.cells #[.string ⟨#[]⟩, .int .i64 0, .int .i64 0, .int .i64 0, .string ⟨#[]⟩, .slice none 0 0, .int .i64 0, .string ⟨#[]⟩, .slice none 0 0, .int .i64 0, .slice none 0 0, .slice none 0 0, .int .i64 0] 43)).alloc (.cells #[.slice none 0 0] 35)).alloc (.cells #[.pointer none] 92) = W := ⟨_, rfl⟩
  have hb1 : Below w.heap.size w W := by rw [← hW]; exact (by repeat (first | exact Below.refl _ _ | refine ext_alloc ?_ _ | refine ext_drewN ?_ _ | refine ext_drew ?_ | refine ext_trans ?_ (by assumption)))
  have h1 := h.later hb1
  have hgl := blk_lt h
  have hrl := rule_walk (t.size + 1) g t e a W w0 hS (Below.trans hbw (hb1.mono hbw.size)) hg0 h1 ha hs (by omega)
  clear h
  have hrowW : RowV 43 W pu (ru0 ⟨#[]⟩ 0 0) := ⟨_, by rw [← hW, ← hpu]; exact (Below.heap_alloc _ _ _ (by simp only [World.size_alloc]; omega)).trans ((Below.heap_alloc _ _ _ (by simp only [World.size_alloc]; omega)).trans (heap_alloc_new _ _)), rfl⟩
  have hpW : W.heap[pu + 1]? = some (.cells #[.slice none 0 0] 35 (0, 0)) := by
    rw [← hW, ← hpu]
    refine (Below.heap_alloc _ _ _ (by simp only [World.size_alloc]; omega)).trans ?_
    have := heap_alloc_new (w.alloc (.cells #[.string ⟨#[]⟩, .int .i64 0, .int .i64 0, .int .i64 0, .string ⟨#[]⟩, .slice none 0 0, .int .i64 0, .string ⟨#[]⟩, .slice none 0 0, .int .i64 0, .slice none 0 0, .slice none 0 0, .int .i64 0] 43)) (.cells #[.slice none 0 0] 35)
    rw [World.size_alloc] at this
    exact this
  have hbW : W.heap[pu + 1 + 1]? = some (.cells #[.pointer none] 92 (0, 0)) := by
    rw [← hW, ← hpu]
    have := heap_alloc_new ((w.alloc (.cells #[.string ⟨#[]⟩, .int .i64 0, .int .i64 0, .int .i64 0, .string ⟨#[]⟩, .slice none 0 0, .int .i64 0, .string ⟨#[]⟩, .slice none 0 0, .int .i64 0, .slice none 0 0, .slice none 0 0, .int .i64 0] 43)).alloc (.cells #[.slice none 0 0] 35)) (.cells #[.pointer none] 92)
    rw [World.size_alloc, World.size_alloc] at this
    exact this
  have hsW : W.heap.size = pu + 3 := by rw [← hW]; simp only [World.size_alloc]; omega
  obtain ⟨pp, hpp⟩ : ∃ pp, pu + 1 = pp := ⟨_, rfl⟩
  rw [hpp] at hpW hbW
  obtain ⟨pb, hpb⟩ : ∃ pb, pp + 1 = pb := ⟨_, rfl⟩
  rw [hpb] at hbW
  go_enter_defers Tryz.func53, Tryz.ntmps53
  go_wp2_with fail
  refine hrl.mono ?_
  rintro en w1 ⟨ho1, hm⟩
  clear hrl
  have hrow1 := hrowW.only ho1 (by omega)
  have hp1 := (ho1.block _ (blk_lt hpW) (by intro e; injection e with e; omega)).trans hpW
  have hb2 := (ho1.block _ (blk_lt hbW) (by intro e; injection e with e; omega)).trans hbW
  have ho2 : Only g w w1 := (only_of_below hb1 _).trans ho1
  cases hp : ruleP gramT t e (t.size + 1) a with
  | error y =>
    obtain ⟨b, c⟩ := y
    rw [hp] at hm
    obtain rfl := hm
    have hcb := catch_bad pu pp pb b c [] w1 hrow1 hp1 hb2 (by omega) (by omega) (by omega)
    go_wp2
    refine leaves_cons (f := 95) (args := #[.pointer (some ⟨pu, 0, none⟩), .pointer (some ⟨pp, 0, none⟩), .pointer (some ⟨pb, 0, none⟩)]) (by simp) (by simp [go_sem]) ?_
    refine hcb.mono ?_
    rintro e u' w2 ⟨rfl, rfl, hC⟩
    have q1 := hC.parts
    have q2 := hC.bad
    have c0 := hC.row.get (j := 0) rfl
    have c1 := hC.row.get (j := 1) rfl
    have c2 := hC.row.get (j := 2) rfl
    have c3 := hC.row.get (j := 3) rfl
    have c4 := hC.row.get (j := 4) rfl
    have c5 := hC.row.get (j := 5) rfl
    have c6 := hC.row.get (j := 6) rfl
    have c7 := hC.row.get (j := 7) rfl
    have c8 := hC.row.get (j := 8) rfl
    have c9 := hC.row.get (j := 9) rfl
    have c10 := hC.row.get (j := 10) rfl
    have c11 := hC.row.get (j := 11) rfl
    have c12 := hC.row.get (j := 12) rfl
    simp [Leaves, settle, results, Tryz.results53, go_sem, c0, c1, c2, c3, c4, c5, c6, c7, c8, c9, c10, c11, c12, q1, q2]
    exact ⟨only_low ho2 (hC.below _ (by omega) (by omega) (by omega) ho2.size), by rw [hp]; exact ⟨w1.heap.size, rfl, ho2.size, hC.err⟩⟩
  | ok z =>
    obtain ⟨u, b⟩ := z
    rw [hp] at hm
    obtain ⟨h2, hbl, v, ⟨f0, f1, fA, fl, fc, s0, s1, sA, sl, sc, A, c, rfl, hr1, hr2, hcap, hAt⟩, rfl⟩ := hm
    obtain ⟨nm, wt, kd, n, sa, sb, parts⟩ := u
    obtain ⟨x1, x2, x3, x4⟩ := wrote13 (n := nm) (wt := wt) (k := kd) (f0 := f0) (f1 := f1) (f2 := .slice fA fl fc) (s0 := s0) (s1 := s1) (s2 := .slice sA sl sc) (m := n) hrow1
    have hl1 := hrow1.lt
    have c0 := hrow1.get (j := 0) rfl
    have c1 := hrow1.get (j := 1) rfl
    have c2 := hrow1.get (j := 2) rfl
    have c3 := hrow1.get (j := 3) rfl
    have c4 := hrow1.get (j := 4) rfl
    have c5 := hrow1.get (j := 5) rfl
    have c6 := hrow1.get (j := 6) rfl
    have c7 := hrow1.get (j := 7) rfl
    have c8 := hrow1.get (j := 8) rfl
    have c9 := hrow1.get (j := 9) rfl
    have c10 := hrow1.get (j := 10) rfl
    have c11 := hrow1.get (j := 11) rfl
    have c12 := hrow1.get (j := 12) rfl
    have hfz := hrow1.free
    have g0 := hfz 0
    have g1 := hfz 1
    have g2 := hfz 2
    have g3 := hfz 3
    have g4 := hfz 4
    have g5 := hfz 5
    have g6 := hfz 6
    have g7 := hfz 7
    have g8 := hfz 8
    have g9 := hfz 9
    have g10 := hfz 10
    have g11 := hfz 11
    have g12 := hfz 12
    obtain ⟨d0, d1, d2⟩ := row1 hp1
    dsimp only at hcap hAt hr1 hr2 ⊢
    unfold ruleV
    clear hfz
    go_upto_region 3 with fail
    clear c0 c1 c2 c3 c4 c5 c6 c7 c8 c9 c10 c11 c12 g0 g1 g2 g3 g4 g5 g6 g7 g8 g9 g10 g11 g12 d0 d1 d2 hrow1 hl1
    generalize hX : (((((((((((((w1.setCell ⟨pu, 0, none⟩ (Value.string nm)).setCell ⟨pu, 1, none⟩ (Value.int .i64 (wt : Int))).setCell ⟨pu, 2, none⟩ (Value.int .i64 (kd : Int))).setCell ⟨pu, 3, none⟩ (Value.int .i64 f0)).setCell ⟨pu, 4, none⟩ (Value.string f1)).setCell ⟨pu, 5, none⟩ (Value.slice fA fl fc)).setCell ⟨pu, 6, none⟩ (Value.int .i64 s0)).setCell ⟨pu, 7, none⟩ (Value.string s1)).setCell ⟨pu, 8, none⟩ (Value.slice sA sl sc)).setCell ⟨pu, 9, none⟩ (Value.int .i64 (n : Int))).setCell ⟨pu, 10, none⟩ (Value.slice none 0 0)).setCell ⟨pu, 11, none⟩ (Value.slice none 0 0)).setCell ⟨pu, 12, none⟩ (Value.int .i64 0)) = X at x1 x2 x3 x4 ⊢
    have hpX := (x2 pp (by omega)).trans hp1
    have hbX := (x2 pb (by omega)).trans hb2
    have y1 := wrote1 (y := .slice A parts.length c) hpX
    have y2 := row_other (r := pp) (i := 0) hbX (by omega) (.slice A parts.length c)
    obtain ⟨cs, y3, y4⟩ := x1
    have y3 := row_other (r := pp) (i := 0) y3 (by omega) (.slice A parts.length c)
    have y5 : Below w.heap.size w1 (X.setCell ⟨pp, 0, none⟩ (.slice A parts.length c)) := (x3 w.heap.size (by omega)).setCell (by show w.heap.size ≤ pp; omega) _
    have y6 : ∀ k, k ≠ pu → k ≠ pp → (X.setCell ⟨pp, 0, none⟩ (.slice A parts.length c)).heap[k]? = w1.heap[k]? := fun k h1 h2 => (Below.heap_setCell _ ⟨pp, 0, none⟩ _ k h2).trans (x2 k h1)
    have y7 : (X.setCell ⟨pp, 0, none⟩ (.slice A parts.length c)).heap.size = w1.heap.size := by rw [← x4]; simp [World.setCell]
    clear x2 x3 x4 hpX hbX hX
    generalize X.setCell ⟨pp, 0, none⟩ (Value.slice A parts.length c) = Y at y1 y2 y3 y5 y6 y7 ⊢
    have z1 : RowV 43 Y pu (ruleL nm wt kd f0 f1 (.slice fA fl fc) s0 s1 (.slice sA sl sc) n) := ⟨cs, y3, y4⟩
    have hl1 := z1.lt
    have c0 := z1.get (j := 0) rfl
    have c1 := z1.get (j := 1) rfl
    have c2 := z1.get (j := 2) rfl
    have c3 := z1.get (j := 3) rfl
    have c4 := z1.get (j := 4) rfl
    have c5 := z1.get (j := 5) rfl
    have c6 := z1.get (j := 6) rfl
    have c7 := z1.get (j := 7) rfl
    have c8 := z1.get (j := 8) rfl
    have c9 := z1.get (j := 9) rfl
    have c10 := z1.get (j := 10) rfl
    have c11 := z1.get (j := 11) rfl
    have c12 := z1.get (j := 12) rfl
    have hfz := z1.free
    have g0 := hfz 0
    have g1 := hfz 1
    have g2 := hfz 2
    have g3 := hfz 3
    have g4 := hfz 4
    have g5 := hfz 5
    have g6 := hfz 6
    have g7 := hfz 7
    have g8 := hfz 8
    have g9 := hfz 9
    have g10 := hfz 10
    have g11 := hfz 11
    have g12 := hfz 12
    obtain ⟨d0, d1, d2⟩ := row1 y1
    obtain ⟨e0, e1, e2⟩ := row1 y2
    have hne1 : pu ≠ pp := by omega
    have hne2 : pu ≠ pb := by omega
    have hne3 : pp ≠ pb := by omega
    clear hfz y3 y4
    obtain ⟨x1, x2, x3, x4⟩ := wrote13 (n := nm) (wt := wt) (k := kd) (f0 := f0) (f1 := f1) (f2 := .slice fA fl fc) (s0 := s0) (s1 := s1) (s2 := .slice sA sl sc) (m := n) z1
    go_region
    clear c0 c1 c2 c3 c4 c5 c6 c7 c8 c9 c10 c11 c12 g0 g1 g2 g3 g4 g5 g6 g7 g8 g9 g10 g11 g12 d0 d1 d2 e0 e1 e2 hl1 z1
    generalize hX : (((((((((((((Y.setCell ⟨pu, 0, none⟩ (Value.string nm)).setCell ⟨pu, 1, none⟩ (Value.int .i64 (wt : Int))).setCell ⟨pu, 2, none⟩ (Value.int .i64 (kd : Int))).setCell ⟨pu, 3, none⟩ (Value.int .i64 f0)).setCell ⟨pu, 4, none⟩ (Value.string f1)).setCell ⟨pu, 5, none⟩ (Value.slice fA fl fc)).setCell ⟨pu, 6, none⟩ (Value.int .i64 s0)).setCell ⟨pu, 7, none⟩ (Value.string s1)).setCell ⟨pu, 8, none⟩ (Value.slice sA sl sc)).setCell ⟨pu, 9, none⟩ (Value.int .i64 (n : Int))).setCell ⟨pu, 10, none⟩ (Value.slice none 0 0)).setCell ⟨pu, 11, none⟩ (Value.slice none 0 0)).setCell ⟨pu, 12, none⟩ (Value.int .i64 0)) = X at x1 x2 x3 x4 ⊢
    have hpX := (x2 pp (by omega)).trans y1
    have hbX := (x2 pb (by omega)).trans y2
    have q1 := wrote1 (y := .slice A parts.length c) hpX
    have q2 := row_other (r := pp) (i := 0) hbX (by omega) (.slice A parts.length c)
    obtain ⟨cs, r1, r2⟩ := x1
    have q3 := row_other (r := pb) (i := 0) (row_other (r := pp) (i := 0) r1 (by omega) (.slice A parts.length c)) (by omega) (.pointer none)
    have q4 := row_other (r := pb) (i := 0) q1 (by omega) (.pointer none)
    have q5 := wrote1 (y := .pointer none) q2
    have q6 : Below w.heap.size Y ((X.setCell ⟨pp, 0, none⟩ (.slice A parts.length c)).setCell ⟨pb, 0, none⟩ (.pointer none)) := ((x3 w.heap.size (by omega)).setCell (by show w.heap.size ≤ pp; omega) _).setCell (by show w.heap.size ≤ pb; omega) _
    have q7 : ∀ k, k ≠ pu → k ≠ pp → k ≠ pb → ((X.setCell ⟨pp, 0, none⟩ (.slice A parts.length c)).setCell ⟨pb, 0, none⟩ (.pointer none)).heap[k]? = Y.heap[k]? := fun k h1 h2 h3 => (Below.heap_setCell _ ⟨pb, 0, none⟩ _ k h3).trans ((Below.heap_setCell _ ⟨pp, 0, none⟩ _ k h2).trans (x2 k h1))
    have q8 : ((X.setCell ⟨pp, 0, none⟩ (.slice A parts.length c)).setCell ⟨pb, 0, none⟩ (.pointer none)).heap.size = Y.heap.size := by rw [← x4]; simp [World.setCell]
    clear x2 x3 x4 hpX hbX hX q1 q2 r1 y1 y2
    generalize ((X.setCell ⟨pp, 0, none⟩ (Value.slice A parts.length c)).setCell ⟨pb, 0, none⟩ (Value.pointer none)) = Z at q3 q4 q5 q6 q7 q8 ⊢
    have hdz : Below Z.heap.size Z (Z.drew.alloc (.cells #[.int .i64 0, .int .i64 0] 96)) := ext_alloc (ext_drew (Below.refl _ _)) _
    have hrowZ : RowV 43 Z pu (ruleL nm wt kd f0 f1 (.slice fA fl fc) s0 s1 (.slice sA sl sc) n) := ⟨cs, q3, r2⟩
    have hrowF := hrowZ.later hdz
    have hpF := (row1 ((hdz.block pp (blk_lt q4)).trans q4)).1
    have hbF := (row1 ((hdz.block pb (blk_lt q5)).trans q5)).1
    have hsame : ∀ k, k < w1.heap.size → k ≠ pu → k ≠ pp → k ≠ pb → (Z.drew.alloc (.cells #[.int .i64 0, .int .i64 0] 96)).heap[k]? = w1.heap[k]? := fun k hk h1 h2 h3 => (hdz.block k (by omega)).trans ((q7 k h1 h2 h3).trans (y6 k h1 h2))
    have hbelow : Below w.heap.size w1 (Z.drew.alloc (.cells #[.int .i64 0, .int .i64 0] 96)) := (y5.trans q6).trans (hdz.mono (by have := y5.size; have := q6.size; have := ho2.size; omega))
    have hszF : w1.heap.size ≤ (Z.drew.alloc (.cells #[.int .i64 0, .int .i64 0] 96)).heap.size := by have := hdz.size; omega
    clear q3 q4 q5 q6 q7 q8 r2 hrowZ hdz y5 y6 y7
    have hcn := catch_none ⟨pu, 0, none⟩ ⟨pp, 0, none⟩ ⟨pb, 0, none⟩ Z.drew
    generalize Z.drew.alloc _ = F at hrowF hpF hbF hsame hbelow hszF hcn
    go_wp2
    refine leaves_cons (f := 95) (args := #[.pointer (some ⟨pu, 0, none⟩), .pointer (some ⟨pp, 0, none⟩), .pointer (some ⟨pb, 0, none⟩)]) (by simp) (by simp [go_sem]) ?_
    refine hcn.mono ?_
    rintro e u' w2 ⟨rfl, rfl, rfl⟩
    have c0 := hrowF.get (j := 0) rfl
    have c1 := hrowF.get (j := 1) rfl
    have c2 := hrowF.get (j := 2) rfl
    have c3 := hrowF.get (j := 3) rfl
    have c4 := hrowF.get (j := 4) rfl
    have c5 := hrowF.get (j := 5) rfl
    have c6 := hrowF.get (j := 6) rfl
    have c7 := hrowF.get (j := 7) rfl
    have c8 := hrowF.get (j := 8) rfl
    have c9 := hrowF.get (j := 9) rfl
    have c10 := hrowF.get (j := 10) rfl
    have c11 := hrowF.get (j := 11) rfl
    have c12 := hrowF.get (j := 12) rfl
    simp [Leaves, settle, results, Tryz.results53, go_sem, c0, c1, c2, c3, c4, c5, c6, c7, c8, c9, c10, c11, c12, hpF, hbF]
    have hkeep : ∀ b, W.heap.size ≤ b → b < w1.heap.size → w.heap.size ≤ b ∧ b < w2.heap.size ∧ w2.heap[b]? = w1.heap[b]? := fun b h1 h2 => ⟨by omega, by omega, hsame b h2 (by omega) (by omega) (by omega)⟩
    refine ⟨only_low ho2 hbelow, by rw [hp]; exact ⟨_, _, ⟨f0, f1, fA, fl, fc, s0, s1, sA, sl, sc, A, c, rfl, kSel.kept hr1 hkeep, kSel.kept hr2 hkeep, hcap, hAt.kept hkeep⟩, rfl⟩⟩
end Go.Proofs.YtdnnahdafhddlaaGreatDoor

namespace Go.Proofs.YtdnnahdafhddlaaGreatDoor
open Go.RowKit
set_option maxRecDepth 100000

/-- A row of its own from block B on; what its elements point to lies from B on too, but apart from the row and from the blocks X. -/
def OwnX {α : Type} (K : Kind α) (t : TypeId) (X : Nat → Prop) (B : Nat) (w : World) (v : Value) (l : List α) : Prop :=
  ∃ vss : List (List Value), vss.length = l.length ∧ w.ownsRow B t K.k v l.length vss.flatten ∧ ∀ (j : Nat) (x : α) (vs : List Value), l[j]? = some x → vss[j]? = some vs → K.rep (fun b => B ≤ b ∧ ¬ X b ∧ some b ≠ v.ownBlock) w x vs
section
variable {α : Type} {K : Kind α} {t : TypeId} {X Y : Nat → Prop} {B : Nat} {w w' : World} {v : Value} {l : List α}
theorem OwnX.nil : OwnX K t X B w (.slice none 0 0) [] := ⟨[], rfl, World.ownsRow_nil _ _ _ _, fun j x vs h => by simp at h⟩
/-- Another row grows: it lies apart from this one, and what it takes anew is taken into X. -/
theorem OwnX.kept {row : Option Nat} (h : OwnX K t X B w v l) (hg : w.grownBy w' row) (h1 : ∀ b, some b = row → b < B ∨ X b) (h2 : v.ownBlock = none ∨ v.ownBlock ≠ row) (h3 : ∀ b, b < w.heap.size → ¬ X b → ¬ Y b) : OwnX K t Y B w' v l := by
  obtain ⟨vss, e1, e2, e3⟩ := h
  refine ⟨vss, e1, e2.kept hg h2, fun j x vs hj hv => K.kept (e3 j x vs hj hv) fun b hs hlt => ⟨⟨hs.1, h3 b hlt hs.2.1, hs.2.2⟩, Nat.lt_of_lt_of_le hlt hg.size, hg.block b hlt fun e => ?_⟩⟩
  rcases h1 b e with h | h
  · have := hs.1; omega
  · exact hs.2.1 h
theorem OwnX.later (h : OwnX K t X B w v l) (hb : Below w.heap.size w w') : OwnX K t X B w' v l :=
  h.kept (row := none) ⟨hb.os, hb.tape, hb.output, hb.size, fun k hk _ => hb.block k hk⟩ (fun _ e => by cases e) (by cases v.ownBlock <;> simp) fun _ _ h => h
theorem OwnX.form (h : OwnX K t X B w v l) : ∃ A c, v = .slice A l.length c := by obtain ⟨vss, -, h, -⟩ := h; exact owns_form h
theorem OwnX.lt (h : OwnX K t X B w v l) : ∀ x, v.ownBlock = some x → B ≤ x ∧ x < w.heap.size := by obtain ⟨vss, -, h, -⟩ := h; exact h.lt
/-- The row as data. -/
theorem OwnX.at (h : OwnX K t X B w v l) : ∃ A c, v = .slice A l.length c ∧ l.length ≤ c ∧ At K (fun b => B ≤ b) w A l := by
  obtain ⟨A, c, rfl⟩ := h.form
  obtain ⟨vss, e1, e2, e3⟩ := h
  have hall : ∀ vs ∈ vss, vs.length = K.k := by
    intro vs hv
    obtain ⟨j, hj⟩ := List.getElem?_of_mem hv
    have hjl := (List.getElem?_eq_some_iff.1 hj).1
    exact K.len (e3 j _ vs (List.getElem?_eq_getElem (by omega)) hj)
  refine ⟨A, c, rfl, ?_, fun hn => ?_⟩
  · rcases e2.2 with ⟨e, h0⟩ | ⟨g, cap, cur, e, -, -, hn, -⟩
    · injection e; omega
    · injection e; omega
  rcases e2.2 with ⟨_, h0⟩ | ⟨g, cap, cur, he, hB, hg, _, _, _, htake⟩
  · omega
  · injection he with he
    subst he
    refine ⟨g, 0, rfl, hB, blk_lt hg, fun j x hx => ?_⟩
    have hjl := (List.getElem?_eq_some_iff.1 hx).1
    have hv : vss[j]? = some (vss[j]'(by omega)) := List.getElem?_eq_getElem (by omega)
    have hr := e3 j x _ hx hv
    refine ⟨_, K.more hr fun b hs => hs.1, fun i u hu => ?_⟩
    have hi : i < K.k := by have := (List.getElem?_eq_some_iff.1 hu).1; rw [K.len hr] at this; exact this
    have := e2.cells (g := g) rfl (j * K.k + i) u ((flatten_at vss hall j i _ hv hi).trans hu)
    rw [show (⟨g, 0, none⟩ : Addr).add (j * K.k + i) = ⟨g, 0 + j * K.k + i, none⟩ from by rw [Addr.add_lit]; simp only [Nat.zero_add]] at this
    exact this
/-- One more is appended. -/
theorem wpList_ownX {P : Program} {t2 : TypeId} {bytes : Nat} {ops : Array Oper} {rest : List Oper} {o : Oper} {a : Act} {Q : Exit → Act → World → Prop} (hgd : o.guard = none) (s x : Operand)
    (ho : o.op = .call { callee := .builtin .append, args := #[s, x], argTypes := #[t2, t2] }) (hA : Apd P t2 t K.k bytes) (hk0 : 0 < K.k) (hs : a.eval s = v) (h : OwnX K t X B w v l)
    (hl : l.length ≤ 4000000000) (hby : bytes ≤ 1000) (ad : Addr) (c : Nat) (hx : a.eval x = .slice (some ad) 1 c) (e : α) (vs : List Value) (hrep : K.rep (fun b => B ≤ b ∧ ¬ X b ∧ some b ≠ v.ownBlock) w e vs) (hnews : ∀ j u, vs[j]? = some u → w.cell? (ad.add j) = some u)
    (hB : B ≤ w.heap.size)
    (hk : ∀ v' w', OwnX K t X B w' v' (l ++ [e]) → w.grownBy w' v.ownBlock → (∃ g cap, v' = .slice (some ⟨g, 0, none⟩) (l.length + 1) cap ∧ (v.ownBlock = some g ∨ g = w.heap.size)) → wpList P ops Q rest (a.put o.dst v') w') : wpList P ops Q (o :: rest) a w := by
  obtain ⟨i, z, hi, hz, h1, h2, h3⟩ := hA.i
  obtain ⟨vss, e1, e2, e3⟩ := h
  refine wpList_append_lies w hgd s x t2 ho B t i z K.k bytes hA.u hi hz h1 h2 h3 hk0 v l.length vss.flatten hs e2 ad 1 c vs hx (by rw [K.len hrep, Nat.one_mul]) hnews (K.one hrep) (by omega) (by unfold maxLen; omega) ?_ hB w.heap.size rfl fun g cap w' hn hg hwh _ => hk _ w' ?_ hg ⟨g, cap, rfl, hwh⟩
  · exact Nat.le_trans (Nat.mul_le_mul (by omega : l.length + 1 ≤ 4000000001) hby) (by decide)
  have hk : ∀ {a : α} {us : List Value}, K.rep (fun b => B ≤ b ∧ ¬ X b ∧ some b ≠ v.ownBlock) w a us → K.rep (fun b => B ≤ b ∧ ¬ X b ∧ some b ≠ (Value.slice (some ⟨g, 0, none⟩) (l.length + 1) cap).ownBlock) w' a us := fun h => K.kept h fun b hb hlt => by
    refine ⟨⟨hb.1, hb.2.1, fun e => ?_⟩, Nat.lt_of_lt_of_le hlt hg.size, hg.block b hlt hb.2.2⟩
    have e : b = g := by simpa [Value.ownBlock] using e
    subst e
    rcases hwh with h4 | h4
    · exact hb.2.2 h4.symm
    · omega
  refine ⟨vss ++ [vs], by simp [e1], ?_, fun j y us hj hv => ?_⟩
  · rw [show (vss ++ [vs]).flatten = vss.flatten ++ vs from by simp, show (l ++ [e]).length = l.length + 1 from by simp]
    exact hn
  · rcases Nat.lt_or_ge j l.length with hlt | hge
    · rw [List.getElem?_append_left hlt] at hj
      rw [List.getElem?_append_left (by omega)] at hv
      exact hk (e3 j y us hj hv)
    · rw [List.getElem?_append_right hge] at hj
      rw [List.getElem?_append_right (by omega)] at hv
      have hj0 : j - l.length = 0 := by
        have := (List.getElem?_eq_some_iff.1 hj).1
        simp at this; omega
      rw [hj0] at hj
      rw [e1, hj0] at hv
      simp at hj hv
      subst hj hv
      exact hk hrep
end
end Go.Proofs.YtdnnahdafhddlaaGreatDoor
