/- Walks of stafffile.Lines, stafffile.Read, and the check at the head of law 09. Conditions: texts shorter than 2^30 bytes. -/
import Derived.Test.YtgbkochjoaalhaaGreatDoorRecs
namespace Go.Proofs.YtgbkochjoaalhaaGreatDoor
open Go.RowKit
set_option maxRecDepth 100000

/-- What Read returns. -/
def staffRead (d sl b m n : Int) (rs : List Rec) : List Lect × List Prob :=
  if weekB d sl b m n then ((readRecs d sl b m n rs).ls, (readRecs d sl b m n rs).ps) else ([], [(0, 0, 1)])
def LinesGives (d sl b m n : Int) (rs : List Rec) (w : World) (e : Ending) (w' : World) : Prop :=
  ∃ v6 v7 v8, e = .returned (.tuple #[v6, v7, v8]) ∧ LectsOwn w.heap.size w' v6 (staffRead d sl b m n rs).1 ∧ ProbsOwn w.heap.size w' v8 (staffRead d sl b m n rs).2 ∧ Below w.heap.size w w'
def InvalidGives (w : World) (e : Ending) (w' : World) : Prop := ∃ v, e = .returned v ∧ ProbsOwn w.heap.size w' v [(0, 0, 1)] ∧ Below w.heap.size w w'
theorem probs_one (w : World) (cap : Nat) (a b c : Int) (hc : 1 = cap) : ProbsOwn w.heap.size (w.alloc (.cells #[.int .i64 0, .int .i64 a, .int .i64 b, .int .i64 c] 76)) (.slice (some ⟨w.heap.size, 0, none⟩) 1 cap) [(a, b, c)] := by
  subst hc
  exact ⟨rfl, .inr ⟨w.heap.size, 1, _, rfl, Nat.le_refl _, heap_alloc_new w _, Nat.le_refl _, by unfold maxLen; omega, rfl, rfl⟩⟩
set_option maxHeartbeats 800000 in
theorem invalid_walk (w : World) : Calls Tryz.prog 79 #[] w fun e w' => InvalidGives w e w' := by
  go_enter Tryz.func79, Tryz.ntmps79
  go_wp2
  go_ret
  exact ⟨_, rfl, probs_one w 1 0 0 1 rfl, (by repeat (first | exact Below.refl _ _ | refine ext_alloc ?_ _ | refine ext_drewN ?_ _ | refine ext_drew ?_ | refine ext_trans ?_ (by assumption)))⟩
theorem RecsAt.more {B C : Nat} {w : World} {A : Option Addr} {rs : List Rec} (h : RecsAt B w A rs) (hB : B ≤ C) : RecsAt C w A rs := by
  intro hn
  obtain ⟨b, off, e, h1, hc⟩ := h hn
  exact ⟨b, off, e, by omega, fun j r hr => by obtain ⟨F, c, c0, c1, hF⟩ := hc j r hr; exact ⟨F, c, c0, c1, hF.more hB⟩⟩
theorem LectsOwn.lower {B C : Nat} {w : World} {v : Value} {ls : List Lect} (h : LectsOwn B w v ls) (hc : C ≤ B) : LectsOwn C w v ls := by
  obtain ⟨us, h1, h2, h3⟩ := h
  exact ⟨us, h1, owns_lower h2 hc, fun j l u hl hu => owns_lower (h3 j l u hl hu) hc⟩
set_option maxHeartbeats 4000000 in
theorem lines_walk (d sl b m n : Int) (A : Option Addr) (rs : List Rec) (cap : Nat) (w : World) (hS : Std w) (hR : RecsAt w.heap.size w A rs) (hN : rs.length ≤ 4000000000000) (hs : ∀ r ∈ rs, ∀ f ∈ r.2, f.1.size < 1073741824) :
    Calls Tryz.prog 41 #[.slice A rs.length cap, .agg #[.int .i64 d, .int .i64 sl, .int .i64 b, .int .i64 m], .int .i64 n] w fun e w' => LinesGives d sl b m n rs w e w' := by
  have hb0 : Below w.heap.size w ((w.alloc (.cells #[.int .i64 d, .int .i64 sl, .int .i64 b, .int .i64 m] 24)).alloc (.cells #[.int .i64 n] 3)) := (by repeat (first | exact Below.refl _ _ | refine ext_alloc ?_ _ | refine ext_drewN ?_ _ | refine ext_drew ?_ | refine ext_trans ?_ (by assumption)))
  have bG := (Box4.new w 24 (.int .i64 d) (.int .i64 sl) (.int .i64 b) (.int .i64 m)).alloc (.cells #[.int .i64 n] 3)
  have bN : ((w.alloc (.cells #[.int .i64 d, .int .i64 sl, .int .i64 b, .int .i64 m] 24)).alloc (.cells #[.int .i64 n] 3)).cell? ⟨w.heap.size + 1, 0, none⟩ = some (.int .i64 n) := by
    have := (show ((w.alloc (.cells #[.int .i64 d, .int .i64 sl, .int .i64 b, .int .i64 m] 24)).alloc (.cells #[.int .i64 n] 3)).cell? ⟨(w.alloc (.cells #[.int .i64 d, .int .i64 sl, .int .i64 b, .int .i64 m] 24)).heap.size, 0, none⟩ = some (.int .i64 n) by simp)
    rw [World.size_alloc] at this
    exact this
  obtain ⟨W, hW⟩ : ∃ W, (w.alloc (.cells #[.int .i64 d, .int .i64 sl, .int .i64 b, .int .i64 m] 24)).alloc (.cells #[.int .i64 n] 3) = W := ⟨_, rfl⟩
  rw [hW] at hb0 bG bN
  obtain ⟨N, hN'⟩ : ∃ N, rs.length = N := ⟨_, rfl⟩
  have hSW := hS.after hb0
  replace hW := hide hW
  cases hw : weekB d sl b m n
  · have e1 : staffRead d sl b m n rs = ([], [(0, 0, 1)]) := by unfold staffRead; rw [hw]; rfl
    rw [hN']
    go_enter Tryz.func41, Tryz.ntmps41
    go_wp2_with fail
    rw [hW.out]
    refine (tgWeek_walk d sl b m n W).mono ?_
    rintro e w1 ⟨rfl, hb1⟩
    rw [hw]
    have hb := ext_trans hb0 hb1
    clear hW hb0 hb1 bG bN hSW hS hR hs
    go_wp2_with fail
    refine (invalid_walk w1).mono ?_
    rintro e w2 ⟨v, rfl, hp, hb2⟩
    go_wp2
    go_ret3
    exact ⟨_, _, _, rfl, by rw [e1]; exact ⟨[], rfl, World.ownsRow_nil _ _ _ _, fun j l u h => by simp at h⟩, by rw [e1]; exact owns_lower hp hb.size, ext_trans hb hb2⟩
  · have e1 : staffRead d sl b m n rs = ((readRecs d sl b m n rs).ls, (readRecs d sl b m n rs).ps) := by unfold staffRead; rw [hw]; rfl
    rw [hN']
    go_enter Tryz.func41, Tryz.ntmps41
    go_wp2_with fail
    rw [hW.out]
    refine (tgWeek_walk d sl b m n W).mono ?_
    rintro e w1 ⟨rfl, hb1⟩
    rw [hw]
    have hb := ext_trans hb0 hb1
    have hC : Cl w.heap.size (w.heap.size + 1) d sl b m n w1 := by
      obtain ⟨g0, g1, g2, g3⟩ := bG
      exact ⟨cell_later hb1 g0, cell_later hb1 g1, cell_later hb1 g2, cell_later hb1 g3, cell_later hb1 bN⟩
    have hR1 := (hR.below hb).more hb.size
    have hcall := fread_walk w.heap.size (w.heap.size + 1) d sl b m n A rs cap w1 (hSW.after hb1) hC hR1 hN hs
    rw [hN'] at hcall
    clear hW hb0 hb1 bG bN hSW hS hR hs hR1 hC
    go_wp2_with fail
    refine hcall.mono ?_
    rintro e w2 ⟨v6, v7, v8, rfl, hL, -, hP, hb2⟩
    clear hcall
    go_wp2
    go_ret3
    exact ⟨_, _, _, rfl, by rw [e1]; exact hL.lower hb.size, by rw [e1]; exact owns_lower hP hb.size, ext_trans hb hb2⟩
def StaffReads (d sl b m n : Int) (rs : List Rec) (w : World) (e : Ending) (w' : World) : Prop :=
  ∃ v6 v8, e = .returned (.tuple #[v6, v8]) ∧ LectsOwn w.heap.size w' v6 (staffRead d sl b m n rs).1 ∧ ProbsOwn w.heap.size w' v8 (staffRead d sl b m n rs).2 ∧ Below w.heap.size w w'
set_option maxHeartbeats 4000000 in
theorem sread_walk (d sl b m n : Int) (A : Option Addr) (rs : List Rec) (cap : Nat) (w : World) (hS : Std w) (hR : RecsAt w.heap.size w A rs) (hN : rs.length ≤ 4000000000000) (hs : ∀ r ∈ rs, ∀ f ∈ r.2, f.1.size < 1073741824) :
    Calls Tryz.prog 10 #[.slice A rs.length cap, .agg #[.int .i64 d, .int .i64 sl, .int .i64 b, .int .i64 m], .int .i64 n] w fun e w' => StaffReads d sl b m n rs w e w' := by
  have hb0 : Below w.heap.size w (w.alloc (.cells #[.int .i64 d, .int .i64 sl, .int .i64 b, .int .i64 m] 24)) := (by repeat (first | exact Below.refl _ _ | refine ext_alloc ?_ _ | refine ext_drewN ?_ _ | refine ext_drew ?_ | refine ext_trans ?_ (by assumption)))
  have hcall := lines_walk d sl b m n A rs cap _ (hS.after hb0) ((hR.below hb0).more hb0.size) hN hs
  obtain ⟨N, hN'⟩ : ∃ N, rs.length = N := ⟨_, rfl⟩
  rw [hN'] at hcall ⊢
  clear hR hs hS
  go_enter Tryz.func10, Tryz.ntmps10
  go_wp2_with fail
  refine hcall.mono ?_
  rintro e w2 ⟨v6, v7, v8, rfl, hL, hP, hb2⟩
  clear hcall
  go_wp2
  go_ret2
  exact ⟨_, _, rfl, hL.lower hb0.size, owns_lower hP hb0.size, ext_trans hb0 hb2⟩
theorem flat_at {α : Type} (enc : α → List Value) (k : Nat) (hk : ∀ x, (enc x).length = k) : ∀ (ls : List α) (j i : Nat) (x : α), ls[j]? = some x → i < k → (ls.flatMap enc)[j * k + i]? = (enc x)[i]?
  | [], j, i, x, h, _ => by simp at h
  | l :: ls, 0, i, x, h, hi => by
    simp at h
    subst h
    rw [List.flatMap_cons, List.getElem?_append_left (by rw [hk]; omega)]
    simp
  | l :: ls, j + 1, i, x, h, hi => by
    rw [List.flatMap_cons, List.getElem?_append_right (by rw [hk, Nat.add_mul]; omega), hk, show (j + 1) * k + i - k = j * k + i from by rw [Nat.add_mul]; omega]
    exact flat_at enc k hk ls j i x (by simpa using h) hi
theorem own_at {B k n c : Nat} {e : TypeId} {w : World} {A : Option Addr} {q : Nat} {xs : List Value} (h : w.ownsRow B e k (.slice A q c) n xs) (hn : 0 < n) : ∃ g, A = some ⟨g, 0, none⟩ ∧ g < w.heap.size ∧ ∀ j u, xs[j]? = some u → w.cell? ⟨g, j, none⟩ = some u := by
  rcases h.2 with ⟨h1, h2⟩ | ⟨g, cap, cur, h1, _, hg, _⟩
  · omega
  · injection h1 with h1
    subst h1
    have hcl := h.cells (g := g) rfl
    refine ⟨g, rfl, blk_lt hg, fun j u hu => ?_⟩
    have := hcl j u hu
    rw [show (⟨g, 0, none⟩ : Addr).add j = ⟨g, j, none⟩ from by rw [Addr.add_lit]; simp only [Nat.zero_add]] at this
    exact this
theorem times_cells {B q c : Nat} {w : World} {A : Option Addr} {ts : List T4} (h : TimesOwn B w (.slice A q c) ts) : CellsAt w.heap.size w A 4 ts.length fun j => encT (ts.getD j (0, 0, 0, 0)) := by
  intro hn
  obtain ⟨g, e, hg, hc⟩ := own_at h hn
  refine ⟨g, 0, e, hg, fun j hj i u hu => ?_⟩
  have hx : ts[j]? = some (ts.getD j (0, 0, 0, 0)) := by rw [List.getD_eq_getElem?_getD, List.getElem?_eq_getElem hj]; rfl
  have hi : i < 4 := by
    have := (List.getElem?_eq_some_iff.1 hu).1
    simpa [encT] using this
  rw [Nat.zero_add]
  exact hc _ u ((flat_at encT 4 (fun _ => rfl) ts j i _ hx hi).trans hu)
theorem flds_at {B q c : Nat} {w : World} {A : Option Addr} {fs : List Fld} (h : FldsOwn B w (.slice A q c) fs) : FieldsAt w.heap.size w A fs := by
  intro hn
  obtain ⟨g, e, hg, hc⟩ := own_at h hn
  refine ⟨g, 0, e, hg, fun j hj => ?_⟩
  have hx : fs[j]? = some fs[j] := List.getElem?_eq_getElem hj
  have hf := fun i hi u (hu : (encF fs[j])[i]? = some u) => hc (j * 3 + i) u ((flat_at encF 3 (fun _ => rfl) fs j i _ hx hi).trans hu)
  rw [Nat.zero_add]
  exact ⟨hf 0 (by omega) _ rfl, hf 1 (by omega) _ rfl, hf 2 (by omega) _ rfl⟩
theorem recCells_at : ∀ (rs : List Rec) (us : List Value), us.length = rs.length → ∀ (j : Nat) (r : Rec) (u : Value), rs[j]? = some r → us[j]? = some u → (recCells rs us)[j * 2]? = some (.int .i64 r.1) ∧ (recCells rs us)[j * 2 + 1]? = some u
  | [], us, h, j, r, u, hr, hu => by simp at hr
  | r0 :: rs, [], h, j, r, u, hr, hu => by cases h
  | r0 :: rs, u0 :: us, h, 0, r, u, hr, hu => by simp at hr hu; subst hr; subst hu; simp [recCells]
  | r0 :: rs, u0 :: us, h, j + 1, r, u, hr, hu => by
    have ih := recCells_at rs us (by simpa using h) j r u (by simpa using hr) (by simpa using hu)
    have e : ∀ i, (recCells (r0 :: rs) (u0 :: us))[(j + 1) * 2 + i]? = (recCells rs us)[j * 2 + i]? := by
      intro i
      rw [show (j + 1) * 2 + i = j * 2 + i + 2 from by omega]
      simp [recCells]
    exact ⟨(e 0).trans ih.1, (e 1).trans ih.2⟩
theorem recs_at {B q c : Nat} {w : World} {A : Option Addr} {rs : List Rec} (h : RecsOwn B w (.slice A q c) rs) : RecsAt w.heap.size w A rs := by
  obtain ⟨us, e1, e2, e3⟩ := h
  intro hn
  obtain ⟨g, e, hg, hc⟩ := own_at e2 hn
  refine ⟨g, 0, e, hg, fun j r hr => ?_⟩
  have hj : j < us.length := by rw [e1]; exact (List.getElem?_eq_some_iff.1 hr).1
  have hu : us[j]? = some us[j] := List.getElem?_eq_getElem hj
  obtain ⟨c0, c1⟩ := recCells_at rs us e1 j r _ hr hu
  have hfo := e3 j r _ hr hu
  obtain ⟨A', c', hform⟩ := owns_form hfo
  rw [hform] at c1 hfo
  rw [Nat.zero_add]
  exact ⟨A', c', hc _ _ c0, hc _ _ c1, flds_at hfo⟩
theorem lect_at {B q c : Nat} {w : World} {A : Option Addr} {ls : List Lect} (h : LectsOwn B w (.slice A q c) ls) (j : Nat) (l : Lect) (hl : ls[j]? = some l) :
    ∃ (g : Nat) (A' : Option Addr) (c' : Nat), A = some ⟨g, 0, none⟩ ∧ w.cell? ⟨g, j * 2, none⟩ = some (.string l.1) ∧ w.cell? ⟨g, j * 2 + 1, none⟩ = some (.slice A' l.2.length c') ∧ TimesOwn B w (.slice A' l.2.length c') l.2 := by
  obtain ⟨us, e1, e2, e3⟩ := h
  have hj := (List.getElem?_eq_some_iff.1 hl).1
  obtain ⟨g, e, hg, hc⟩ := own_at e2 (by omega)
  have hu : us[j]? = some (us[j]'(by omega)) := List.getElem?_eq_getElem (by omega)
  have ht := e3 j l _ hl hu
  obtain ⟨A', c', hform⟩ := owns_form ht
  have h0 := lectCells_at ls us e1 j 0 (by omega)
  have h1 := lectCells_at ls us e1 j 1 (by omega)
  rw [if_pos hj] at h0 h1
  have hcode : codesOf ls j = l.1 := by unfold codesOf; rw [List.getD_eq_getElem?_getD, hl]; rfl
  have hud : us.getD j undef = us[j]'(by omega) := by rw [List.getD_eq_getElem?_getD, hu]; rfl
  rw [hform] at ht
  refine ⟨g, A', c', e, hc _ _ ?_, hc _ _ ?_, ht⟩
  · rw [show j * 2 = j * 2 + 0 from rfl, h0, hcode]; rfl
  · rw [h1, hud, hform]; rfl
end Go.Proofs.YtgbkochjoaalhaaGreatDoor
