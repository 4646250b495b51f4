/- Walk of fields.Read at lecturers. Conditions: texts shorter than 2^30 bytes. -/
import Derived.Test.YtgbkochjoaalhaaGreatDoorStaff
import Derived.Deep.AppendLies
namespace Go.Proofs.YtgbkochjoaalhaaGreatDoor
open Go.RowKit
set_option maxRecDepth 100000

/-- A record: its line, its fields. -/
abbrev Rec := Int × List Fld
/-- A lecturer: the code, the times. -/
abbrev Lect := ByteArray × List T4
/-- Records, in blocks below B. -/
def RecsAt (B : Nat) (w : World) (A : Option Addr) (rs : List Rec) : Prop :=
  0 < rs.length → ∃ b off, A = some ⟨b, off, none⟩ ∧ b < B ∧ ∀ j r, rs[j]? = some r → ∃ F c, w.cell? ⟨b, off + j * 2, none⟩ = some (.int .i64 r.1) ∧ w.cell? ⟨b, off + j * 2 + 1, none⟩ = some (.slice F r.2.length c) ∧ FieldsAt B w F r.2
theorem RecsAt.below {B : Nat} {w w' : World} {A : Option Addr} {rs : List Rec} (h : RecsAt B w A rs) (hb : Below B w w') : RecsAt B w' A rs := by
  intro hn
  obtain ⟨b, off, e, h1, hc⟩ := h hn
  refine ⟨b, off, e, h1, fun j r hr => ?_⟩
  obtain ⟨F, c, c0, c1, hF⟩ := hc j r hr
  exact ⟨F, c, (hb.cell (p := ⟨b, off + j * 2, none⟩) h1).trans c0, (hb.cell (p := ⟨b, off + j * 2 + 1, none⟩) h1).trans c1, hF.below hb⟩
theorem infoLect : (Tryz.prog.info? 47).map (fun i => (i.zero, i.size, i.bytes)) = some (some (.agg #[.string ⟨#[]⟩, .slice none 0 0]), 2, 40) := by kernel_rfl
theorem infoProb : (Tryz.prog.info? 76).map (fun i => (i.zero, i.size, i.bytes)) = some (some (.agg #[.int .i64 0, .int .i64 0, .int .i64 0, .int .i64 0]), 4, 32) := by kernel_rfl
def encP (p : Prob) : List Value := [.int .i64 0, .int .i64 p.1, .int .i64 p.2.1, .int .i64 p.2.2]
/-- Problems, in memory of their own. -/
def ProbsOwn (B : Nat) (w : World) (v : Value) (ps : List Prob) : Prop := w.ownsRow B 76 4 v ps.length (ps.flatMap encP)
def InsOwn (B : Nat) (w : World) (v : Value) (xs : List Int) : Prop := w.ownsRow B 3 1 v xs.length (xs.map (Value.int .i64))
def lectCells (ls : List Lect) (us : List Value) : List Value := (List.zip ls us).flatMap fun x => [Value.string x.1.1, x.2]
/-- Lecturers, in memory of their own. -/
def LectsOwn (B : Nat) (w : World) (v : Value) (ls : List Lect) : Prop :=
  ∃ us : List Value, us.length = ls.length ∧ w.ownsRow B 47 2 v ls.length (lectCells ls us) ∧ ∀ (j : Nat) (l : Lect) (u : Value), ls[j]? = some l → us[j]? = some u → TimesOwn B w u l.2
/-- Two rows of other element types lie in other blocks. -/
theorem own_ne {w : World} {B C n m s t : Nat} {e f : TypeId} {v u : Value} {xs ys : List Value} (h : w.ownsRow B e s v n xs) (h' : w.ownsRow C f t u m ys) (hne : e ≠ f) : v.ownBlock = none ∨ v.ownBlock ≠ u.ownBlock := by
  rcases h.2 with ⟨rfl, _⟩ | ⟨g, cap, cur, rfl, _, hg, _⟩
  · exact .inl rfl
  · refine .inr fun e2 => ?_
    rcases h'.2 with ⟨rfl, _⟩ | ⟨g', cap', cur', rfl, _, hg', _⟩
    · simp [Value.ownBlock] at e2
    · have : g = g' := by simpa [Value.ownBlock] using e2
      subst this
      rw [hg] at hg'
      injection hg' with h1
      injection h1 with _ h2
      exact hne h2
theorem LectsOwn.later {B : Nat} {w w' : World} {v : Value} {ls : List Lect} (h : LectsOwn B w v ls) (hb : Below w.heap.size w w') : LectsOwn B w' v ls := by
  obtain ⟨us, h1, h2, h3⟩ := h
  exact ⟨us, h1, owns_later h2 hb, fun j l u hl hu => owns_later (h3 j l u hl hu) hb⟩
/-- What the reading of records has gathered. -/
structure RS where
  ls : List Lect
  lines : List Int
  ps : List Prob
def codesOf (ls : List Lect) : Nat → ByteArray := fun j => (ls.getD j (⟨#[]⟩, [])).1
def recStep (d sl b m n : Int) (s : RS) (r : Rec) : RS :=
  if r.2.length = 2 then
    match staffP d sl b m n r.1 r.2 (codesOf s.ls) s.ls.length with
    | some p => ⟨s.ls, s.lines, s.ps ++ [p]⟩
    | none => ⟨s.ls ++ [(textAt r.2 0, staffT d sl b m n r.2)], s.lines ++ [r.1], s.ps⟩
  else ⟨s.ls, s.lines, s.ps ++ [(r.1, 0, 9)]⟩
def readRecs (d sl b m n : Int) (rs : List Rec) : RS := rs.foldl (recStep d sl b m n) ⟨[], [], []⟩
theorem readRecs_snoc (d sl b m n : Int) (rs : List Rec) (r : Rec) : readRecs d sl b m n (rs ++ [r]) = recStep d sl b m n (readRecs d sl b m n rs) r := by
  unfold readRecs; rw [List.foldl_append]; rfl
theorem noted_none {pr : Option Prob} {b : Bool} {p : Prob} (h : noted pr b p = none) : pr = none ∧ b = false := by
  cases pr with
  | some q => cases h
  | none => cases b with
    | true => cases h
    | false => exact ⟨rfl, rfl⟩
theorem staffP_none {d sl b m n line : Int} {fs : List Fld} {codes : Nat → ByteArray} {q : Nat} (h : staffP d sl b m n line fs codes q = none) : q < 32 := by
  have := (noted_none h).2
  rw [decide_eq_false_iff_not] at this
  omega
theorem fold_same (d sl b m n : Int) : ∀ (rs : List Rec) (s : RS), s.lines.length = s.ls.length → (rs.foldl (recStep d sl b m n) s).lines.length = (rs.foldl (recStep d sl b m n) s).ls.length
  | [], _, h => h
  | r :: rs, s, h => by
    refine fold_same d sl b m n rs _ ?_
    unfold recStep
    split
    · split
      · exact h
      · simp [h]
    · exact h
theorem readRecs_same (d sl b m n : Int) (rs : List Rec) : (readRecs d sl b m n rs).lines.length = (readRecs d sl b m n rs).ls.length := fold_same d sl b m n rs _ rfl
theorem readRecs_len (d sl b m n : Int) : ∀ (k : Nat) (rs : List Rec), rs.length = k → (readRecs d sl b m n rs).ls.length ≤ 32 ∧ (readRecs d sl b m n rs).lines.length ≤ 32 ∧ (readRecs d sl b m n rs).ps.length ≤ k
  | 0, rs, h => by
    obtain rfl := List.eq_nil_of_length_eq_zero h
    simp [readRecs]
  | k + 1, rs, h => by
    obtain ⟨r0, r, rfl⟩ : ∃ r0 r, rs = r0 ++ [r] := ⟨rs.dropLast, rs.getLast (by intro e; rw [e] at h; cases h), (List.dropLast_concat_getLast _).symm⟩
    rw [readRecs_snoc]
    obtain ⟨h1, h2, h4⟩ := readRecs_len d sl b m n k r0 (by simpa using h)
    have h3 := readRecs_same d sl b m n r0
    unfold recStep
    split
    · split
      · exact ⟨h1, h2, by simp; omega⟩
      · rename_i hp
        have := staffP_none hp
        exact ⟨by simp; omega, by simp; omega, by simp; omega⟩
    · exact ⟨h1, h2, by simp; omega⟩
theorem LectsOwn.grown {B C k s : Nat} {w w' : World} {v u : Value} {ls : List Lect} {e : TypeId} {ys : List Value} (h : LectsOwn B w v ls) (ho : w.ownsRow C e s u k ys) (hg : w.grownBy w' u.ownBlock) (h1 : 47 ≠ e) (h2 : 43 ≠ e) : LectsOwn B w' v ls := by
  obtain ⟨us, e1, e2, e3⟩ := h
  exact ⟨us, e1, e2.kept hg (own_ne e2 ho h1), fun j l x hl hx => (e3 j l x hl hx).kept hg (own_ne (e3 j l x hl hx) ho h2)⟩
theorem LectsOwn.only {B g : Nat} {w w' : World} {v : Value} {ls : List Lect} (h : LectsOwn B w v ls) (ho : Only g w w') (hg : w.heap.size ≤ g ∨ g < B) : LectsOwn B w' v ls := by
  have hk : ∀ {e : TypeId} {k n : Nat} {x : Value} {xs : List Value}, w.ownsRow B e k x n xs → w'.ownsRow B e k x n xs := fun hx => hx.kept ho (by
    rename_i x _
    cases hv : x.ownBlock with
    | none => exact .inl rfl
    | some y =>
      refine .inr fun e => ?_
      injection e with e
      have := hx.lt y hv
      omega)
  obtain ⟨us, e1, e2, e3⟩ := h
  exact ⟨us, e1, hk e2, fun j l x hl hx => hk (e3 j l x hl hx)⟩
theorem owns_scan {w w' : World} {B g k n : Nat} {e : TypeId} {v : Value} {xs : List Value} {line : Int} {F : Option Addr} {m c j : Nat} {pr : Option Prob} (h : w.ownsRow B e k v n xs) (hs : Scan w g line F m c j pr) (hne : e ≠ 140) (ho : Only g w w') : w'.ownsRow B e k v n xs := by
  refine h.kept ho ?_
  rcases h.2 with ⟨rfl, _⟩ | ⟨y, cap, cur, rfl, _, hg, _⟩
  · exact .inl rfl
  · refine .inr fun e2 => ?_
    have e3 : y = g := by simpa [Value.ownBlock] using e2
    subst e3
    obtain ⟨u, hgg, _⟩ := hs
    rw [hg] at hgg
    injection hgg with h1
    injection h1 with _ h2
    exact hne h2
theorem LectsOwn.scan {B g : Nat} {w w' : World} {v : Value} {ls : List Lect} {line : Int} {F : Option Addr} {m c j : Nat} {pr : Option Prob} (h : LectsOwn B w v ls) (hs : Scan w g line F m c j pr) (ho : Only g w w') : LectsOwn B w' v ls := by
  obtain ⟨us, e1, e2, e3⟩ := h
  exact ⟨us, e1, owns_scan e2 hs (by decide) ho, fun j l x hl hx => owns_scan (e3 j l x hl hx) hs (by decide) ho⟩
theorem lectCells_at : ∀ (ls : List Lect) (us : List Value), us.length = ls.length → ∀ (j i : Nat), i < 2 → (lectCells ls us)[j * 2 + i]? = if j < ls.length then [Value.string (codesOf ls j), us.getD j undef][i]? else none
  | [], us, h, j, i, hi => by simp [lectCells]
  | l :: ls, [], h, j, i, hi => by cases h
  | l :: ls, u :: us, h, 0, i, hi => by
    have : i = 0 ∨ i = 1 := by omega
    rcases this with rfl | rfl <;> simp [lectCells, codesOf]
  | l :: ls, u :: us, h, j + 1, i, hi => by
    have ih := lectCells_at ls us (by simpa using h) j i hi
    have e : (lectCells (l :: ls) (u :: us))[(j + 1) * 2 + i]? = (lectCells ls us)[j * 2 + i]? := by
      rw [show (j + 1) * 2 + i = j * 2 + i + 2 from by omega]
      simp [lectCells]
    rw [e, ih]
    simp [codesOf]
theorem lects_cells {B q c : Nat} {w : World} {A : Option Addr} {ls : List Lect} (h : LectsOwn B w (.slice A q c) ls) : ∃ X1 : Nat → Value, CellsAt w.heap.size w A 2 ls.length fun j => [.string (codesOf ls j), X1 j] := by
  obtain ⟨us, e1, e2, e3⟩ := h
  refine ⟨fun j => us.getD j undef, fun hn => ?_⟩
  rcases e2.2 with ⟨h1, h2⟩ | ⟨g, cap, cur, h1, _, hg, _⟩
  · omega
  · injection h1 with h1
    subst h1
    have hcl := e2.cells (g := g) rfl
    refine ⟨g, 0, rfl, blk_lt hg, fun j hj i u hu => ?_⟩
    have hi : i < 2 := by
      have := (List.getElem?_eq_some_iff.1 hu).1
      simpa using this
    have := hcl (j * 2 + i) u (by rw [lectCells_at ls us e1 j i hi, if_pos hj]; exact hu)
    rw [show (⟨g, 0, none⟩ : Addr).add (j * 2 + i) = ⟨g, 0 + j * 2 + i, none⟩ from by rw [Addr.add_lit]; simp only [Nat.zero_add]] at this
    exact this
theorem one_prob (p : Prob) : ∀ u ∈ encP p, u.oneCell' = true := by
  intro u hu; simp [encP] at hu; rcases hu with rfl | rfl | rfl | rfl <;> rfl
theorem flatP_snoc (ps : List Prob) (p : Prob) : (ps ++ [p]).flatMap encP = ps.flatMap encP ++ encP p := by simp
theorem new_prob (w : World) (a b c : Int) (t : TypeId) : ∀ (j : Nat) (u : Value), (encP (a, b, c))[j]? = some u → (w.alloc (.cells #[.int .i64 0, .int .i64 a, .int .i64 b, .int .i64 c] t)).cell? ((⟨w.heap.size, 0, none⟩ : Addr).add j) = some u :=
  new_four w 0 a b c t
theorem new_prob2 (w : World) (o : Obj) (a b c : Int) (t : TypeId) : ∀ (j : Nat) (u : Value), (encP (a, b, c))[j]? = some u → ((w.alloc o).alloc (.cells #[.int .i64 0, .int .i64 a, .int .i64 b, .int .i64 c] t)).cell? ((⟨w.heap.size + 1, 0, none⟩ : Addr).add j) = some u := by
  have := new_prob (w.alloc o) a b c t
  rw [World.size_alloc] at this
  exact this
theorem scan_some {w : World} {g : Nat} {line : Int} {F : Option Addr} {m c k : Nat} {p : Prob} (h : Scan w g line F m c k (some p)) :
    ∃ h, w.cell? ⟨g, 3, none⟩ = some (.pointer (some ⟨h, 0, none⟩)) ∧ w.cell? ⟨h, 0, none⟩ = some (.int .i64 0) ∧ w.cell? ⟨h, 1, none⟩ = some (.int .i64 p.1) ∧ w.cell? ⟨h, 2, none⟩ = some (.int .i64 p.2.1) ∧ w.cell? ⟨h, 3, none⟩ = some (.int .i64 p.2.2) := by
  obtain ⟨v, hg, x, rfl, hx⟩ := h
  obtain ⟨-, -, -, c3, -⟩ := scan_cells hg
  obtain ⟨p0, p1, p2, p3, -⟩ := scan_cells hx
  exact ⟨x, c3, p0, p1, p2, p3⟩
theorem scan_none {w : World} {g : Nat} {line : Int} {F : Option Addr} {m c k : Nat} (h : Scan w g line F m c k none) : w.cell? ⟨g, 3, none⟩ = some (.pointer none) := by
  obtain ⟨v, hg, rfl⟩ := h
  exact (scan_cells hg).2.2.2.1
theorem gath_prob {B : Nat} {W W' : World} {u6 u7 u8 : Value} {ls : List Lect} {lines : List Int} {ps : List Prob} (hg : W.grownBy W' u8.ownBlock) (hL : LectsOwn B W u6 ls) (hI : InsOwn B W u7 lines) (hP : ProbsOwn B W u8 ps) : LectsOwn B W' u6 ls ∧ InsOwn B W' u7 lines :=
  ⟨hL.grown hP hg (by decide) (by decide), World.ownsRow.kept hI hg (own_ne hI hP (by decide))⟩
/-- What is gathered, where an element is to be appended. -/
structure G1 (w0 : World) (u6 u7 u8 vt : Value) (st : RS) (t0 : ByteArray) (ts : List T4) (xb rc : Nat) (line : Int) (W : World) : Prop where
  ls : LectsOwn w0.heap.size W u6 st.ls
  ins : InsOwn w0.heap.size W u7 st.lines
  ps : ProbsOwn w0.heap.size W u8 st.ps
  ts : TimesOwn w0.heap.size W vt ts
  below : Below w0.heap.size w0 W
  x0 : W.cell? ⟨xb, 0, none⟩ = some (.string t0)
  x1 : W.cell? ⟨xb, 1, none⟩ = some vt
  line : W.cell? ⟨rc, 0, none⟩ = some (.int .i64 line)
/-- The same behind the first append. -/
structure G2 (w0 : World) (v6 u7 u8 vt : Value) (st : RS) (t0 : ByteArray) (ts : List T4) (xb rc : Nat) (line : Int) (W : World) : Prop where
  ls : LectsOwn w0.heap.size W v6 (st.ls ++ [(t0, ts)])
  ins : InsOwn w0.heap.size W u7 st.lines
  ps : ProbsOwn w0.heap.size W u8 st.ps
  below : Below w0.heap.size w0 W
  x0 : W.cell? ⟨xb, 0, none⟩ = some (.string t0)
  x1 : W.cell? ⟨xb, 1, none⟩ = some vt
  line : W.cell? ⟨rc, 0, none⟩ = some (.int .i64 line)
abbrev GS (xb rc : Nat) (t0 : ByteArray) (vt : Value) (line : Int) (W : World) : Prop := W.cell? ⟨xb, 0, none⟩ = some (.string t0) ∧ W.cell? ⟨xb, 1, none⟩ = some vt ∧ W.cell? ⟨rc, 0, none⟩ = some (.int .i64 line)
theorem GS.alloc {xb rc : Nat} {t0 : ByteArray} {vt : Value} {line : Int} {W : World} (h : GS xb rc t0 vt line W) (o : Obj) : GS xb rc t0 vt line (W.alloc o) :=
  ⟨cell_alloc_of h.1 o, cell_alloc_of h.2.1 o, cell_alloc_of h.2.2 o⟩
theorem GS.drew {xb rc : Nat} {t0 : ByteArray} {vt : Value} {line : Int} {W : World} (h : GS xb rc t0 vt line W) : GS xb rc t0 vt line W.drew := h
section
variable {w0 : World} {u6 v6 u7 v7 u8 vt : Value} {st : RS} {t0 : ByteArray} {ts : List T4} {xb rc : Nat} {line : Int} {W W' : World}
theorem G1.later (h : G1 w0 u6 u7 u8 vt st t0 ts xb rc line W) (hb : Below W.heap.size W W') : G1 w0 u6 u7 u8 vt st t0 ts xb rc line W' :=
  ⟨h.ls.later hb, owns_later h.ins hb, owns_later h.ps hb, owns_later h.ts hb, ext_trans h.below hb, cell_later hb h.x0, cell_later hb h.x1, cell_later hb h.line⟩
theorem G1.alloc (h : G1 w0 u6 u7 u8 vt st t0 ts xb rc line W) (o : Obj) : G1 w0 u6 u7 u8 vt st t0 ts xb rc line (W.alloc o) := h.later (ext_alloc (Below.refl _ _) _)
theorem G1.drew (h : G1 w0 u6 u7 u8 vt st t0 ts xb rc line W) : G1 w0 u6 u7 u8 vt st t0 ts xb rc line W.drew := h.later (ext_drew (Below.refl _ _))
theorem G2.later (h : G2 w0 v6 u7 u8 vt st t0 ts xb rc line W) (hb : Below W.heap.size W W') : G2 w0 v6 u7 u8 vt st t0 ts xb rc line W' :=
  ⟨h.ls.later hb, owns_later h.ins hb, owns_later h.ps hb, ext_trans h.below hb, cell_later hb h.x0, cell_later hb h.x1, cell_later hb h.line⟩
theorem G2.alloc (h : G2 w0 v6 u7 u8 vt st t0 ts xb rc line W) (o : Obj) : G2 w0 v6 u7 u8 vt st t0 ts xb rc line (W.alloc o) := h.later (ext_alloc (Below.refl _ _) _)
theorem G2.drew (h : G2 w0 v6 u7 u8 vt st t0 ts xb rc line W) : G2 w0 v6 u7 u8 vt st t0 ts xb rc line W.drew := h.later (ext_drew (Below.refl _ _))
theorem lectCells_snoc (ls : List Lect) (us : List Value) (h : us.length = ls.length) (l : Lect) (u : Value) : lectCells (ls ++ [l]) (us ++ [u]) = lectCells ls us ++ [.string l.1, u] := by
  unfold lectCells
  rw [List.zip_append h.symm]
  simp
theorem own_cell {a : Addr} (h : W.grownBy W' u6.ownBlock) {u : Value} (hc : W.cell? a = some u) (hl : ∀ y, u6.ownBlock = some y → y < a.block) : W'.cell? a = some u :=
  h.cell hc (fun e => by have := hl _ e.symm; omega)
theorem g1_to_g2 (h : G1 w0 u6 u7 u8 vt st t0 ts xb rc line W) (hg : W.grownBy W' u6.ownBlock) (hx : ∀ y, u6.ownBlock = some y → y < xb) (hr : ∀ y, u6.ownBlock = some y → y < rc)
    (us : List Value) (e1 : us.length = st.ls.length) (e2 : W.ownsRow w0.heap.size 47 2 u6 st.ls.length (lectCells st.ls us)) (e3 : ∀ (j : Nat) (l : Lect) (u : Value), st.ls[j]? = some l → us[j]? = some u → TimesOwn w0.heap.size W u l.2)
    (hn : W'.ownsRow w0.heap.size 47 2 v6 (st.ls.length + 1) (lectCells st.ls us ++ [.string t0, vt])) : G2 w0 v6 u7 u8 vt st t0 ts xb rc line W' := by
  refine ⟨⟨us ++ [vt], by simp [e1], ?_, fun j l u hl hu => ?_⟩, World.ownsRow.kept h.ins hg (own_ne h.ins e2 (by decide)), World.ownsRow.kept h.ps hg (own_ne h.ps e2 (by decide)), h.below.grown hg h.below.size (fun y hy => (e2.lt y hy).1), own_cell hg h.x0 hx, own_cell hg h.x1 hx, own_cell hg h.line hr⟩
  · rw [lectCells_snoc _ _ e1, List.length_append]
    exact hn
  · by_cases hj : j < st.ls.length
    · rw [List.getElem?_append_left hj] at hl
      rw [List.getElem?_append_left (by omega)] at hu
      exact (e3 j l u hl hu).kept hg (own_ne (e3 j l u hl hu) e2 (by decide))
    · have hj2 : j = st.ls.length := by
        have := (List.getElem?_eq_some_iff.1 hl).1
        simp at this
        omega
      subst hj2
      rw [List.getElem?_append_right (Nat.le_refl _)] at hl
      rw [List.getElem?_append_right (by omega)] at hu
      simp at hl
      simp [e1] at hu
      subst hl
      subst hu
      exact World.ownsRow.kept h.ts hg (own_ne h.ts e2 (by decide))
theorem step_lects {ops : Array Oper} {o : Oper} {a : Act} {K : Act → World → Prop} {Q : Exit → Act → World → Prop} {E : Prop} (hgd : o.guard = none) (s x : Operand)
    (ho : o.op = .call { callee := .builtin .append, args := #[s, x], argTypes := #[29, 29] }) (hs : a.eval s = u6) (h : G1 w0 u6 u7 u8 vt st t0 ts xb rc line W)
    (hx : ∀ y, u6.ownBlock = some y → y < xb) (hr : ∀ y, u6.ownBlock = some y → y < rc) (h32 : st.ls.length < 32)
    (ad : Addr) (c : Nat) (hxe : a.eval x = .slice (some ad) 1 c) (hnews : ∀ j u, [Value.string t0, vt][j]? = some u → W.cell? (ad.add j) = some u) (h1 : vt.oneCell' = true)
    (hk : ∀ g cap w', G2 w0 (.slice (some ⟨g, 0, none⟩) (st.ls.length + 1) cap) u7 u8 vt st t0 ts xb rc line w' → GS xb rc t0 vt line w' → W.grownBy w' u6.ownBlock → K (a.put o.dst (.slice (some ⟨g, 0, none⟩) (st.ls.length + 1) cap)) w') :
    if Region.wanted o (yielded ops a.tmps) = true then Oper.wp Tryz.prog o a W K Q else E := by
  obtain ⟨iL, hiL, hL0, hL1, hL2⟩ := info_parts infoLect
  obtain ⟨us, e1, e2, e3⟩ := h.ls
  refine step_append_lies _ hgd s x _ ho w0.heap.size 47 iL _ 2 40 Tryz.underlying29 hiL hL0 hL1 hL2 rfl (by omega) u6 st.ls.length (lectCells st.ls us) hs e2 ad 1 c [.string t0, vt] hxe rfl hnews ?_ (by omega) (by unfold maxLen; omega) (by omega) h.below.size W.heap.size rfl ?_
  · intro u hu
    simp at hu
    rcases hu with rfl | rfl
    · rfl
    · exact h1
  · intro g cap w' hn hg _ _
    have h2 := g1_to_g2 h hg hx hr us e1 e2 e3 hn
    exact hk g cap w' h2 ⟨h2.x0, h2.x1, h2.line⟩ hg
/-- What both appends leave. -/
structure G3 (w0 : World) (v6 v7 u8 : Value) (st : RS) (t0 : ByteArray) (ts : List T4) (line : Int) (W : World) : Prop where
  ls : LectsOwn w0.heap.size W v6 (st.ls ++ [(t0, ts)])
  ins : InsOwn w0.heap.size W v7 (st.lines ++ [line])
  ps : ProbsOwn w0.heap.size W u8 st.ps
  below : Below w0.heap.size w0 W
theorem step_lines {ops : Array Oper} {o : Oper} {a : Act} {K : Act → World → Prop} {Q : Exit → Act → World → Prop} {E : Prop} (hgd : o.guard = none) (s x : Operand)
    (ho : o.op = .call { callee := .builtin .append, args := #[s, x], argTypes := #[36, 36] }) (hs : a.eval s = u7) (h : G2 w0 v6 u7 u8 vt st t0 ts xb rc line W)
    (hx : ∀ y, u7.ownBlock = some y → y < xb) (hr : ∀ y, u7.ownBlock = some y → y < rc) (h32 : st.lines.length < 33)
    (ad : Addr) (c : Nat) (hxe : a.eval x = .slice (some ad) 1 c) (hnews : ∀ j u, [Value.int .i64 line][j]? = some u → W.cell? (ad.add j) = some u)
    (hk : ∀ g cap w', G3 w0 v6 (.slice (some ⟨g, 0, none⟩) (st.lines.length + 1) cap) u8 st t0 ts line w' → GS xb rc t0 vt line w' → K (a.put o.dst (.slice (some ⟨g, 0, none⟩) (st.lines.length + 1) cap)) w') :
    if Region.wanted o (yielded ops a.tmps) = true then Oper.wp Tryz.prog o a W K Q else E := by
  obtain ⟨iI, hiI, hI0, hI1, hI2⟩ := info_parts infoInt
  refine step_append_lies _ hgd s x _ ho w0.heap.size 3 iI _ 1 8 Tryz.underlying36 hiI hI0 hI1 hI2 rfl (by omega) u7 st.lines.length (st.lines.map (Value.int .i64)) hs h.ins ad 1 c [.int .i64 line] hxe rfl hnews one_int (by omega) (by unfold maxLen; omega) (by omega) h.below.size W.heap.size rfl ?_
  intro g cap w' hn hg _ _
  refine hk g cap w' ⟨h.ls.grown h.ins hg (by decide) (by decide), ?_, World.ownsRow.kept h.ps hg (own_ne h.ps h.ins (by decide)), h.below.grown hg h.below.size (fun y hy => (World.ownsRow.lt h.ins y hy).1)⟩ ⟨own_cell hg h.x0 hx, own_cell hg h.x1 hx, own_cell hg h.line hr⟩
  unfold InsOwn
  rw [List.length_append, List.map_append]
  exact hn
end
def ReadGives (d sl b m n : Int) (rs : List Rec) (w : World) (e : Ending) (w' : World) : Prop :=
  ∃ v6 v7 v8, e = .returned (.tuple #[v6, v7, v8]) ∧ LectsOwn w.heap.size w' v6 (readRecs d sl b m n rs).ls ∧ InsOwn w.heap.size w' v7 (readRecs d sl b m n rs).lines ∧ ProbsOwn w.heap.size w' v8 (readRecs d sl b m n rs).ps ∧ Below w.heap.size w w'
def ReadLoop (d sl b m n : Int) (rs : List Rec) (w : World) (v6 v7 v8 i : Value) (wr : World) : Prop :=
  ∃ j : Nat, j ≤ rs.length ∧ i = .int .i64 j ∧ LectsOwn w.heap.size wr v6 (readRecs d sl b m n (rs.take j)).ls ∧ InsOwn w.heap.size wr v7 (readRecs d sl b m n (rs.take j)).lines ∧ ProbsOwn w.heap.size wr v8 (readRecs d sl b m n (rs.take j)).ps ∧ Below w.heap.size w wr
theorem take_rec (d sl b m n : Int) (rs : List Rec) (j : Nat) (r : Rec) (h : rs[j]? = some r) : readRecs d sl b m n (rs.take (j + 1)) = recStep d sl b m n (readRecs d sl b m n (rs.take j)) r := by
  rw [List.take_add_one, h]; exact readRecs_snoc d sl b m n _ r
set_option maxHeartbeats 8000000 in
theorem fread_walk (gb nb : Nat) (d sl b m n : Int) (A : Option Addr) (rs : List Rec) (cap : Nat) (w : World) (hS : Std w) (hC : Cl gb nb d sl b m n w) (hR : RecsAt w.heap.size w A rs) (hN : rs.length ≤ 4000000000000) (hs : ∀ r ∈ rs, ∀ f ∈ r.2, f.1.size < 1073741824) :
    Calls Tryz.prog 80 #[.slice A rs.length cap, .int .i64 2, .func (.func 81) #[] #[.pointer (some ⟨gb, 0, none⟩), .pointer (some ⟨nb, 0, none⟩)]] w fun e w' => ReadGives d sl b m n rs w e w' := by
  have eg : ∀ args w, (callFunc 81 args).run Tryz.prog w = .ok (.enter 81 args) w := enters_of Tryz.func81 (by kernel_rfl) rfl
  obtain ⟨iL, hiL, hL0, hL1, hL2⟩ := info_parts infoLect
  obtain ⟨iP, hiP, hP0, hP1, hP2⟩ := info_parts infoProb
  obtain ⟨iI, hiI, hI0, hI1, hI2⟩ := info_parts infoInt
  obtain ⟨N, hNN⟩ : ∃ N, rs.length = N := ⟨_, rfl⟩
  obtain ⟨l1, l2⟩ := hC.lt
  have hbig := hS.big
  rw [hNN] at hN ⊢
  replace hNN := hide hNN
  replace hs := hide hs
  go_enter Tryz.func80, Tryz.ntmps80
  go_wp2
  go_loopw [6, 7, 8, 15] (fun v6 v7 v8 i wr => ReadLoop d sl b m n rs w v6 v7 v8 i wr) (fun _ _ _ i _ => N - (intOf i).toNat)
  case atStart => exact ⟨0, Nat.zero_le _, rfl, ⟨[], rfl, World.ownsRow_nil _ _ _ _, fun j l u h => by simp [readRecs] at h⟩, World.ownsRow_nil _ _ _ _, World.ownsRow_nil _ _ _ _, Below.refl _ _⟩
  case round =>
    obtain ⟨j, hj, rfl, hL, hI, hP, hb⟩ := hrel
    rw [hNN.out] at hj
    by_cases hlt : j < N
    · obtain ⟨r, hr⟩ : ∃ r, rs[j]? = some r := ⟨_, List.getElem?_eq_getElem (by rw [hNN.out]; exact hlt)⟩
      obtain ⟨rb, off, rfl, hrb, hcell⟩ := (hR.below hb) (by rw [hNN.out]; omega)
      obtain ⟨F, c, k0, k1, hF⟩ := hcell j r hr
      have hsr := hide (hs.out r (List.mem_of_getElem? hr))
      have hstep := hide (take_rec d sl b m n rs j r hr)
      have hC' := hC.later hb
      obtain ⟨st, hst⟩ : ∃ st, readRecs d sl b m n (rs.take j) = st := ⟨_, rfl⟩
      have hlen := readRecs_len d sl b m n j (rs.take j) (by rw [List.length_take, hNN.out]; omega)
      have hsame := readRecs_same d sl b m n (rs.take j)
      rw [hst] at hL hI hP hlen hsame hstep
      obtain ⟨n1, n2, n3⟩ := hlen
      obtain ⟨line, fs⟩ := r
      dsimp only at k0 k1 hF hsr
      have hz := hb.size
      clear hcell hr hst hR
      replace hsame := hide hsame
      obtain ⟨g, hg⟩ : ∃ g, wr.heap.size + 1 = g := ⟨_, rfl⟩
      have hsc0 : Scan ((wr.alloc (.cells #[.int .i64 line, .slice F fs.length c] 27)).alloc (.cells #[.int .i64 line, .slice F fs.length c, .int .i64 0, .pointer none] 140)) g line F fs.length c 0 none :=
        ⟨.pointer none, by rw [← hg]; exact heap_new2 _ _ _, rfl⟩
      have hb1 : Below wr.heap.size wr ((wr.alloc (.cells #[.int .i64 line, .slice F fs.length c] 27)).alloc (.cells #[.int .i64 line, .slice F fs.length c, .int .i64 0, .pointer none] 140)) := (by repeat (first | exact Below.refl _ _ | refine ext_alloc ?_ _ | refine ext_drewN ?_ _ | refine ext_drew ?_ | refine ext_trans ?_ (by assumption)))
      have q0 : ((wr.alloc (.cells #[.int .i64 line, .slice F fs.length c] 27)).alloc (.cells #[.int .i64 line, .slice F fs.length c, .int .i64 0, .pointer none] 140)).cell? ⟨wr.heap.size, 0, none⟩ = some (.int .i64 line) := by simp
      have hgw : wr.heap.size < g := by omega
      replace hg := hide hg
      by_cases hm : fs.length = 2
      · have hm2 : ((fs.length : Int) != 2) = false := by simp; omega
        have h1s : (textAt fs 1).size < 1073741824 := by
          unfold textAt
          rw [List.getD_eq_getElem?_getD, List.getElem?_eq_getElem (by omega)]
          exact hsr.out _ (List.getElem_mem _)
        obtain ⟨A6, c6, rfl⟩ : ∃ A6 c6, u6 = .slice A6 st.ls.length c6 := by obtain ⟨us, -, h, -⟩ := hL; exact owns_form h
        obtain ⟨X1, hX1⟩ := lects_cells hL
        have hu6 : Hid (∀ y, (Value.slice A6 st.ls.length c6).ownBlock = some y → y < wr.heap.size) := by obtain ⟨us, -, h, -⟩ := hL; exact hide fun y e => (h.lt y e).2
        have hu7 : Hid (∀ y, u7.ownBlock = some y → y < wr.heap.size) := hide fun y e => (World.ownsRow.lt hI y e).2
        rw [show recStep d sl b m n st (line, fs) = (match staffP d sl b m n line fs (codesOf st.ls) st.ls.length with | some p => ⟨st.ls, st.lines, st.ps ++ [p]⟩ | none => ⟨st.ls ++ [(textAt fs 0, staffT d sl b m n fs)], st.lines ++ [line], st.ps⟩) from if_pos hm] at hstep
        replace hm := hide hm
        go_wp2_with fail
        rw [hg.out]
        refine (whole_walk g line F fs.length c 0 none false 9 _ hsc0).mono ?_
        rintro e w2 ⟨rfl, hs2, ho2⟩
        have hs2 : Scan w2 g line F fs.length c 0 none := hs2
        have c3 := scan_none hs2
        have hb2 : Below wr.heap.size wr w2 := hb1.trans (Only.below ho2 (by omega) hb1.size)
        have q2 := (ho2.cell (by rw [World.size_alloc, World.size_alloc]; omega) (by omega)).trans q0
        have hLw := hL.later hb2
        have hIw := owns_later hI hb2
        have hPw := owns_later hP hb2
        have hbw : Below w.heap.size w w2 := ext_trans hb hb2
        have hst0 : Stage w.heap.size gb nb g d sl b m n line F fs c 0 none w2 := ⟨hC'.later hb2, hs2, hF.below (hb2.mono hz), hS.after hbw⟩
        have hX2 : CellsAt g w2 A6 2 st.ls.length fun j => [.string (codesOf st.ls j), X1 j] := (hX1.below hb2).more (by omega)
        have v1 : g < w2.heap.size := World.block_lt_of_cell? _ _ c3
        have v0 : wr.heap.size < w2.heap.size := World.block_lt_of_cell? _ _ q2
        clear hsc0 hb1 q0 ho2 hL hI hP hX1 hb2 hb hF hC'
        have hsx := hst0.alloc (by omega) (.cells #[.string ⟨#[]⟩, .slice none 0 0] 47)
        have hXx := hX2.below ((ext_alloc (Below.refl _ _) (.cells #[.string ⟨#[]⟩, .slice none 0 0] 47)).mono (by omega))
        go_upto_region 9 with (go_at_fn 81; refine (lines1_walk w.heap.size gb nb g d sl b m n line F fs c A6 st.ls.length c6 (codesOf st.ls) X1 _ (by omega) (by omega) hsx hm.out (by omega) (by omega) h1s (by omega) hXx).mono ?_; rintro e w3 ⟨v, k, rfl, ht, hs3, ho3⟩; obtain ⟨A7, c7, rfl⟩ := owns_form ht; have x0 : w3.cell? ⟨w2.heap.size, 0, none⟩ = some (.string ⟨#[]⟩) := (ho3.cell (by simp) (by omega)).trans (by simp); have x1 : w3.cell? ⟨w2.heap.size, 1, none⟩ = some (.slice none 0 0) := (ho3.cell (by simp) (by omega)).trans (by simp); have xf0 : w3.frozen? ⟨w2.heap.size, 0, none⟩ = false := (ho3.frozen (by simp) (by omega)).trans (by simp); have xf1 : w3.frozen? ⟨w2.heap.size, 1, none⟩ = false := (ho3.frozen (by simp) (by omega)).trans (by simp))
        have hgx : w2.heap.size ≠ g := by omega
        have t0 : (w3.setCell ⟨w2.heap.size, 0, none⟩ (.string (textAt fs 0))).cell? ⟨w2.heap.size, 0, none⟩ = some (.string (textAt fs 0)) := World.cell?_setCell_same _ _ _ x0
        have t1 : (w3.setCell ⟨w2.heap.size, 0, none⟩ (.string (textAt fs 0))).cell? ⟨w2.heap.size, 1, none⟩ = some (.slice none 0 0) := (World.cell?_setCell_other _ _ _ _ (by simp)).trans x1
        obtain ⟨U, hU⟩ : ∃ U, (w3.setCell ⟨w2.heap.size, 0, none⟩ (.string (textAt fs 0))).setCell ⟨w2.heap.size, 1, none⟩ (.slice A7 (staffT d sl b m n fs).length c7) = U := ⟨_, rfl⟩
        have y0 : U.cell? ⟨w2.heap.size, 0, none⟩ = some (.string (textAt fs 0)) := by rw [← hU]; exact (World.cell?_setCell_other _ _ _ _ (by simp)).trans t0
        have y1 : U.cell? ⟨w2.heap.size, 1, none⟩ = some (.slice A7 (staffT d sl b m n fs).length c7) := by rw [← hU]; exact World.cell?_setCell_same _ _ _ t1
        have hs4 : Scan U g line F fs.length c k (staffP d sl b m n line fs (codesOf st.ls) st.ls.length) := by rw [← hU]; exact scan_set (scan_set hs3 x0 hgx) t0 hgx
        have ho4 : Only g w2 U := by rw [← hU]; exact only_setCell (only_setCell ((Only.later (Only.refl g w2) (ext_alloc (Below.refl _ _) _)).trans ho3) (Or.inr (Nat.le_refl _)) _) (Or.inr (Nat.le_refl _)) _
        have hv4 : (Value.slice A7 (staffT d sl b m n fs).length c7).ownBlock ≠ some w2.heap.size := fun e => by have := (ht.lt _ e).1; rw [World.size_alloc] at this; omega
        have ht4 : TimesOwn w.heap.size U (.slice A7 (staffT d sl b m n fs).length c7) (staffT d sl b m n fs) := by rw [← hU]; exact owns_lower (owns_set (owns_set ht hv4) hv4) (by rw [World.size_alloc]; omega)
        have hL4 := hLw.scan hs2 ho4
        have hI4 := owns_scan hIw hs2 (by decide) ho4
        have hP4 := owns_scan hPw hs2 (by decide) ho4
        have hb4 : Below w.heap.size w U := hbw.trans (Only.below ho4 (by omega) (by omega))
        have q4 := (ho4.cell v0 (by omega)).trans q2
        rw [hU]
        have hzU : w.heap.size ≤ U.heap.size := hb4.size
        clear t0 t1 hU hv4 x0 x1 xf0 xf1 ht hs3 ho3 ho4 hLw hIw hPw hbw hs2 hst0 hX2 hsx hXx c3 q2 eg
        cases hsp : staffP d sl b m n line fs (codesOf st.ls) st.ls.length with
        | some p =>
          rw [hsp] at hs4 hstep
          obtain ⟨line', col, er⟩ := p
          obtain ⟨h, c3, p0, p1, p2, p3⟩ := scan_some hs4
          dsimp only at p0 p1 p2 p3 hstep
          clear hsp hs4 y0 y1 ht4 q4
          have v1 : g < U.heap.size := World.block_lt_of_cell? _ _ c3
          have v2 : h < U.heap.size := World.block_lt_of_cell? _ _ p0
          go_wp2_with (at_builtin; refine wpList_append_own _ rfl _ _ 30 rfl w.heap.size 76 iP (.agg #[.int .i64 0, .int .i64 0, .int .i64 0, .int .i64 0]) 4 32 Tryz.underlying30 hiP hP0 hP1 hP2 rfl (by decide) _ _ _ rfl (hP4.alloc _) ⟨U.heap.size, 0, none⟩ 1 1 (encP (line', col, er)) rfl rfl (new_prob _ _ _ _ _) (one_prob _) ?c3 ?c4 ?c5 ?_)
          case c3 => unfold maxLen; omega
          case c4 => omega
          case c5 => rw [World.size_alloc]; omega
          intro v' w4 hPn hgrow _
          obtain ⟨hLn, hIn⟩ : LectsOwn w.heap.size w4 (.slice A6 st.ls.length c6) st.ls ∧ InsOwn w.heap.size w4 u7 st.lines := by
            refine gath_prob (ps := st.ps) hgrow ?_ ?_ ?_
            · exact hL4.later (ext_alloc (Below.refl _ _) _)
            · exact hI4.alloc _
            · exact hP4.alloc _
          have hbn : Below w.heap.size w w4 := Below.grown (ext_alloc hb4 _) hgrow (by rw [World.size_alloc]; omega) (fun j hj => (hP4.lt j hj).1)
          clear hL4 hI4 hP4 c3 p0 p1 p2 p3 hb4
          go_wp2
          go_roundw
          case rel => exact ⟨j + 1, by rw [hNN.out]; omega, by go_num, by rw [hstep.out]; exact hLn, by rw [hstep.out]; exact hIn, by rw [hstep.out]; unfold ProbsOwn; rw [List.length_append, flatP_snoc]; exact hPn, hbn⟩
          case measure => simp [intOf]; omega
        | none =>
          rw [hsp] at hs4 hstep
          have hc32 := staffP_none hsp
          have c3 := scan_none hs4
          have v1 : g < U.heap.size := World.block_lt_of_cell? _ _ c3
          have v2 : w2.heap.size < U.heap.size := World.block_lt_of_cell? _ _ y0
          dsimp only at hstep
          have hG1 : G1 w (.slice A6 st.ls.length c6) u7 u8 (.slice A7 (staffT d sl b m n fs).length c7) st (textAt fs 0) (staffT d sl b m n fs) w2.heap.size wr.heap.size line U := ⟨hL4, hI4, hP4, ht4, hb4, y0, y1, q4⟩
          have hS1 : GS w2.heap.size wr.heap.size (textAt fs 0) (.slice A7 (staffT d sl b m n fs).length c7) line U := ⟨y0, y1, q4⟩
          have hn6 : Hid (∀ k, U.heap.size ≤ k → some k ≠ (Value.slice A6 st.ls.length c6).ownBlock) := hide fun k hk e => by have := hu6.out k e.symm; omega
          have hx6 : Hid (∀ y, (Value.slice A6 st.ls.length c6).ownBlock = some y → y < w2.heap.size) := hide fun y e => by have := hu6.out y e; omega
          have hx7 : Hid (∀ y, u7.ownBlock = some y → y < w2.heap.size) := hide fun y e => by have := hu7.out y e; omega
          have h33 : st.lines.length < 33 := by omega
          clear hsp hs4 hL4 hI4 hP4 ht4 hb4
          go_upto_region 11 with fail
          clear c3 y0 y1 q4
          have hGd := hG1.drew
          have hSd := GS.drew hS1
          go_region_held3 (fun W' => W'.cell? ⟨w2.heap.size, 0, none⟩ = some (.string (textAt fs 0)) ∧ W'.cell? ⟨w2.heap.size, 1, none⟩ = some (.slice A7 (staffT d sl b m n fs).length c7) ∧ W'.cell? ⟨wr.heap.size, 0, none⟩ = some (.int .i64 line)) (first | ((repeat (first | (with_reducible assumption) | (with_reducible refine GS.alloc ?_ _) | (with_reducible refine GS.drew ?_))); done)) (first | (refine step_lects (w0 := w) (u7 := u7) (u8 := u8) (vt := .slice A7 (staffT d sl b m n fs).length c7) (st := st) (t0 := textAt fs 0) (ts := staffT d sl b m n fs) (xb := w2.heap.size) (rc := wr.heap.size) (line := line) rfl (.tmp 52) (.tmp 54) rfl (by rfl) (by repeat (first | (with_reducible assumption) | (with_reducible refine G1.alloc ?_ _) | (with_reducible refine G1.drew ?_))) hx6.out hu6.out hc32 _ _ (by rfl) (World.news_of_block (cs := #[.string (textAt fs 0), .slice A7 (staffT d sl b m n fs).length c7]) (t := 47) (fr := (0, 0)) (by first | exact heap_alloc_new _ _ | exact heap_new2 _ _ _ | exact (Below.heap_alloc _ _ _ (by first | (simp; done) | (simp; omega))).trans (heap_alloc_new _ _))) rfl ?_; intro gA capA w4 hg2 hs4 hgrow) | (refine step_lines (w0 := w) (v6 := .slice (some ⟨gA, 0, none⟩) (st.ls.length + 1) capA) (u7 := u7) (u8 := u8) (vt := .slice A7 (staffT d sl b m n fs).length c7) (st := st) (t0 := textAt fs 0) (ts := staffT d sl b m n fs) (xb := w2.heap.size) (rc := wr.heap.size) (line := line) rfl (.tmp 56) (.tmp 59) rfl (by rfl) (by repeat (first | (with_reducible assumption) | (with_reducible refine G2.alloc ?_ _) | (with_reducible refine G2.drew ?_))) hx7.out hu7.out h33 _ _ (by rfl) (World.news_of_block (cs := #[.int .i64 line]) (t := 3) (fr := (0, 0)) (by first | exact heap_alloc_new _ _ | exact (hgrow.block _ (by first | (simp; done) | (simp; omega)) (hn6.out _ (by first | omega | (simp; done)))).trans (by first | exact heap_alloc_new _ _ | exact heap_new2 _ _ _ | exact (Below.heap_alloc _ _ _ (by first | (simp; done) | (simp; omega))).trans (heap_alloc_new _ _)))) ?_; intro gB capB w5 hg3 hs5))
          all_goals
            clear hGd hSd hG1 hS1
            go_wp2
            go_roundw
            case rel => exact ⟨j + 1, by rw [hNN.out]; omega, by go_num, by rw [hstep.out]; exact hg3.ls, by rw [hstep.out]; exact hg3.ins, by rw [hstep.out]; exact hg3.ps, hg3.below⟩
            case measure => simp [intOf]; omega
      · have hm2 : ((fs.length : Int) != 2) = true := by simp; omega
        rw [show recStep d sl b m n st (line, fs) = ⟨st.ls, st.lines, st.ps ++ [(line, 0, 9)]⟩ from if_neg hm] at hstep
        replace hm := hide hm
        go_wp2_with fail
        rw [hg.out]
        refine (whole_walk g line F fs.length c 0 none true 9 _ hsc0).mono ?_
        rintro e w2 ⟨rfl, hs2, ho2⟩
        obtain ⟨h, c3, p0, p1, p2, p3⟩ := scan_some hs2
        have hb2 : Below wr.heap.size wr w2 := hb1.trans (Only.below ho2 (by omega) hb1.size)
        have hLw := hL.later hb2
        have hIw := owns_later hI hb2
        have hPw := owns_later hP hb2
        replace hb := ext_trans hb hb2
        clear hsc0 hb1 q0 hs2 ho2 hL hI hP
        dsimp only at p0 p1 p2 p3
        have v1 := World.block_lt_of_cell? _ _ c3
        have v2 := World.block_lt_of_cell? _ _ p0
        go_wp2_with (at_builtin; refine wpList_append_own _ rfl _ _ 30 rfl w.heap.size 76 iP (.agg #[.int .i64 0, .int .i64 0, .int .i64 0, .int .i64 0]) 4 32 Tryz.underlying30 hiP hP0 hP1 hP2 rfl (by decide) _ _ _ rfl ((hPw.alloc _).alloc _) ⟨w2.heap.size + 1, 0, none⟩ 1 1 (encP (line, 0, 9)) rfl rfl ?c0 (one_prob _) ?c3 ?c4 ?c5 ?_)
        case c0 => exact new_prob2 _ _ _ _ _ _
        case c3 => unfold maxLen; omega
        case c4 => omega
        case c5 => rw [World.size_alloc, World.size_alloc]; have := hb.size; omega
        intro v' w4 hPn hgrow _
        obtain ⟨hLn, hIn⟩ : LectsOwn w.heap.size w4 u6 st.ls ∧ InsOwn w.heap.size w4 u7 st.lines := by
          refine gath_prob (ps := st.ps) hgrow ?_ ?_ ?_
          · exact (hLw.later (ext_alloc (Below.refl _ _) _)).later (ext_alloc (Below.refl _ _) _)
          · exact (hIw.alloc _).alloc _
          · exact (hPw.alloc _).alloc _
        have hbn : Below w.heap.size w w4 := Below.grown (ext_alloc (ext_alloc hb _) _) hgrow (by rw [World.size_alloc, World.size_alloc]; have := hb.size; omega) (fun j hj => (hPw.lt j hj).1)
        clear hLw hIw hPw c3 p0 p1 p2 p3 hb hb2
        go_wp2
        go_roundw
        case rel => exact ⟨j + 1, by rw [hNN.out]; omega, by go_num, by rw [hstep.out]; exact hLn, by rw [hstep.out]; exact hIn, by rw [hstep.out]; unfold ProbsOwn; rw [List.length_append, flatP_snoc]; exact hPn, hbn⟩
        case measure => simp [intOf]; omega
    · obtain rfl : j = N := by omega
      have hall : Hid (rs.take j = rs) := hide (by rw [← hNN.out]; exact List.take_length)
      rw [hall.out] at hL hI hP
      clear hall
      go_wp2
      go_ret3
      exact ⟨_, _, _, rfl, hL, hI, hP, hb⟩
end Go.Proofs.YtgbkochjoaalhaaGreatDoor
