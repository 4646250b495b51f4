/- A table of numbers in memory: rows of their own, one behind the other. No condition. A table of ways in memory while it is filled: its box, names, ways, problems and rows. No condition. Walk of slices.Repeat at one int. Conditions: the count is from 1 to 1000. Walk of travel.Read. Conditions: texts shorter than 2^30 bytes. -/
import Derived.Test.YtjcfkbichmlgmaaDoorKWayP
import Derived.Laws.IdiomCopy
import Derived.Lib.SlBuf
import Derived.Deep.RegionLaw
import Derived.BigQuiet
import Derived.BigRegion
namespace Go.Proofs.YtjcfkbichmlgmaaDoor
open Go.RowKit
set_option maxRecDepth 100000

/-- A row of n cells at the head of a block. -/
def kRow (n : Nat) : Kind Nat := ⟨1, fun _ _ h vs => ∃ c, n ≤ c ∧ vs = [.slice (some ⟨h, 0, none⟩) n c], fun h _ => h, fun ⟨_, _, h⟩ => by rw [h]; rfl, fun ⟨_, _, h⟩ u hu => by rw [h] at hu; simp at hu; subst hu; rfl⟩
def ints (x : List Int) : List Value := x.map (Value.int .i64)
def RowOwn (B n : Nat) (w : World) (h : Nat) (x : List Int) : Prop := ∃ c, w.ownsRow B 3 1 (.slice (some ⟨h, 0, none⟩) n c) n (ints x)
theorem RowOwn.kept {B n h : Nat} {w w' : World} {x : List Int} {g : Option Nat} (hr : RowOwn B n w h x) (hg : w.grownBy w' g) (hne : some h ≠ g) : RowOwn B n w' h x := by
  obtain ⟨c, hr⟩ := hr
  exact ⟨c, World.ownsRow.kept hr hg (.inr fun e => hne (by simpa [Value.ownBlock] using e))⟩
theorem RowOwn.lower {B C n h : Nat} {w : World} {x : List Int} (hr : RowOwn B n w h x) (hC : C ≤ B) : RowOwn C n w h x := by
  obtain ⟨c, hr⟩ := hr
  exact ⟨c, owns_lower hr hC⟩
theorem RowOwn.later {B n h : Nat} {w w' : World} {x : List Int} (hr : RowOwn B n w h x) (hb : Below w.heap.size w w') : RowOwn B n w' h x := by
  obtain ⟨c, hr⟩ := hr
  exact ⟨c, owns_later hr hb⟩
theorem row_len {B n h : Nat} {w : World} {x : List Int} (hr : RowOwn B n w h x) : x.length = n := by
  obtain ⟨c, hr⟩ := hr
  have := hr.1
  unfold ints at this
  rw [List.length_map] at this
  omega
theorem row_blk {B n h : Nat} {w : World} {x : List Int} (hr : RowOwn B n w h x) : ∃ cur, B ≤ h ∧ w.heap[h]? = some (.cells cur 3 (0, 0)) := by
  obtain ⟨c, hr⟩ := hr
  rcases hr.2 with ⟨e, _⟩ | ⟨g, cap, cur, e, hB, hg, _⟩
  · cases e
  · injection e with e1 _ _
    injection e1 with e1
    injection e1 with e1
    subst e1
    exact ⟨cur, hB, hg⟩
theorem row_cell {B n h k : Nat} {w : World} {x : List Int} {u : Int} (hr : RowOwn B n w h x) (hk : x[k]? = some u) : w.cell? ⟨h, k, none⟩ = some (.int .i64 u) := by
  obtain ⟨c, hr⟩ := hr
  have := hr.cells (g := h) rfl k (.int .i64 u) (by unfold ints; rw [List.getElem?_map, hk]; rfl)
  rw [Addr.add_lit] at this
  simpa using this
theorem row_free {B n h : Nat} {w : World} {x : List Int} (hr : RowOwn B n w h x) (k : Nat) : w.frozen? ⟨h, k, none⟩ = false := by
  obtain ⟨cur, -, hg⟩ := row_blk hr
  simp [World.frozen?, hg]
theorem row_set {B n h k : Nat} {w : World} {x : List Int} (hr : RowOwn B n w h x) (u : Int) : RowOwn B n (w.setCell ⟨h, k, none⟩ (.int .i64 u)) h (x.set k u) ∧ Only h w (w.setCell ⟨h, k, none⟩ (.int .i64 u)) := by
  obtain ⟨c, hr⟩ := hr
  have := World.ownsRow.stored hr k (.int .i64 u)
  refine ⟨?_, this.2⟩
  have h1 := this.1
  unfold RowOwn ints
  rw [List.map_set]
  exact ⟨c, h1⟩
/-- The table whose rows stand in the blocks hs. -/
structure Mat (n B : Nat) (w : World) (v : Value) (hs : List Nat) (m : List (List Int)) : Prop where
  own : Own (kRow n) 43 [] 0 B w v hs
  len : hs.length = m.length
  inc : hs.Nodup
  row : ∀ (i h : Nat) (x : List Int), hs[i]? = some h → m[i]? = some x → RowOwn B n w h x
theorem Mat.nil {n B : Nat} {w : World} : Mat n B w (.slice none 0 0) [] [] := ⟨Own.nil, rfl, List.nodup_nil, fun i h x hi => by simp at hi⟩
section
variable {n B : Nat} {w w' : World} {v : Value} {hs : List Nat} {m : List (List Int)}
theorem Mat.later (hm : Mat n B w v hs m) (hb : Below w.heap.size w w') : Mat n B w' v hs m :=
  ⟨hm.own.later hb, hm.len, hm.inc, fun i h x h1 h2 => (hm.row i h x h1 h2).later hb⟩
theorem Mat.alloc (hm : Mat n B w v hs m) (o : Obj) : Mat n B (w.alloc o) v hs m := hm.later (ext_alloc (Below.refl _ _) _)
theorem Mat.drew (hm : Mat n B w v hs m) : Mat n B w.drew v hs m := hm.later (ext_drew (Below.refl _ _))
theorem Mat.form (hm : Mat n B w v hs m) : ∃ A c, v = .slice A m.length c := by obtain ⟨A, c, h⟩ := hm.own.form; exact ⟨A, c, by rw [h, hm.len]⟩
theorem Mat.at_ (hm : Mat n B w v hs m) {i : Nat} {x : List Int} (hx : m[i]? = some x) : ∃ h, hs[i]? = some h ∧ RowOwn B n w h x := by
  have hl := (List.getElem?_eq_some_iff.1 hx).1
  have h1 : hs[i]? = some (hs[i]'(by rw [hm.len]; exact hl)) := List.getElem?_eq_getElem _
  exact ⟨_, h1, hm.row i _ x h1 hx⟩
/-- Row i as the table's own cell tells it. -/
theorem Mat.get (hm : Mat n B w v hs m) {i : Nat} {x : List Int} (hx : m[i]? = some x) :
    ∃ g c h ch, v = .slice (some ⟨g, 0, none⟩) m.length c ∧ B ≤ g ∧ g < w.heap.size ∧ w.cell? ⟨g, i, none⟩ = some (.slice (some ⟨h, 0, none⟩) n ch) ∧ hs[i]? = some h ∧ RowOwn B n w h x ∧ h ≠ g := by
  obtain ⟨h, h1, h2⟩ := hm.at_ hx
  have hown := hm.own
  obtain ⟨A, c, rfl, -, hat⟩ := hown.at
  obtain ⟨b, off, vs, rfl, -, hb, hr, hc⟩ := hat.get h1
  obtain ⟨ch, -, rfl⟩ := hr
  obtain ⟨vss, e1, e2, -⟩ := hown
  rcases e2.2 with ⟨e, _⟩ | ⟨g, cap, cur, e, hB, hg, _⟩
  · cases e
  · injection e with q1 _ _
    injection q1 with q1
    injection q1 with q1 q2
    subst q1
    subst q2
    refine ⟨b, c, h, ch, by rw [hm.len], hB, hb, by simpa [kRow] using hc 0 _ rfl, h1, h2, fun e => ?_⟩
    subst e
    obtain ⟨cur2, -, hg2⟩ := row_blk h2
    rw [hg] at hg2
    injection hg2 with q
    injection q with _ q
    revert q
    decide
theorem Mat.set (hm : Mat n B w v hs m) {i k h : Nat} {x : List Int} (h1 : hs[i]? = some h) (h2 : m[i]? = some x) (u : Int) :
    Mat n B (w.setCell ⟨h, k, none⟩ (.int .i64 u)) v hs (m.set i (x.set k u)) ∧ Only h w (w.setCell ⟨h, k, none⟩ (.int .i64 u)) := by
  have hr := hm.row i h x h1 h2
  obtain ⟨cur, hB, hg⟩ := row_blk hr
  obtain ⟨s1, s2⟩ := row_set (k := k) hr u
  refine ⟨⟨hm.own.only s2 hg (Nat.zero_le _) (by decide) (by simp), by rw [List.length_set]; exact hm.len, hm.inc, fun j b y q1 q2 => ?_⟩, s2⟩
  by_cases hj : i = j
  · subst hj
    rw [h1] at q1
    obtain rfl := Option.some.inj q1
    have hl := (List.getElem?_eq_some_iff.1 h2).1
    rw [List.getElem?_set_self hl] at q2
    obtain rfl := Option.some.inj q2
    exact s1
  · rw [List.getElem?_set_ne hj] at q2
    have hne : h ≠ b := fun e => by
      subst e
      have ha := (List.getElem?_eq_some_iff.1 h1)
      have hb := (List.getElem?_eq_some_iff.1 q1)
      obtain ⟨a1, a2⟩ := ha
      obtain ⟨b1, b2⟩ := hb
      exact hj ((List.getElem_inj hm.inc).1 (a2.trans b2.symm))
    have hb := hm.row j b y q1 q2
    exact hb.kept s2 (fun e => hne (Option.some.inj e).symm)
/-- A row is appended. -/
theorem Mat.snoc {v' : Value} {h : Nat} {x : List Int} (hm : Mat n B w v hs m) (hr : RowOwn B n w h x) (hn : ∀ b ∈ hs, b ≠ h) (hg : w.grownBy w' v.ownBlock) (ho : Own (kRow n) 43 [] 0 B w' v' (hs ++ [h])) : Mat n B w' v' (hs ++ [h]) (m ++ [x]) := by
  have hkeep : ∀ {b : Nat} {y : List Int}, RowOwn B n w b y → RowOwn B n w' b y := fun {b y} hb => by
    obtain ⟨cur, hB, hgb⟩ := row_blk hb
    refine hb.kept hg (fun e => ?_)
    obtain ⟨vss, e1, e2, -⟩ := hm.own
    rcases e2.2 with ⟨e3, _⟩ | ⟨g, cap, cur2, e3, hB2, hg2, _⟩
    · rw [e3] at e; simp [Value.ownBlock] at e
    · rw [e3] at e
      have : b = g := by simpa [Value.ownBlock] using e
      subst this
      rw [hgb] at hg2
      injection hg2 with q
      injection q with _ q
      revert q
      decide
  refine ⟨ho, by simp [hm.len], List.nodup_append.2 ⟨hm.inc, by simp, fun a ha b hb => ?_⟩, fun i b y q1 q2 => ?_⟩
  · obtain rfl := List.mem_singleton.1 hb
    exact hn a ha
  · by_cases hi : i < hs.length
    · rw [List.getElem?_append_left hi] at q1
      rw [List.getElem?_append_left (by rw [← hm.len]; exact hi)] at q2
      exact hkeep (hm.row i b y q1 q2)
    · have hi2 : i = hs.length := by
        have := (List.getElem?_eq_some_iff.1 q1).1
        simp at this
        omega
      subst hi2
      rw [List.getElem?_append_right (Nat.le_refl _)] at q1
      rw [List.getElem?_append_right (by rw [hm.len]; exact Nat.le_refl _)] at q2
      simp at q1
      simp [hm.len] at q2
      subst q1
      subst q2
      exact hkeep hr
theorem Mat.lt (hm : Mat n B w v hs m) : ∀ b ∈ hs, B ≤ b ∧ b < w.heap.size := by
  intro b hb
  obtain ⟨i, hi⟩ := List.getElem?_of_mem hb
  have hl := (List.getElem?_eq_some_iff.1 hi).1
  have h2 : m[i]? = some (m[i]'(by rw [← hm.len]; exact hl)) := List.getElem?_eq_getElem _
  obtain ⟨cur, hB, hg⟩ := row_blk (hm.row i b _ hi h2)
  exact ⟨hB, blk_lt hg⟩
/-- The table as data. -/
theorem Mat.any (hm : Mat n B w v hs m) : ∃ A c, v = .slice A m.length c ∧ m.length ≤ c ∧ At (kSlice kInt) AnyB w A m := by
  obtain ⟨A, c, rfl, hc, hat⟩ := hm.own.at
  rw [hm.len] at hc ⊢
  refine ⟨A, c, rfl, hc, fun hn => ?_⟩
  obtain ⟨b, off, e, -, hb, hcell⟩ := hat (by rw [hm.len]; exact hn)
  refine ⟨b, off, e, trivial, hb, fun j x hx => ?_⟩
  obtain ⟨h, h1, h2⟩ := hm.at_ hx
  obtain ⟨vs, hr, hcs⟩ := hcell j h h1
  obtain ⟨ch, hcl, rfl⟩ := hr
  have hxl := row_len h2
  obtain ⟨cur, -, hg⟩ := row_blk h2
  refine ⟨_, ⟨some ⟨h, 0, none⟩, ch, by rw [hxl], by rw [hxl]; exact hcl, fun _ => ⟨h, 0, rfl, trivial, blk_lt hg, fun k u hu => ⟨[.int .i64 u], rfl, fun i y hy => ?_⟩⟩⟩, hcs⟩
  match i, hy with
  | 0, hy =>
    simp at hy
    subst hy
    simpa [kInt] using row_cell h2 hu
  | i + 1, hy => simp at hy
end
/-! The tables themselves. -/
def unkRow (n i : Nat) : List Int := (List.replicate n (-1)).set i 0
def unkM (n : Nat) : List (List Int) := (List.range n).map (unkRow n)
def setM (m : List (List Int)) (i k : Nat) (u : Int) : List (List Int) := m.modify i (·.set k u)
/-- A way is entered, both ways. -/
def putW (names : List ByteArray) (m : List (List Int)) (x : Way) : List (List Int) :=
  setM (setM m (idxS x.1 names).toNat (idxS x.2.1 names).toNat x.2.2) (idxS x.2.1 names).toNat (idxS x.1 names).toNat x.2.2
def tabM (names : List ByteArray) (ws : List Way) : List (List Int) := ws.foldl (putW names) (unkM names.length)
def Sq (n : Nat) (m : List (List Int)) : Prop := m.length = n ∧ ∀ x ∈ m, x.length = n
theorem sq_unk (n : Nat) : Sq n (unkM n) := by
  refine ⟨by simp [unkM], fun x hx => ?_⟩
  obtain ⟨i, -, rfl⟩ := List.mem_map.1 hx
  simp [unkRow]
theorem sq_set {n i k : Nat} {m : List (List Int)} {u : Int} (h : Sq n m) : Sq n (setM m i k u) := by
  refine ⟨by simp [setM, h.1], fun x hx => ?_⟩
  obtain ⟨j, hj⟩ := List.getElem?_of_mem hx
  unfold setM at hj
  rw [List.getElem?_modify] at hj
  obtain ⟨y, hy, rfl⟩ := Option.map_eq_some_iff.1 hj
  have := h.2 y (List.mem_of_getElem? hy)
  split
  · simpa using this
  · exact this
theorem sq_put {n : Nat} {names : List ByteArray} {m : List (List Int)} {x : Way} (h : Sq n m) : Sq n (putW names m x) := sq_set (sq_set h)
theorem sq_fold {n : Nat} {names : List ByteArray} : ∀ (ws : List Way) {m : List (List Int)}, Sq n m → Sq n (ws.foldl (putW names) m)
  | [], _, h => h
  | _ :: ws, _, h => sq_fold ws (sq_put h)
theorem sq_tab (names : List ByteArray) (ws : List Way) : Sq names.length (tabM names ws) := sq_fold ws (sq_unk _)
theorem sq_row {n i : Nat} {m : List (List Int)} (h : Sq n m) (hi : i < n) : ∃ x, m[i]? = some x ∧ x.length = n := by
  have h1 : m[i]? = some (m[i]'(by rw [h.1]; exact hi)) := List.getElem?_eq_getElem _
  exact ⟨_, h1, h.2 _ (List.mem_of_getElem? h1)⟩
theorem setM_eq {m : List (List Int)} {i k : Nat} {x : List Int} {u : Int} (hx : m[i]? = some x) : setM m i k u = m.set i (x.set k u) := by
  unfold setM
  have hl := (List.getElem?_eq_some_iff.1 hx).1
  apply List.ext_getElem?
  intro j
  rw [List.getElem?_modify, List.getElem?_set]
  by_cases e : i = j
  · subst e
    rw [hx, if_pos rfl, if_pos hl]
    simp
  · rw [if_neg e]
    simp [e]
theorem take_put (names : List ByteArray) (ws : List Way) {j : Nat} {x : Way} (h : ws[j]? = some x) (m : List (List Int)) : (ws.take (j + 1)).foldl (putW names) m = putW names ((ws.take j).foldl (putW names) m) x := by
  rw [List.take_add_one, h, List.foldl_append]; rfl
theorem unk_snoc (n j : Nat) (hj : j < n) : (unkM n).take (j + 1) = (unkM n).take j ++ [unkRow n j] := by
  rw [List.take_add_one]
  unfold unkM
  rw [List.getElem?_map, List.getElem?_range hj]
  rfl
theorem idxFrom_lt {z : ByteArray} : ∀ (l : List ByteArray) (i : Int), 0 ≤ i → idxFrom z l i < i + l.length ∨ idxFrom z l i = -1
  | [], i, _ => .inr rfl
  | x :: l, i, hi => by
    rw [idxFrom]
    split
    · left; simp only [List.length_cons]; omega
    · rcases idxFrom_lt (z := z) l (i + 1) (by omega) with h | h
      · left; simp only [List.length_cons]; omega
      · exact .inr h
theorem idxS_lt (z : ByteArray) (l : List ByteArray) : idxS z l < l.length := by
  rcases idxFrom_lt l 0 (Int.le_refl _) (z := z) with h | h
  · unfold idxS; omega
  · unfold idxS; omega
end Go.Proofs.YtjcfkbichmlgmaaDoor

namespace Go.Proofs.YtjcfkbichmlgmaaDoor
open Go.RowKit
set_option maxRecDepth 100000

theorem owns_apart {B k n g : Nat} {t e : TypeId} {w w' : World} {v : Value} {xs : List Value} {cs : Array Value} (h : w.ownsRow B t k v n xs) (ho : Only g w w') (hg : w.heap[g]? = some (.cells cs e (0, 0))) (hne : t ≠ e) : w'.ownsRow B t k v n xs := by
  refine World.ownsRow.kept h ho ?_
  rcases h.2 with ⟨rfl, _⟩ | ⟨x, cap, cur, rfl, _, hx, _⟩
  · exact .inl rfl
  · refine .inr fun e2 => ?_
    have : x = g := by simpa [Value.ownBlock] using e2
    subst this
    rw [hx] at hg
    injection hg with h3
    injection h3 with _ h4
    exact hne h4
/-- A table's two cells. -/
abbrev TBox (W : World) (g : Nat) (a v : Value) : Prop := W.heap[g]? = some (.cells #[a, v] 25 (0, 0))
section
variable {W W' : World} {g : Nat} {a v : Value}
theorem tbox_later (h : TBox W g a v) (hb : Below W.heap.size W W') : TBox W' g a v := (hb.block g (blk_lt h)).trans h
theorem tbox_cells (h : TBox W g a v) : W.cell? ⟨g, 0, none⟩ = some a ∧ W.cell? ⟨g, 1, none⟩ = some v ∧ W.frozen? ⟨g, 0, none⟩ = false ∧ W.frozen? ⟨g, 1, none⟩ = false := by
  refine ⟨?_, ?_, by simp [World.frozen?, h], by simp [World.frozen?, h]⟩ <;> rw [cell_of_row W g _ _ _ _ h] <;> rfl
theorem tbox_ne {b : Nat} {cs : Array Value} {e : TypeId} (h : TBox W g a v) (hg : W.heap[b]? = some (.cells cs e (0, 0))) (hne : e ≠ 25) : g ≠ b := fun e2 => by
  subst e2
  rw [h] at hg
  injection hg with h3
  injection h3 with _ h4
  exact hne h4.symm
theorem tbox_only {b : Nat} (h : TBox W g a v) (ho : Only b W W') (hne : g ≠ b) : TBox W' g a v :=
  (ho.block g (blk_lt h) (fun e => hne (Option.some.inj e))).trans h
theorem tbox_grown {u : Value} (h : TBox W g a v) (hg : W.grownBy W' u.ownBlock) (hne : some g ≠ u.ownBlock) : TBox W' g a v :=
  (hg.block g (blk_lt h) hne).trans h
theorem tbox_set (h : TBox W g a v) (u : Value) : TBox (W.setCell ⟨g, 1, none⟩ u) g a u := by
  unfold TBox at h ⊢
  simp [World.setCell, Array.getElem?_modify, h]
end
/-- What lies beside the box. -/
structure TR (tw : TypeId) (w0 : World) (u4 u6 a v : Value) (ws : List Way) (ps : List Prob) (names : List ByteArray) (n : Nat) (hs : List Nat) (m : List (List Int)) (W : World) : Prop where
  nms : Own kStr 9 [] 0 w0.heap.size W a names
  ways : Own kWay tw [] 0 w0.heap.size W u4 ws
  ps : ProbsOwn w0.heap.size W u6 ps
  mat : Mat n w0.heap.size W v hs m
  below : Below w0.heap.size w0 W
def ApartW (t : TypeId) : Prop := t ≠ 25 ∧ t ≠ 3 ∧ t ≠ 43
section
variable {tw : TypeId} {w0 W W' : World} {u4 u6 a v : Value} {ws : List Way} {ps : List Prob} {names : List ByteArray} {n : Nat} {hs : List Nat} {m : List (List Int)}
theorem TR.later (h : TR tw w0 u4 u6 a v ws ps names n hs m W) (hb : Below W.heap.size W W') : TR tw w0 u4 u6 a v ws ps names n hs m W' :=
  ⟨h.nms.later hb, h.ways.later hb, owns_later h.ps hb, h.mat.later hb, ext_trans h.below hb⟩
theorem TR.alloc (h : TR tw w0 u4 u6 a v ws ps names n hs m W) (o : Obj) : TR tw w0 u4 u6 a v ws ps names n hs m (W.alloc o) := h.later (ext_alloc (Below.refl _ _) _)
theorem TR.drew (h : TR tw w0 u4 u6 a v ws ps names n hs m W) : TR tw w0 u4 u6 a v ws ps names n hs m W.drew := h.later (ext_drew (Below.refl _ _))
theorem mat_only {B g : Nat} {cs : Array Value} {e : TypeId} (h : Mat n B W v hs m) (ho : Only g W W') (hg : W.heap[g]? = some (.cells cs e (0, 0))) (h1 : e ≠ 3) (h2 : e ≠ 43) : Mat n B W' v hs m :=
  ⟨h.own.only ho hg (Nat.zero_le _) (fun q => h2 q.symm) (by simp), h.len, h.inc, fun i b x q1 q2 => by obtain ⟨c, hr⟩ := h.row i b x q1 q2; exact ⟨c, owns_apart hr ho hg fun q => h1 q.symm⟩⟩
/-- A box is written. -/
theorem TR.only {g : Nat} {x y : Value} (h : TR tw w0 u4 u6 a v ws ps names n hs m W) (ha : ApartW tw) (ho : Only g W W') (hg : TBox W g x y) (hi : w0.heap.size ≤ g) : TR tw w0 u4 u6 a v ws ps names n hs m W' :=
  ⟨h.nms.only ho hg (Nat.zero_le _) (by decide) (by simp), h.ways.only ho hg (Nat.zero_le _) ha.1 (by simp), owns_apart h.ps ho hg (by decide), mat_only h.mat ho hg (by decide) (by decide), h.below.trans (Only.below ho hi h.below.size)⟩
/-- An entry is written. -/
theorem TR.row {i k b : Nat} {x : List Int} (h : TR tw w0 u4 u6 a v ws ps names n hs m W) (ha : ApartW tw) (h1 : hs[i]? = some b) (h2 : m[i]? = some x) (u : Int) :
    TR tw w0 u4 u6 a v ws ps names n hs (setM m i k u) (W.setCell ⟨b, k, none⟩ (.int .i64 u)) := by
  obtain ⟨s1, s2⟩ := h.mat.set h1 h2 u (k := k)
  obtain ⟨cur, hB, hg⟩ := row_blk (h.mat.row i b x h1 h2)
  rw [setM_eq h2]
  exact ⟨h.nms.only s2 hg (Nat.zero_le _) (by decide) (by simp), h.ways.only s2 hg (Nat.zero_le _) ha.2.1 (by simp), owns_apart h.ps s2 hg (by decide), s1, h.below.trans (Only.below s2 hB h.below.size)⟩
theorem tbox_row {g i k b B : Nat} {x : List Int} {c d : Value} (hb : TBox W g c d) (h : Mat n B W v hs m) (h1 : hs[i]? = some b) (h2 : m[i]? = some x) (u : Value) : TBox (W.setCell ⟨b, k, none⟩ u) g c d := by
  obtain ⟨cur, hB, hg⟩ := row_blk (h.row i b x h1 h2)
  exact tbox_only hb (only_setCell (Only.refl b W) (Or.inl rfl) u) (tbox_ne hb hg (by decide))
/-- A row beside the table is written. -/
theorem TR.beside {k b B q : Nat} {x : List Int} (h : TR tw w0 u4 u6 a v ws ps names n hs m W) (ha : ApartW tw) (hr : RowOwn B q W b x) (hB : w0.heap.size ≤ b) (hn : ∀ c ∈ hs, c ≠ b) (u : Value) : TR tw w0 u4 u6 a v ws ps names n hs m (W.setCell ⟨b, k, none⟩ u) := by
  have ho : Only b W (W.setCell ⟨b, k, none⟩ u) := only_setCell (Only.refl b W) (Or.inl rfl) u
  obtain ⟨cur, -, hg⟩ := row_blk hr
  refine ⟨h.nms.only ho hg (Nat.zero_le _) (by decide) (by simp), h.ways.only ho hg (Nat.zero_le _) ha.2.1 (by simp), owns_apart h.ps ho hg (by decide), ?_, h.below.trans (Only.below ho hB h.below.size)⟩
  refine ⟨h.mat.own.only ho hg (Nat.zero_le _) (by decide) (by simp), h.mat.len, h.mat.inc, fun i c y q1 q2 => (h.mat.row i c y q1 q2).kept ho (fun e => hn c (List.mem_of_getElem? q1) (Option.some.inj e))⟩
/-- A row is appended. -/
theorem TR.snoc {b : Nat} {x : List Int} {v' : Value} (h : TR tw w0 u4 u6 a v ws ps names n hs m W) (ha : ApartW tw) (hr : RowOwn w0.heap.size n W b x) (hn : ∀ c ∈ hs, c ≠ b) (hg : W.grownBy W' v.ownBlock) (ho : Own (kRow n) 43 [] 0 w0.heap.size W' v' (hs ++ [b])) :
    TR tw w0 u4 u6 a v' ws ps names n (hs ++ [b]) (m ++ [x]) W' := by
  have hm := h.mat.snoc hr hn hg ho
  obtain ⟨vss, -, e2, -⟩ := h.mat.own
  exact ⟨h.nms.grown e2 (Nat.zero_le _) hg (by decide) (by decide), h.ways.grown e2 (Nat.zero_le _) hg ha.2.2 (by decide), World.ownsRow.kept h.ps hg (own_ne h.ps e2 (by decide)), hm, Below.grown h.below hg h.below.size (fun y hy => (e2.lt y hy).1)⟩
theorem tbox_snoc {g B : Nat} {c d : Value} (hb : TBox W g c d) (h : Mat n B W v hs m) (hg : W.grownBy W' v.ownBlock) : TBox W' g c d := by
  obtain ⟨vss, -, e2, -⟩ := h.own
  exact tbox_grown hb hg (own_ne_blk e2 hb (by decide))
end
theorem apd_rows (n : Nat) : Apd Tryd.prog 23 43 (kRow n).k 24 := apd Tryd.underlying23 (z := .slice none 0 0) (by kernel_rfl) rfl
theorem load2v (w : World) (g : Nat) (a b : Value) (h0 : w.cell? ⟨g, 0, none⟩ = some a) (h1 : w.cell? ⟨g, 1, none⟩ = some b) :
    (loadVar 25 ⟨g, 0, none⟩).run Tryd.prog w = .ok (.agg #[a, b]) w := by
  simp [go_sem, h0, h1]
theorem end_trav2 {fn : Func} {p u : Tmp} (hr : fn.results = #[.cell p 25, .tmp u]) {Q : Ending → World → Prop} {act : Act} {w : World} (g : Nat) (a b x : Value) (hd : act.defers = [])
    (hp : act.tmps.getD p undef = .pointer (some ⟨g, 0, none⟩)) (hx : act.tmps.getD u undef = x)
    (h0 : w.cell? ⟨g, 0, none⟩ = some a) (h1 : w.cell? ⟨g, 1, none⟩ = some b)
    (hQ : Q (.returned (.tuple #[.agg #[a, b], x])) w) : bodyPost Tryd.prog fn Q .ret act w := by
  refine bodyPost_ret (v := .tuple #[.agg #[a, b], x]) ?_ hd hQ
  simp only [results, hr]
  simp [Sem.run_bind, Result.andThen, -Array.getD_eq_getD_getElem?]
  rw [hp, hx]
  simp only [asAddr, Sem.run_pure]
  rw [load2v w g a b h0 h1]
theorem end_trav1 {fn : Func} {p : Tmp} (hr : fn.results = #[.cell p 25]) {Q : Ending → World → Prop} {act : Act} {w : World} (g : Nat) (a b : Value) (hd : act.defers = [])
    (hp : act.tmps.getD p undef = .pointer (some ⟨g, 0, none⟩))
    (h0 : w.cell? ⟨g, 0, none⟩ = some a) (h1 : w.cell? ⟨g, 1, none⟩ = some b)
    (hQ : Q (.returned (.agg #[a, b])) w) : bodyPost Tryd.prog fn Q .ret act w := by
  refine bodyPost_ret (v := .agg #[a, b]) ?_ hd hQ
  simp only [results, hr]
  simp [Sem.run_bind, Result.andThen, -Array.getD_eq_getD_getElem?]
  rw [hp]
  simp only [asAddr, Sem.run_pure]
  rw [load2v w g a b h0 h1]
end Go.Proofs.YtjcfkbichmlgmaaDoor

namespace Go.Proofs.YtjcfkbichmlgmaaDoor
open Go.RowKit
set_option maxRecDepth 100000

def putAll {α : Type} (xs : List α) (o : Nat) : List α → List α
  | [] => xs
  | c :: r => putAll (xs.set o c) (o + 1) r
theorem owns_setCells {B h N : Nat} {t : TypeId} : ∀ (cs : List Value) (o : Nat) (xs : List Value) (w : World), w.ownsRow B t 1 (.slice (some ⟨h, 0, none⟩) N N) N xs →
    (w.setCells h o cs).ownsRow B t 1 (.slice (some ⟨h, 0, none⟩) N N) N (putAll xs o cs) ∧ Only h w (w.setCells h o cs)
  | [], o, xs, w, hr => ⟨hr, Only.refl _ _⟩
  | c :: r, o, xs, w, hr => by
    have h1 := World.ownsRow.stored hr o c
    have h2 := owns_setCells r (o + 1) (xs.set o c) _ h1.1
    exact ⟨h2.1, h1.2.trans h2.2⟩
theorem putAll_rep {α : Type} (u z : α) : ∀ (j n k : Nat), j ≤ k → putAll (List.replicate n u ++ List.replicate k z) n (List.replicate j u) = List.replicate (n + j) u ++ List.replicate (k - j) z
  | 0, n, k, _ => by simp [putAll]
  | j + 1, n, k, hk => by
    obtain ⟨k, rfl⟩ : ∃ k', k = k' + 1 := ⟨k - 1, by omega⟩
    rw [List.replicate_succ (n := j)]
    show putAll ((List.replicate n u ++ List.replicate (k + 1) z).set n u) (n + 1) (List.replicate j u) = _
    rw [show (List.replicate n u ++ List.replicate (k + 1) z).set n u = List.replicate (n + 1) u ++ List.replicate k z from by
      rw [List.set_append_right _ _ (by simp), List.length_replicate, Nat.sub_self, List.replicate_succ (n := k), List.set_cons_zero, List.replicate_succ' (n := n), List.append_assoc]; rfl]
    rw [putAll_rep u z j (n + 1) k (by omega), show n + 1 + j = n + (j + 1) from by omega, show k + 1 - (j + 1) = k - j from by omega]
theorem info_int : (Tryd.prog.info? 3).map (·.size) = some 1 := by kernel_rfl
theorem infoInt3 : (Tryd.prog.info? 3).map (fun i => (i.zero, i.size, i.bytes)) = some (some (.int .i64 0), 1, 8) := by kernel_rfl
/-- One copying of a filled head behind itself. -/
theorem copy_head {B h N n : Nat} {u : Int} {w : World} (ty : TypeId) (hr : w.ownsRow B 3 1 (.slice (some ⟨h, 0, none⟩) N N) N (List.replicate n (Value.int .i64 u) ++ List.replicate (N - n) (Value.int .i64 0))) (_h0 : 0 < n) (hn : n < N) :
    ∃ j w', 0 < j ∧ n + j ≤ N ∧ (Builtin.copy_ #[43, 43] ty #[.slice (some ⟨h, n, none⟩) (N - n) (N - n), .slice (some ⟨h, 0, none⟩) n N]).run Tryd.prog w = .ok (.int .i64 (j : Int)) w' ∧
      w'.ownsRow B 3 1 (.slice (some ⟨h, 0, none⟩) N N) N (List.replicate (n + j) (Value.int .i64 u) ++ List.replicate (N - (n + j)) (Value.int .i64 0)) ∧ Only h w w' := by
  have hlen : (List.replicate n (Value.int .i64 u) ++ List.replicate (N - n) (Value.int .i64 0)).length = N := by simp; omega
  obtain ⟨cur, hgg⟩ : ∃ cur, w.heap[h]? = some (.cells cur 3 (0, 0)) := by
    rcases hr.2 with ⟨e, _⟩ | ⟨g, cap, cur, e, hB, hg, _⟩
    · cases e
    · injection e with e1 _ _
      injection e1 with e1
      injection e1 with e1
      subst e1
      exact ⟨cur, hg⟩
  have hcell : ∀ i, i < N → (w.cell? ⟨h, i, none⟩).isSome = true := fun i hi => by
    have := hr.cells (g := h) rfl i _ (List.getElem?_eq_getElem (by rw [hlen]; exact hi))
    rw [Addr.add_lit] at this
    rw [show (0 + i) = i from Nat.zero_add i] at this
    rw [this]; rfl
  have hrun := run_copy_cells (P := Tryd.prog) w 43 43 ty 3 h n (N - n) (N - n) ⟨h, 0, none⟩ n N (List.replicate (Nat.min n (N - n)) (.int .i64 u)) Tryd.underlying43 info_int (by simp)
    (fun j v hj => by
      obtain ⟨hj1, hj2⟩ := List.getElem?_eq_some_iff.1 hj
      rw [List.length_replicate] at hj1
      have hjn : j < n := Nat.lt_of_lt_of_le hj1 (Nat.min_le_left _ _)
      rw [List.getElem_replicate] at hj2
      subst hj2
      exact hr.cells (g := h) rfl j _ (by rw [List.getElem?_append_left (by simpa using hjn), List.getElem?_eq_getElem (by simpa using hjn)]; simp))
    (fun j hj => by rw [List.length_replicate] at hj; have : j < N - n := Nat.lt_of_lt_of_le hj (Nat.min_le_right _ _); exact hcell _ (by omega))
    (fun j _ => by simp [World.frozen?, hgg])
    (fun v hv => by obtain ⟨-, rfl⟩ := List.mem_replicate.1 hv; rfl)
  rw [List.length_replicate] at hrun
  obtain ⟨h1, h2⟩ := owns_setCells (List.replicate (Nat.min n (N - n)) (.int .i64 u)) n _ w hr
  rw [putAll_rep _ _ _ _ _ (Nat.min_le_right _ _)] at h1
  have hm : 0 < Nat.min n (N - n) := by rw [Nat.lt_min]; omega
  have hm2 : Nat.min n (N - n) ≤ N - n := Nat.min_le_right _ _
  refine ⟨Nat.min n (N - n), _, hm, by omega, hrun, ?_, h2⟩
  rw [show N - (n + Nat.min n (N - n)) = N - n - Nat.min n (N - n) from by omega]
  exact h1
theorem copy_first {B h N a c : Nat} {u : Int} {w : World} (ty : TypeId) (hr : w.ownsRow B 3 1 (.slice (some ⟨h, 0, none⟩) N N) N (List.replicate N (Value.int .i64 0))) (h0 : 0 < N) (hc : w.cell? ⟨a, 0, none⟩ = some (.int .i64 u)) :
    ∃ w', (Builtin.copy_ #[43, 43] ty #[.slice (some ⟨h, 0, none⟩) N N, .slice (some ⟨a, 0, none⟩) 1 c]).run Tryd.prog w = .ok (.int .i64 1) w' ∧
      w'.ownsRow B 3 1 (.slice (some ⟨h, 0, none⟩) N N) N (List.replicate 1 (Value.int .i64 u) ++ List.replicate (N - 1) (Value.int .i64 0)) ∧ Only h w w' := by
  obtain ⟨cur, hgg⟩ : ∃ cur, w.heap[h]? = some (.cells cur 3 (0, 0)) := by
    rcases hr.2 with ⟨e, _⟩ | ⟨g, cap, cur, e, hB, hg, _⟩
    · cases e
    · injection e with e1 _ _
      injection e1 with e1
      injection e1 with e1
      subst e1
      exact ⟨cur, hg⟩
  have hrun := run_copy_cells (P := Tryd.prog) w 43 43 ty 3 h 0 N N ⟨a, 0, none⟩ 1 c [.int .i64 u] Tryd.underlying43 info_int (Nat.min_eq_left h0).symm
    (fun j v hj => by
      match j, hj with
      | 0, hj => simp at hj; subst hj; exact hc
      | j + 1, hj => simp at hj)
    (fun j hj => by
      obtain rfl : j = 0 := by simpa using hj
      have := hr.cells (g := h) rfl 0 (.int .i64 0) (by rw [List.getElem?_eq_getElem (by simpa using h0)]; simp)
      rw [Addr.add_lit] at this
      rw [this]; rfl)
    (fun j _ => by simp [World.frozen?, hgg])
    (fun v hv => by obtain rfl := List.mem_singleton.1 hv; rfl)
  obtain ⟨h1, h2⟩ := owns_setCells [.int .i64 u] 0 _ w hr
  have e := putAll_rep (Value.int .i64 u) (.int .i64 0) 1 0 N (by omega)
  simp only [List.replicate_zero, List.nil_append, Nat.zero_add, List.replicate_one] at e
  rw [e] at h1
  exact ⟨_, hrun, h1, h2⟩
def RepEnd (N : Nat) (u : Int) (w : World) (e : Ending) (w' : World) : Prop :=
  ∃ h, e = .returned (.slice (some ⟨h, 0, none⟩) N N) ∧ w.heap.size ≤ h ∧ RowOwn w.heap.size N w' h (List.replicate N u) ∧ Below w.heap.size w w'
theorem step_copy_run {P : Program} {ops : Array Oper} {o : Oper} {a : Act} {w : World} {K : Act → World → Prop} {Q : Exit → Act → World → Prop} {E : Prop}
    (hg : o.guard = none) (d x : Operand) (dT sT : TypeId) (hop : o.op = Op.call { callee := Callee.builtin Builtin.copy, args := #[d, x], argTypes := #[dT, sT] })
    (v u : Value) (hd : a.eval d = v) (hx : a.eval x = u) {v' : Value} {w' : World} (hr : (Builtin.copy_ #[dT, sT] o.type #[v, u]).run P w = .ok v' w') (hK : K (a.put o.dst v') w') :
    if Region.wanted o (yielded ops a.tmps) = true then Oper.wp P o a w K Q else E := by
  have hw : Region.wanted o (yielded ops a.tmps) = true := by simp [Region.wanted, hg]
  rw [if_pos hw]
  exact Lib.wp_copy_run w d x dT sT hop v u hd hx hr hK
set_option maxHeartbeats 4000000 in
theorem repeat_walk (a c N : Nat) (u : Int) (w : World) (hc : w.cell? ⟨a, 0, none⟩ = some (.int .i64 u)) (h1 : 1 ≤ N) (h2 : N ≤ 1000) :
    Calls Tryd.prog 41 #[.slice (some ⟨a, 0, none⟩) 1 c, .int .i64 N] w fun e w' => RepEnd N u w e w' := by
  have hmul : ∀ W : World, Calls Tryd.prog 51 #[.int .u64 1, .int .u64 N] W fun e w' => e = .returned (.tuple #[.int .u64 0, .int .u64 N]) ∧ w' = W := by
    intro W
    have h := Tryd.bits_Mul 1 N (by omega) (by omega) W
    rw [show (1 * N / 18446744073709551616 : Nat) = 0 from by omega, show (1 * N % 18446744073709551616 : Nat) = N from by omega] at h
    exact h
  obtain ⟨iI, hiI, hI0, hI1, hI2⟩ := info_parts infoInt3
  have hw1 : IntKind.u64.wrap (N : Int) = (N : Int) := by rw [IntKind.wrap_u64]; omega
  have hw2 : IntKind.i64.wrap (N : Int) = (N : Int) := by rw [IntKind.wrap_i64]; omega
  have hn0 : ((N : Int) < 0) = False := by simp
  have hn1 : ((9223372036854775807 : Int) < (N : Int)) = False := by simp; omega
  go_enter Tryd.func41, Tryd.ntmps41
  go_wp2_with (first | (go_at_call 51; refine (hmul _).mono ?_; rintro e w1 ⟨rfl, hww⟩; rw [hww]; clear hww) | (at_make; refine wpList_make_full _ rfl _ _ 43 rfl w.heap.size 3 iI (.int .i64 0) 1 Tryd.underlying43 hiI hI0 hI1 .i64 .i64 N N N rfl rfl rfl rfl ?b2 ?b3 ?b4 ?_))
  case b2 => rw [hI2]; omega
  case b3 => unfold maxLen; omega
  case b4 => exact Nat.le_refl _
  intro w2 hown hgrow
  have hbw : Below w.heap.size w w2 := Below.grown (Below.refl _ _) hgrow (Nat.le_refl _) (fun k hk => by cases hk)
  rw [toList_madeCells_one] at hown
  have hc2 := cell_later hbw hc
  obtain ⟨h, hh⟩ : ∃ h, w.heap.size = h := ⟨_, rfl⟩
  rw [hh] at hown ⊢
  obtain ⟨w3, hrun, hown3, ho3⟩ := copy_first (c := c) (ty := 3) hown (by omega) hc2
  have hbw3 : Below w.heap.size w w3 := hbw.trans (Only.below ho3 (by omega) hbw.size)
  clear hown hc hc2 hgrow hmul
  go_wp2_with (refine Lib.wpList_copy_run _ rfl _ _ 43 43 rfl _ _ rfl rfl hrun ?_)
  obtain ⟨W3, hW3⟩ : ∃ W3, w3 = W3 := ⟨_, rfl⟩
  subst hW3
  go_loopw [8] (fun i wr => ∃ n : Nat, 0 < n ∧ n ≤ N ∧ i = .int .i64 n ∧ wr.ownsRow h 3 1 (.slice (some ⟨h, 0, none⟩) N N) N (List.replicate n (Value.int .i64 u) ++ List.replicate (N - n) (Value.int .i64 0)) ∧ Below w.heap.size w wr) (fun i _ => N - (intOf i).toNat)
  case atStart => exact ⟨1, by omega, h1, rfl, hown3, hbw3⟩
  case round =>
    obtain ⟨n, hn1, hn2, rfl, hown, hb⟩ := hrel
    by_cases hlt : n < N
    · obtain ⟨j, w5, hj1, hj2, hrun5, hown5, ho5⟩ := copy_head (ty := 3) hown hn1 hlt
      obtain ⟨jd, w5d, hjd1, hjd2, hrun5d, hown5d, ho5d⟩ := copy_head (ty := 3) (owns_later hown (ext_drew (Below.refl _ _))) hn1 hlt
      have hb5 : Below w.heap.size w w5 := hb.trans (Only.below ho5 (by omega) hb.size)
      have hb5d : Below w.heap.size w w5d := (ext_drew hb).trans (Only.below ho5d (by omega) hb.size)
      have hlt' : ((n : Int) < (N : Int)) := by omega
      have hle' : ((n : Int) ≤ (N : Int)) := by omega
      have hne : ¬ N = n := by omega
      have hwj : IntKind.i64.wrap ((n : Int) + (j : Int)) = ((n + j : Nat) : Int) := by rw [IntKind.wrap_i64]; omega
      have hwd : IntKind.i64.wrap ((n : Int) + (jd : Int)) = ((n + jd : Nat) : Int) := by rw [IntKind.wrap_i64]; omega
      clear hown hb hrun hown3 hbw3
      go_wp2_with fail
      go_region_law (first | (refine step_copy_run rfl (.tmp 41) (.tmp 44) 43 43 rfl (.slice (some ⟨h, n, none⟩) (N - n) (N - n)) (.slice (some ⟨h, 0, none⟩) n N) (by simp [Act.eval, Act.put]; done) (by simp [Act.eval, Act.put]; done) hrun5d ?_) | (refine step_copy_run rfl (.tmp 41) (.tmp 44) 43 43 rfl (.slice (some ⟨h, n, none⟩) (N - n) (N - n)) (.slice (some ⟨h, 0, none⟩) n N) (by simp [Act.eval, Act.put]; done) (by simp [Act.eval, Act.put]; done) hrun5 ?_))
      all_goals
        (try go_wp2)
        (try go_simp)
        (try rw [hwd])
        (try rw [hwj])
        go_roundw
        case rel => first | exact ⟨n + jd, by omega, hjd2, by omega, hown5d, by rw [← hh]; exact hb5d⟩ | exact ⟨n + j, by omega, hj2, by omega, hown5, by rw [← hh]; exact hb5⟩
        case measure => first | omega | (simp [intOf]; omega)
    · obtain rfl : n = N := by omega
      rw [Nat.sub_self, List.replicate_zero, List.append_nil] at hown
      go_wp2
      go_ret
      refine ⟨h, rfl, Nat.le_of_eq hh, ?_, hb⟩
      unfold RowOwn ints
      rw [List.map_replicate, hh]
      exact ⟨n, hown⟩
end Go.Proofs.YtjcfkbichmlgmaaDoor

namespace Go.Proofs.YtjcfkbichmlgmaaDoor
open Go.RowKit
set_option maxRecDepth 100000

theorem Mat.lower {n B C : Nat} {w : World} {v : Value} {hs : List Nat} {m : List (List Int)} (h : Mat n B w v hs m) (hC : C ≤ B) : Mat n C w v hs m :=
  ⟨h.own.lower hC, h.len, h.inc, fun i b x q1 q2 => (h.row i b x q1 q2).lower hC⟩
/-- What Read returns. -/
def TravGives (rs : List Rec) (w : World) (e : Ending) (w' : World) : Prop :=
  ∃ A1 c1 v hs u6, e = .returned (.tuple #[.agg #[.slice A1 (bldV (readWays rs).ls).length c1, v], u6]) ∧ Own kStr 9 [] 0 w.heap.size w' (.slice A1 (bldV (readWays rs).ls).length c1) (bldV (readWays rs).ls) ∧
    Mat (bldV (readWays rs).ls).length w.heap.size w' v hs (tabM (bldV (readWays rs).ls) (readWays rs).ls) ∧ ProbsOwn w.heap.size w' u6 (readWays rs).ps ∧ Below w.heap.size w w'
def TabLoop (tw : TypeId) (w1 : World) (g : Nat) (u4 u6 a : Value) (ws : List Way) (ps : List Prob) (nm : List ByteArray) (i : Value) (wr : World) : Prop :=
  ∃ (j : Nat) (hs : List Nat) (v : Value), j ≤ nm.length ∧ i = .int .i64 j ∧ TBox wr g a v ∧ TR tw w1 u4 u6 a v ws ps nm nm.length hs ((unkM nm.length).take j) wr
def PutLoop (tw : TypeId) (w1 : World) (g : Nat) (u4 u6 a : Value) (ws : List Way) (ps : List Prob) (nm : List ByteArray) (i : Value) (wr : World) : Prop :=
  ∃ (j : Nat) (hs : List Nat) (v : Value), j ≤ ws.length ∧ i = .int .i64 j ∧ TBox wr g a v ∧ TR tw w1 u4 u6 a v ws ps nm nm.length hs ((ws.take j).foldl (putW nm) (unkM nm.length)) wr
theorem way_idx {ws : List Way} {j : Nat} {x : Way} (h : ws[j]? = some x) : (∃ i : Nat, idxS x.1 (bldV ws) = i ∧ i < (bldV ws).length) ∧ ∃ i : Nat, idxS x.2.1 (bldV ws) = i ∧ i < (bldV ws).length := by
  obtain ⟨h1, h2⟩ := fold_has ws [] (List.mem_of_getElem? h)
  have g1 := (idx_has x.1 (bldV ws)).2 h1
  have g2 := (idx_has x.2.1 (bldV ws)).2 h2
  have l1 := idxS_lt x.1 (bldV ws)
  have l2 := idxS_lt x.2.1 (bldV ws)
  exact ⟨⟨(idxS x.1 (bldV ws)).toNat, by omega, by omega⟩, (idxS x.2.1 (bldV ws)).toNat, by omega, by omega⟩
theorem TR.put {tw : TypeId} {w0 W : World} {u4 u6 a v : Value} {ws : List Way} {ps : List Prob} {names : List ByteArray} {n : Nat} {hs : List Nat} {m : List (List Int)} {g i k bi bk : Nat} {c d : Value} (hT : TR tw w0 u4 u6 a v ws ps names n hs m W) (ha : ApartW tw) (hbx : TBox W g c d) (hsq : Sq n m) (hil : i < n) (hkl : k < n) (hhi : hs[i]? = some bi) (hhk : hs[k]? = some bk) (u : Int) :
    TR tw w0 u4 u6 a v ws ps names n hs (setM (setM m i k u) k i u) ((W.setCell ⟨bi, k, none⟩ (.int .i64 u)).setCell ⟨bk, i, none⟩ (.int .i64 u)) ∧ TBox ((W.setCell ⟨bi, k, none⟩ (.int .i64 u)).setCell ⟨bk, i, none⟩ (.int .i64 u)) g c d := by
  obtain ⟨y, hy, -⟩ := sq_row hsq hil
  have h1 := hT.row ha hhi hy u (k := k)
  have b1 := tbox_row (k := k) hbx hT.mat hhi hy (.int .i64 u)
  obtain ⟨z, hz, -⟩ := sq_row (sq_set (i := i) (k := k) (u := u) hsq) hkl
  exact ⟨h1.row ha hhk hz u, tbox_row b1 h1.mat hhk hz _⟩
theorem blk_type {W : World} {g : Nat} {cs ds : Array Value} {e t : TypeId} (h : W.heap[g]? = some (.cells cs e (0, 0))) (h2 : W.heap[g]? = some (.cells ds t (0, 0))) (hne : e ≠ t) : False := by
  rw [h] at h2
  injection h2 with h3
  injection h3 with _ h4
  exact hne h4
/-- The cells that entering a way looks at. -/
theorem TR.seen {tw : TypeId} {w0 W : World} {u4 u6 a v : Value} {ws : List Way} {ps : List Prob} {names : List ByteArray} {n : Nat} {hs : List Nat} {m : List (List Int)} {i k : Nat} (hT : TR tw w0 u4 u6 a v ws ps names n hs m W) (ha : ApartW tw) (hsq : Sq n m) (hil : i < n) (hkl : k < n) (u : Int) :
    ∃ sb cc bi bk ci ck z z2, v = .slice (some ⟨sb, 0, none⟩) n cc ∧ sb < W.heap.size ∧ bi < W.heap.size ∧ bk < W.heap.size ∧ bi ≠ sb ∧ bk ≠ sb ∧ hs[i]? = some bi ∧ hs[k]? = some bk ∧ W.cell? ⟨sb, i, none⟩ = some (.slice (some ⟨bi, 0, none⟩) n ci) ∧ W.cell? ⟨sb, k, none⟩ = some (.slice (some ⟨bk, 0, none⟩) n ck) ∧
      W.cell? ⟨bi, k, none⟩ = some (.int .i64 z) ∧ W.frozen? ⟨bi, k, none⟩ = false ∧ (W.setCell ⟨bi, k, none⟩ (.int .i64 u)).cell? ⟨bk, i, none⟩ = some (.int .i64 z2) ∧ (W.setCell ⟨bi, k, none⟩ (.int .i64 u)).frozen? ⟨bk, i, none⟩ = false ∧
      (∀ y (cs : Array Value) (e : TypeId), W.heap[y]? = some (.cells cs e (0, 0)) → e ≠ 3 → y ≠ bi ∧ y ≠ bk) := by
  obtain ⟨y, hy, hyl⟩ := sq_row hsq hil
  obtain ⟨y2, hy2, -⟩ := sq_row hsq hkl
  obtain ⟨sb, cc, bi, ci, hv, -, hsb, c1, hhi, hri, hn1⟩ := hT.mat.get hy
  obtain ⟨sb2, cc2, bk, ck, hv2, -, -, c2, hhk, hrk, hn2⟩ := hT.mat.get hy2
  rw [hv] at hv2
  injection hv2 with e1 e2 e3
  injection e1 with e1
  injection e1 with e1
  subst e1
  have h1 := hT.row ha hhi hy u (k := k)
  obtain ⟨z, hz, hzl⟩ := sq_row (sq_set (i := i) (k := k) (u := u) hsq) hkl
  have hr2 := h1.mat.row k bk z hhk hz
  obtain ⟨cur1, -, hb1⟩ := row_blk hri
  obtain ⟨cur2, -, hb2⟩ := row_blk hrk
  exact ⟨sb, cc, bi, bk, ci, ck, y[k]'(by omega), z[i]'(by omega), by rw [hv, hsq.1], hsb, blk_lt hb1, blk_lt hb2, hn1, hn2, hhi, hhk, c1, c2, row_cell hri (List.getElem?_eq_getElem _), row_free hri k, row_cell hr2 (List.getElem?_eq_getElem _), row_free hr2 i, fun y cs e h he => ⟨fun q => blk_type h (q ▸ hb1) he, fun q => blk_type h (q ▸ hb2) he⟩⟩
theorem TR.parts {tw : TypeId} {w0 W W' : World} {u4 u6 a v : Value} {ws : List Way} {ps : List Prob} {names : List ByteArray} {n : Nat} {hs : List Nat} {m : List (List Int)} {g : Nat} {x y : Value} (h : TR tw w0 u4 u6 a v ws ps names n hs m W) (ho : Only g W W') (hg : TBox W g x y) :
    Own kStr 9 [] 0 w0.heap.size W' a names ∧ ProbsOwn w0.heap.size W' u6 ps ∧ Mat n w0.heap.size W' v hs m :=
  ⟨h.nms.only ho hg (Nat.zero_le _) (by decide) (by simp), owns_apart h.ps ho hg (by decide), mat_only h.mat ho hg (by decide) (by decide)⟩
theorem two_setT {W : World} {g : Nat} {a b x y : Value} (h0 : W.cell? ⟨g, 0, none⟩ = some a) (h1 : W.cell? ⟨g, 1, none⟩ = some b) :
    ((W.setCell ⟨g, 0, none⟩ x).setCell ⟨g, 1, none⟩ y).cell? ⟨g, 0, none⟩ = some x ∧ ((W.setCell ⟨g, 0, none⟩ x).setCell ⟨g, 1, none⟩ y).cell? ⟨g, 1, none⟩ = some y :=
  ⟨(World.cell?_setCell_other _ _ _ _ (by simp)).trans (World.cell?_setCell_same _ _ _ h0), World.cell?_setCell_same _ _ _ ((World.cell?_setCell_other _ _ _ _ (by simp)).trans h1)⟩
theorem apart_way : ApartW 59 := by unfold ApartW; decide
set_option maxHeartbeats 8000000 in
theorem tread_walk (A : Option Addr) (rs : List Rec) (cap : Nat) (w : World) (hR : RecsAt w.heap.size w A rs) (hN : rs.length ≤ 4000000000000) (hs : ∀ r ∈ rs, ∀ f ∈ r.2, f.1.size < 1073741824) :
    Calls Tryd.prog 15 #[.slice A rs.length cap] w fun e w' => TravGives rs w e w' := by
  have hb0 : Below w.heap.size w (w.alloc (.cells #[.slice none 0 0, .slice none 0 0] 25)) := (by repeat (first | exact Below.refl _ _ | refine ext_alloc ?_ _ | refine ext_drewN ?_ _ | refine ext_drew ?_ | refine ext_trans ?_ (by assumption)))
  have r0 : TBox (w.alloc (.cells #[.slice none 0 0, .slice none 0 0] 25)) w.heap.size (.slice none 0 0) (.slice none 0 0) := heap_alloc_new _ _
  obtain ⟨w1, hw1⟩ : ∃ w1, w.alloc (.cells #[.slice none 0 0, .slice none 0 0] 25) = w1 := ⟨_, rfl⟩
  rw [hw1] at hb0 r0
  have hread := wread_walk A rs cap w1 ((hR.below hb0).more hb0.size) hN hs
  have hok := (readWays_len rs).1
  have hfin : Hid (∀ e w', TravGives rs w e w' = (∃ A1 c1 v hs u6, e = .returned (.tuple #[.agg #[.slice A1 (bldV (readWays rs).ls).length c1, v], u6]) ∧ Own kStr 9 [] 0 w.heap.size w' (.slice A1 (bldV (readWays rs).ls).length c1) (bldV (readWays rs).ls) ∧
    Mat (bldV (readWays rs).ls).length w.heap.size w' v hs (tabM (bldV (readWays rs).ls) (readWays rs).ls) ∧ ProbsOwn w.heap.size w' u6 (readWays rs).ps ∧ Below w.heap.size w w')) := hide fun _ _ => rfl
  unfold ReadWGives at hread
  obtain ⟨st, hst⟩ : ∃ st, readWays rs = st := ⟨_, rfl⟩
  rw [hst] at hread hok hfin
  obtain ⟨rg, hrg⟩ : ∃ rg, w.heap.size = rg := ⟨_, rfl⟩
  rw [hrg] at r0
  have hrl := blk_lt r0
  replace hw1 := hide hw1
  replace hrg := hide hrg
  replace hok := hide hok
  clear hst hR hs
  go_enter Tryd.func15, Tryd.ntmps15
  go_wp2_with fail
  rw [hw1.out, hrg.out]
  refine hread.mono ?_
  rintro e w2 ⟨v6, v7, v8, rfl, hG⟩
  clear hread
  obtain ⟨A6, c6, rfl⟩ := hG.ls.form
  have hbld := bld_walk A6 st.ls c6 w2 (by have := hok.out.1.len; omega) hG.ls.any'
  go_wp2_with fail
  refine hbld.mono ?_
  rintro e w3 ⟨A1, c1, rfl, hown, hb3⟩
  clear hbld
  have hn8 := hok.out.1.1
  have hnw := hok.out.1.len
  have hidx := fun (j : Nat) (x : Way) (hx : st.ls[j]? = some x) => way_idx hx
  obtain ⟨nm, hnm⟩ : ∃ nm, bldV st.ls = nm := ⟨_, rfl⟩
  rw [hnm] at hown hn8 hfin hidx ⊢
  replace hidx := hide hidx
  have hz2 := hG.below.size
  replace hG := hG.later hb3
  have hT3 : TR 59 w1 (.slice A6 st.ls.length c6) v8 (.slice A1 nm.length c1) (.slice none 0 0) st.ls st.ps nm nm.length [] [] w3 :=
    ⟨hown.lower hz2, hG.ls, hG.ps, Mat.nil, hG.below⟩
  have hbx4 : TBox (w3.alloc (.cells #[.slice A1 nm.length c1, .slice none 0 0] 25)) w3.heap.size (.slice A1 nm.length c1) (.slice none 0 0) := heap_alloc_new _ _
  have hT4 := hT3.alloc (.cells #[.slice A1 nm.length c1, .slice none 0 0] 25)
  have hg1 : w1.heap.size ≤ w3.heap.size := hT3.below.size
  obtain ⟨w4, hw4⟩ : ∃ w4, w3.alloc (.cells #[.slice A1 nm.length c1, .slice none 0 0] 25) = w4 := ⟨_, rfl⟩
  rw [hw4] at hbx4 hT4
  obtain ⟨g, hg⟩ : ∃ g, w3.heap.size = g := ⟨_, rfl⟩
  rw [hg] at hbx4 hg1
  replace hw4 := hide hw4
  replace hg := hide hg
  have e0 := (tbox_cells hbx4).1
  clear hT3 hG hown hb3
  go_wp2_with fail
  rw [hw4.out, hg.out]
  clear e0
  go_loopw [26] (fun i wr => TabLoop 59 w1 g (.slice A6 st.ls.length c6) v8 (.slice A1 nm.length c1) st.ls st.ps nm i wr) (fun i _ => nm.length - (intOf i).toNat)
  case atStart => exact ⟨0, [], _, Nat.zero_le _, rfl, hbx4, hT4⟩
  case round =>
    obtain ⟨j, hs, v, hj, rfl, hbx, hT⟩ := hrel
    clear hbx4 hT4
    by_cases hlt : j < nm.length
    · have hgl := blk_lt hbx
      have hb5 : Below wr.heap.size wr (wr.alloc (.cells #[.int .i64 (-1)] 3)) := ext_alloc (Below.refl _ _) _
      have hrep := repeat_walk wr.heap.size 1 nm.length (-1) (wr.alloc (.cells #[.int .i64 (-1)] 3)) (by simp) (by omega) (by omega)
      have hlt1 : ∀ c ∈ hs, c < wr.heap.size := fun c hc => (hT.mat.lt c hc).2
      have hz := hT.below.size
      have e0 := (tbox_cells hbx).1
      have hT5 := hT.later hb5
      have hbx5 := tbox_later hbx hb5
      have hj0 : (0 : Int) ≤ (j : Int) := by omega
      have hj1 : (j : Int) < (nm.length : Int) := by omega
      clear hT hbx
      replace hlt1 := hide hlt1
      go_wp2_with fail
      refine hrep.mono ?_
      rintro e w6 ⟨h, rfl, hh, hrow, hb6⟩
      have hT6 := hT5.later hb6
      have hbx6 := tbox_later hbx5 hb6
      have hr6 : RowOwn w1.heap.size nm.length w6 h (List.replicate nm.length (-1)) := hrow.lower (by rw [World.size_alloc]; omega)
      have hh1 : wr.heap.size < h := by rw [World.size_alloc] at hh; omega
      have hne : ∀ c ∈ hs, c ≠ h := fun c hc => by have := hlt1.out c hc; omega
      have q0 : w6.cell? ⟨h, j, none⟩ = some (.int .i64 (-1)) := row_cell hr6 (by rw [List.getElem?_replicate, if_pos hlt])
      have qf := row_free hr6 j
      have hT7 := hT6.beside (k := j) apart_way hr6 (by omega) hne (.int .i64 0)
      obtain ⟨hr7, ho7⟩ := row_set (k := j) hr6 0
      have hr7 : RowOwn w1.heap.size nm.length _ h (unkRow nm.length j) := hr7
      have hbx7 := tbox_only hbx6 ho7 (by omega)
      obtain ⟨W7, hW7⟩ : ∃ W7, w6.setCell ⟨h, j, none⟩ (.int .i64 0) = W7 := ⟨_, rfl⟩
      rw [hW7] at hT7 hr7 hbx7
      replace hW7 := hide hW7
      replace hne := hide hne
      clear hT5 hT6 hbx5 hbx6 hrow hr6 ho7 hb5 hb6 hrep e0
      go_upto_region 8 with fail
      rw [hW7.out]
      clear q0 qf hW7
      obtain ⟨e0, e1, f0, f1⟩ := tbox_cells hbx7
      have hgl7 := blk_lt hbx7
      go_wp2_with (at_builtin; refine wpList_own rfl _ _ rfl (apd_rows nm.length) (Nat.lt_succ_self 0) rfl (hT7.mat.own.alloc _) ?d1 (by decide) ⟨W7.heap.size, 0, none⟩ 1 rfl h [.slice (some ⟨h, 0, none⟩) nm.length nm.length] ⟨_, Nat.le_refl _, rfl⟩ (World.news_of_block (cs := #[.slice (some ⟨h, 0, none⟩) nm.length nm.length]) (t := 43) (fr := (0, 0)) (heap_alloc_new _ _)) (by decide) (Nat.zero_le _) ?d2 ?_)
      case d1 => rw [hT7.mat.len, List.length_take]; omega
      case d2 => rw [World.size_alloc]; have := hT7.below.size; omega
      intro v' w8 hown8 hg8
      obtain ⟨A8, c8, rfl⟩ := hown8.form
      rw [show (hs ++ [h]).length = hs.length + 1 from by simp] at hown8
      have hbx8 := tbox_snoc (tbox_later hbx7 (ext_alloc (Below.refl _ _) _)) (hT7.alloc _).mat hg8
      have hT8 := (hT7.alloc _).snoc apart_way (hr7.later (ext_alloc (Below.refl _ _) _)) hne.out hg8 hown8
      clear e0 e1 f0 f1 hT7 hbx7 hr7 hown8 hg8
      obtain ⟨e0, e1, f0, f1⟩ := tbox_cells hbx8
      have hgl8 := blk_lt hbx8
      have hbx9 := tbox_set hbx8 (.slice A8 (hs.length + 1) c8)
      have hT9 := hT8.only apart_way (only_setCell (p := ⟨g, 1, none⟩) (Only.refl g w8) (Or.inl rfl) (.slice A8 (hs.length + 1) c8)) hbx8 hg1
      rw [← unk_snoc _ _ hlt] at hT9
      clear hT8 hbx8
      go_wp2
      go_roundw
      case rel => exact ⟨j + 1, hs ++ [h], _, by omega, by go_num, hbx9, hT9⟩
      case measure => simp [intOf]; omega
    · obtain rfl : j = nm.length := by omega
      have hall : (unkM nm.length).take nm.length = unkM nm.length := List.take_of_length_le (by simp [unkM])
      rw [hall] at hT
      clear hall hlt hj
      go_wp2_with fail
      go_loopw [46] (fun i wr => PutLoop 59 w1 g (.slice A6 st.ls.length c6) v8 (.slice A1 nm.length c1) st.ls st.ps nm i wr) (fun i _ => st.ls.length - (intOf i).toNat)
      case atStart => exact ⟨0, hs, v, Nat.zero_le _, rfl, hbx, hT⟩
      case round =>
        clear hbx hT
        obtain ⟨j, hs, v, hj, rfl, hbx, hT⟩ := hrel
        by_cases hlt : j < st.ls.length
        · obtain ⟨x, hx⟩ : ∃ x, st.ls[j]? = some x := ⟨_, List.getElem?_eq_getElem hlt⟩
          obtain ⟨⟨i, hi, hil⟩, k, hk, hkl⟩ := hidx.out j x hx
          have hstep := take_put nm st.ls hx (unkM nm.length)
          have hsq : Sq nm.length ((st.ls.take j).foldl (putW nm) (unkM nm.length)) := sq_fold _ (sq_unk _)
          obtain ⟨m, hm⟩ : ∃ m, (st.ls.take j).foldl (putW nm) (unkM nm.length) = m := ⟨_, rfl⟩
          rw [hm] at hstep hsq hT
          obtain ⟨xb, off, rfl, -, hxb, q0, q1, q2⟩ := way_get hT.ways.any' hx
          obtain ⟨a, b, u⟩ := x
          dsimp only at hi hk q0 q1 q2
          have hput : putW nm m (a, b, u) = setM (setM m i k u) k i u := by unfold putW; dsimp only; rw [hi, hk]; rfl
          rw [hput] at hstep
          have hgl := blk_lt hbx
          have hT5 := hT.alloc (.cells #[.string a, .string b, .int .i64 u] 59)
          have hbx5 : TBox _ g _ _ := tbox_later hbx (ext_alloc (Below.refl _ _) (.cells #[.string a, .string b, .int .i64 u] 59))
          have x0 : (wr.alloc (.cells #[.string a, .string b, .int .i64 u] 59)).cell? ⟨wr.heap.size, 0, none⟩ = some (.string a) := by simp
          have x1 : (wr.alloc (.cells #[.string a, .string b, .int .i64 u] 59)).cell? ⟨wr.heap.size, 1, none⟩ = some (.string b) := by simp
          have x2 : (wr.alloc (.cells #[.string a, .string b, .int .i64 u] 59)).cell? ⟨wr.heap.size, 2, none⟩ = some (.int .i64 u) := by simp
          have hx5 : (wr.alloc (.cells #[.string a, .string b, .int .i64 u] 59)).heap[wr.heap.size]? = some (.cells #[.string a, .string b, .int .i64 u] 59 (0, 0)) := heap_alloc_new _ _
          obtain ⟨W5, hW5⟩ : ∃ W5, wr.alloc (.cells #[.string a, .string b, .int .i64 u] 59) = W5 := ⟨_, rfl⟩
          obtain ⟨xg, hxg⟩ : ∃ xg, wr.heap.size = xg := ⟨_, rfl⟩
          have hj0 : (0 : Int) ≤ (j : Int) := by omega
          have hj1 : (j : Int) < (st.ls.length : Int) := by omega
          rw [hW5] at hT5 hbx5 x0 x1 x2 hx5
          rw [hxg] at x0 x1 x2 hx5
          replace hW5 := hide hW5
          replace hxg := hide hxg
          replace hstep := hide hstep
          clear hx hm hput hbx hT
          go_upto_region 13 with fail
          rw [hW5.out, hxg.out]
          clear hW5 q0 q1 q2
          have hat := hT5.nms.any'.any
          obtain ⟨e0, e1, -, -⟩ := tbox_cells hbx5
          have hSL : Cn3 g 0 ((.slice A1 nm.length c1)) xg 0 ((.string a)) xg 1 ((.string b)) W5 := ⟨e0, x0, x1⟩
          have s1 := hide (fun (W : World) (hW : Below W5.heap.size W5 W) => (sindex_walk A1 nm c1 a W (by omega) (hat.later hW)).mono fun e _ ⟨he, hb⟩ => (⟨by rw [he, hi], hb ▸ hW, hSL.later (hb ▸ hW)⟩ : e = Ending.returned (.int .i64 (i : Int)) ∧ Below W5.heap.size W5 _ ∧ Cn3 g 0 ((.slice A1 nm.length c1)) xg 0 ((.string a)) xg 1 ((.string b)) _))
          have s2 := hide (fun (W : World) (hW : Below W5.heap.size W5 W) => (sindex_walk A1 nm c1 b W (by omega) (hat.later hW)).mono fun e _ ⟨he, hb⟩ => (⟨by rw [he, hk], hb ▸ hW, hSL.later (hb ▸ hW)⟩ : e = Ending.returned (.int .i64 (k : Int)) ∧ Below W5.heap.size W5 _ ∧ Cn3 g 0 ((.slice A1 nm.length c1)) xg 0 ((.string a)) xg 1 ((.string b)) _))
          have hSd := hSL.drew
          have hrefl := Below.refl W5.heap.size W5
          have hgl5 := blk_lt hbx5
          have hxl : xg < W5.heap.size := World.block_lt_of_cell? _ _ x0
          have hi0 : (0 : Int) ≤ (i : Int) := by omega
          have hi1 : (i : Int) < (nm.length : Int) := by omega
          have hk0 : (0 : Int) ≤ (k : Int) := by omega
          have hk1 : (k : Int) < (nm.length : Int) := by omega
          clear hat hi hk e1
          go_region_held3 (fun W' => W'.cell? ⟨g, 0, none⟩ = some ((.slice A1 nm.length c1)) ∧ W'.cell? ⟨xg, 0, none⟩ = some ((.string a)) ∧ W'.cell? ⟨xg, 1, none⟩ = some ((.string b))) (first | ((repeat (first | (with_reducible assumption) | (with_reducible refine Cn3.alloc ?_ _) | (with_reducible refine Cn3.drew ?_) | (with_reducible refine Cn3.set ?_ ?_ ?_ ?_ _) | omega)); done)) (first | (go_at_call 30; (with_reducible refine (s1.out _ ?_).mono ?_); (repeat (first | (with_reducible assumption) | (with_reducible refine ext_alloc ?_ _) | (with_reducible refine ext_drew ?_))); rintro e w6 ⟨rfl, hb6, hx6⟩) | (go_at_call 30; (with_reducible refine (s2.out _ ?_).mono ?_); (repeat (first | (with_reducible assumption) | (with_reducible refine ext_alloc ?_ _) | (with_reducible refine ext_drew ?_))); rintro e w7 ⟨rfl, hb7, hx7⟩))
          have hT7 := hT5.later hb7
          have hbx7 := tbox_later hbx5 hb7
          have x7 := cell_later hb7 x2
          replace hx5 := (hb7.block xg hxl).trans hx5
          clear hT5 hbx5 hSL hSd s1 s2 hrefl hb6 hx6 hx7 x0 x1 x2 e0
          have hgl7 := blk_lt hbx7
          have hxl7 : xg < w7.heap.size := World.block_lt_of_cell? _ _ x7
          obtain ⟨sb, cc, bi, bk, ci, ck, zz, zz2, rfl, hsb, hbi, hbk, hn1, hn2, hhi, hhk, c1', c2', p0, pf, p1, pf2, hty⟩ := hT7.seen apart_way hsq hil hkl u
          obtain ⟨-, e1, -, -⟩ := tbox_cells hbx7
          obtain ⟨y1, -⟩ := hty _ _ _ hx5 (by decide)
          obtain ⟨y2, -⟩ := hty _ _ _ hbx7 (by decide)
          have z1 : (w7.setCell ⟨bi, k, none⟩ (.int .i64 u)).cell? ⟨xg, 2, none⟩ = some (.int .i64 u) := (World.cell?_setCell_other _ _ _ _ (fun e => y1 (by injection e with e; exact e.symm))).trans x7
          have z2 : (w7.setCell ⟨bi, k, none⟩ (.int .i64 u)).cell? ⟨g, 1, none⟩ = some (.slice (some ⟨sb, 0, none⟩) nm.length cc) := (World.cell?_setCell_other _ _ _ _ (fun e => y2 (by injection e with e; exact e.symm))).trans e1
          have z3 : (w7.setCell ⟨bi, k, none⟩ (.int .i64 u)).cell? ⟨sb, i, none⟩ = some (.slice (some ⟨bi, 0, none⟩) nm.length ci) := (World.cell?_setCell_other _ _ _ _ (fun e => hn1 (by injection e))).trans c1'
          have z4 : (w7.setCell ⟨bi, k, none⟩ (.int .i64 u)).cell? ⟨sb, k, none⟩ = some (.slice (some ⟨bk, 0, none⟩) nm.length ck) := (World.cell?_setCell_other _ _ _ _ (fun e => hn1 (by injection e))).trans c2'
          have hput := hide (hT7.put apart_way hbx7 hsq hil hkl hhi hhk u)
          have hputd := hide (hT7.drew.put apart_way (tbox_later hbx7 (ext_drew (Below.refl _ _))) hsq hil hkl hhi hhk u)
          clear hT7 hbx7 hb7 hgl5 hxl hhi hhk hsq hty hx5 y1 y2
          go_upto_region 14 with fail
          go_region
          all_goals
            clear z1 z2 z3 z4 x7 e1 c1' c2' p0 pf p1 pf2
            go_wp2
            go_roundw
            case rel => first | exact ⟨j + 1, hs, _, by omega, by go_num, hputd.out.2, by rw [hstep.out]; exact hputd.out.1⟩ | exact ⟨j + 1, hs, _, by omega, by go_num, hput.out.2, by rw [hstep.out]; exact hput.out.1⟩
            case measure => simp [intOf]; omega
        · obtain rfl : j = st.ls.length := by omega
          rw [List.take_length] at hT
          obtain ⟨e0, e1, -, -⟩ := tbox_cells hbx
          have hrr := tbox_later r0 hT.below
          obtain ⟨Av, nv, cv, rfl⟩ : ∃ A n c, v = .slice A n c := by obtain ⟨A, c, e⟩ := hT.mat.form; exact ⟨A, _, c, e⟩
          obtain ⟨o0, o1, f0, f1⟩ := tbox_cells hrr
          have hrl2 := blk_lt hrr
          have ho2 : Only rg wr ((wr.setCell ⟨rg, 0, none⟩ (.slice A1 nm.length c1)).setCell ⟨rg, 1, none⟩ (.slice Av nv cv)) := only_setCell (only_setCell (Only.refl rg wr) (Or.inl rfl) _) (Or.inl rfl) _
          obtain ⟨d1, d2, d3⟩ := hT.parts ho2 hrr
          have hbf : Below w.heap.size w ((wr.setCell ⟨rg, 0, none⟩ (.slice A1 nm.length c1)).setCell ⟨rg, 1, none⟩ (.slice Av nv cv)) := ext_set (ext_set (ext_trans hb0 hT.below) (p := ⟨rg, 0, none⟩) (Nat.le_of_eq hrg.out) _) (p := ⟨rg, 1, none⟩) (Nat.le_of_eq hrg.out) _
          obtain ⟨k0, k1⟩ := two_setT o0 o1 (x := .slice A1 nm.length c1) (y := .slice Av nv cv)
          have hz0 := hb0.size
          clear hT hbx hrr
          go_wp2
          refine end_trav2 rfl rg _ _ _ rfl rfl rfl k0 k1 ?_
          rw [hfin.out]
          exact ⟨A1, c1, _, hs, v8, rfl, d1.lower hz0, d3.lower hz0, owns_lower d2 hz0, hbf⟩
end Go.Proofs.YtjcfkbichmlgmaaDoor
