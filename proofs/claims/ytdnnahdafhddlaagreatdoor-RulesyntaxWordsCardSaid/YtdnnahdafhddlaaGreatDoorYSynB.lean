/- Rows of selections that are appended to. No condition. Walks of the parser's selections: series, sel, conj, atom. Conditions: the parser's cells are as PsAt says. Walks of the parser's selections: sel, conj, atom. Conditions: the parser's cells are as PsAt says. Walk of the parser's brackets: the parts of a text between brackets. Conditions: the parser's cells are as PsAt says; what the program's variables hold. -/
import Derived.Test.YtdnnahdafhddlaaGreatDoorYRrC
import Derived.Test.YtdnnahdafhddlaaGreatDoorYIdxS
namespace Go.Proofs.YtdnnahdafhddlaaGreatDoor
open Go.RowKit
set_option maxRecDepth 100000

theorem apd_sel : Apd Tryz.prog 38 40 3 48 := apd Tryz.underlying38 (z := .agg #[.int .i64 0, .string ⟨#[]⟩, .slice none 0 0]) (by kernel_rfl) rfl
/-- A row of selections of its own from block B on; what its elements point to lies from B on too, but apart from the row. -/
def OwnS (B : Nat) (w : World) (v : Value) (l : List Sel) : Prop :=
  ∃ vss : List (List Value), vss.length = l.length ∧ w.ownsRow B 40 3 v l.length vss.flatten ∧ ∀ (j : Nat) (x : Sel) (vs : List Value), l[j]? = some x → vss[j]? = some vs → kSel.rep (fun b => B ≤ b ∧ some b ≠ v.ownBlock) w x vs
section
variable {B : Nat} {w w' : World} {v : Value} {l : List Sel}
theorem OwnS.nil : OwnS B w (.slice none 0 0) [] := ⟨[], rfl, World.ownsRow_nil _ _ _ _, fun j x vs h => by simp at h⟩
theorem OwnS.kept {row : Option Nat} (h : OwnS B w v l) (hg : w.grownBy w' row) (h1 : ∀ b, some b = row → b < B) : OwnS B w' v l := by
  obtain ⟨vss, e1, e2, e3⟩ := h
  refine ⟨vss, e1, e2.kept hg ?_, fun j x vs hj hv => kSel.kept (e3 j x vs hj hv) fun b hs hlt => ⟨hs, Nat.lt_of_lt_of_le hlt hg.size, hg.block b hlt fun e => ?_⟩⟩
  · rcases e2.2 with ⟨rfl, _⟩ | ⟨g, cap, cur, rfl, hB, _⟩
    · exact .inl rfl
    · refine .inr fun e => ?_
      have := h1 g e
      omega
  · have := h1 b e
    omega
theorem OwnS.later (h : OwnS B w v l) (hb : Below w.heap.size w w') : OwnS B w' v l :=
  h.kept (row := none) ⟨hb.os, hb.tape, hb.output, hb.size, fun k hk _ => hb.block k hk⟩ (fun _ e => by cases e)
theorem OwnS.only {g : Nat} (h : OwnS B w v l) (ho : Only g w w') (hg : g < B) : OwnS B w' v l := h.kept ho fun b e => by injection e with e; omega
theorem OwnS.form (h : OwnS B w v l) : ∃ A c, v = .slice A l.length c := by obtain ⟨vss, -, h, -⟩ := h; exact owns_form h
theorem OwnS.lt (h : OwnS B w v l) : ∀ x, v.ownBlock = some x → B ≤ x ∧ x < w.heap.size := by obtain ⟨vss, -, h, -⟩ := h; exact h.lt
/-- The row as data. -/
theorem OwnS.at (h : OwnS B w v l) : ∃ A c, v = .slice A l.length c ∧ l.length ≤ c ∧ At kSel (fun b => B ≤ b) w A l := by
  obtain ⟨A, c, rfl⟩ := h.form
  obtain ⟨vss, e1, e2, e3⟩ := h
  have hall : ∀ vs ∈ vss, vs.length = 3 := by
    intro vs hv
    obtain ⟨j, hj⟩ := List.getElem?_of_mem hv
    have hjl := (List.getElem?_eq_some_iff.1 hj).1
    exact kSel.len (e3 j _ vs (List.getElem?_eq_getElem (by omega)) hj)
  refine ⟨A, c, rfl, ?_, fun hn => ?_⟩
  · rcases e2.2 with ⟨e, h0⟩ | ⟨g, cap, cur, e, -, -, hn, -⟩
    · injection e; omega
    · injection e; omega
  rcases e2.2 with ⟨_, h0⟩ | ⟨g, cap, cur, he, hB, hg, _, _, _, htake⟩
  · omega
  · injection he with he
    subst he
    refine ⟨g, 0, rfl, hB, blk_lt hg, fun j x hx => ?_⟩
    have hjl := (List.getElem?_eq_some_iff.1 hx).1
    have hv : vss[j]? = some (vss[j]'(by omega)) := List.getElem?_eq_getElem (by omega)
    have hr := e3 j x _ hx hv
    refine ⟨_, kSel.more hr fun b hs => hs.1, fun i u hu => ?_⟩
    have hi : i < 3 := by have := (List.getElem?_eq_some_iff.1 hu).1; rw [kSel.len hr] at this; exact this
    have := e2.cells (g := g) rfl (j * 3 + i) u ((flatten_at vss hall j i _ hv hi).trans hu)
    rw [show (⟨g, 0, none⟩ : Addr).add (j * 3 + i) = ⟨g, 0 + j * 3 + i, none⟩ from by rw [Addr.add_lit]; simp only [Nat.zero_add]] at this
    exact this
/-- A row that was just laid with one selection. -/
theorem OwnS.one {s : Sel} {x y z : Value} (hB : B ≤ w.heap.size) (h : kSel.rep (fun b => B ≤ b) w s [x, y, z]) : OwnS B (w.alloc (.cells #[x, y, z] 40)) (.slice (some ⟨w.heap.size, 0, none⟩) 1 1) [s] := by
  have hrow := heap_alloc_new w (.cells #[x, y, z] 40)
  refine ⟨[[x, y, z]], rfl, ⟨rfl, .inr ⟨w.heap.size, 1, #[x, y, z], rfl, hB, hrow, Nat.le_refl _, by unfold maxLen; omega, rfl, rfl⟩⟩, fun j a vs hj hv => ?_⟩
  match j, hj, hv with
  | 0, hj, hv =>
    simp at hj hv
    subst hj hv
    refine kSel.kept h fun b hs hlt => ⟨⟨hs, fun e => ?_⟩, by rw [World.size_alloc]; omega, Below.heap_alloc _ _ _ hlt⟩
    have e : b = w.heap.size := by simpa [Value.ownBlock] using e
    omega
  | j + 1, hj, _ => simp at hj
/-- A selection is appended. -/
theorem wpList_ownS {ops : Array Oper} {rest : List Oper} {o : Oper} {a : Act} {Q : Exit → Act → World → Prop} (hgd : o.guard = none) (s x : Operand)
    (ho : o.op = .call { callee := .builtin .append, args := #[s, x], argTypes := #[38, 38] }) (hs : a.eval s = v) (h : OwnS B w v l)
    (hl : l.length ≤ 4000000000) (ad : Addr) (c : Nat) (hx : a.eval x = .slice (some ad) 1 c) (e : Sel) (vs : List Value) (hrep : kSel.rep (fun b => B ≤ b ∧ some b ≠ v.ownBlock) w e vs) (hnews : ∀ j u, vs[j]? = some u → w.cell? (ad.add j) = some u)
    (hB : B ≤ w.heap.size)
    (hk : ∀ v' w', OwnS B w' v' (l ++ [e]) → w.grownBy w' v.ownBlock → (∃ g cap, v' = .slice (some ⟨g, 0, none⟩) (l.length + 1) cap) → wpList Tryz.prog ops Q rest (a.put o.dst v') w') : wpList Tryz.prog ops Q (o :: rest) a w := by
  obtain ⟨i, z, hi, hz, h1, h2, h3⟩ := apd_sel.i
  obtain ⟨vss, e1, e2, e3⟩ := h
  refine wpList_append_lies w hgd s x 38 ho B 40 i z 3 48 apd_sel.u hi hz h1 h2 h3 (by decide) v l.length vss.flatten hs e2 ad 1 c vs hx (by rw [kSel.len hrep]; rfl) hnews (kSel.one hrep) (by omega) (by unfold maxLen; omega) (by omega) hB w.heap.size rfl fun g cap w' hn hg hwh _ => hk _ w' ?_ hg ⟨g, cap, rfl⟩
  have hk : ∀ {a : Sel} {us : List Value}, kSel.rep (fun b => B ≤ b ∧ some b ≠ v.ownBlock) w a us → kSel.rep (fun b => B ≤ b ∧ some b ≠ (Value.slice (some ⟨g, 0, none⟩) (l.length + 1) cap).ownBlock) w' a us := fun h => kSel.kept h fun b hb hlt => by
    refine ⟨⟨hb.1, fun e => ?_⟩, Nat.lt_of_lt_of_le hlt hg.size, hg.block b hlt hb.2⟩
    have e : b = g := by simpa [Value.ownBlock] using e
    subst e
    rcases hwh with h4 | h4
    · exact hb.2 h4.symm
    · omega
  refine ⟨vss ++ [vs], by simp [e1], ?_, fun j y us hj hv => ?_⟩
  · rw [show (vss ++ [vs]).flatten = vss.flatten ++ vs from by simp, show (l ++ [e]).length = l.length + 1 from by simp]
    exact hn
  · rcases Nat.lt_or_ge j l.length with hlt | hge
    · rw [List.getElem?_append_left hlt] at hj
      rw [List.getElem?_append_left (by omega)] at hv
      exact hk (e3 j y us hj hv)
    · rw [List.getElem?_append_right hge] at hj
      rw [List.getElem?_append_right (by omega)] at hv
      have hj0 : j - l.length = 0 := by
        have := (List.getElem?_eq_some_iff.1 hj).1
        simp at this; omega
      rw [hj0] at hj
      rw [e1, hj0] at hv
      simp at hj hv
      subst hj hv
      exact hk hrep
end
/-- The value that holds a selection, with all that its parts' rows hold, in new blocks. -/
def vSel (w w' : World) (s : Sel) (v : Value) : Prop := ∃ k n A m c, v = .agg #[.int .i64 k, .string n, .slice A m c] ∧ kSel.rep (fun b => w.heap.size ≤ b) w' s [.int .i64 k, .string n, .slice A m c]
theorem load3s (w : World) (g : Nat) (a b d : Value) (h0 : w.cell? ⟨g, 0, none⟩ = some a) (h1 : w.cell? ⟨g, 1, none⟩ = some b) (h2 : w.cell? ⟨g, 2, none⟩ = some d) :
    (loadVar 40 ⟨g, 0, none⟩).run Tryz.prog w = .ok (.agg #[a, b, d]) w := by
  simp [go_sem, h0, h1, h2]
theorem end_sel {fn : Func} {p : Tmp} (hr : fn.results = #[.cell p 40]) {Q : Ending → World → Prop} {act : Act} {w : World} (g : Nat) (a b d : Value) (hd : act.defers = [])
    (hp : act.tmps.getD p undef = .pointer (some ⟨g, 0, none⟩))
    (h0 : w.cell? ⟨g, 0, none⟩ = some a) (h1 : w.cell? ⟨g, 1, none⟩ = some b) (h2 : w.cell? ⟨g, 2, none⟩ = some d)
    (hQ : Q (.returned (.agg #[a, b, d])) w) : bodyPost Tryz.prog fn Q .ret act w := by
  refine bodyPost_ret (v := .agg #[a, b, d]) ?_ hd hQ
  simp only [results, hr]
  simp [Sem.run_bind, Result.andThen, -Array.getD_eq_getD_getElem?]
  rw [hp]
  simp only [asAddr, Sem.run_pure]
  rw [load3s w g a b d h0 h1 h2]
end Go.Proofs.YtdnnahdafhddlaaGreatDoor

namespace Go.Proofs.YtdnnahdafhddlaaGreatDoor
open Go.RowKit
set_option maxRecDepth 100000

theorem look_pass {t x : ByteArray} {e a p : Nat} (_ : lookT t e a = .tok x p) : a ≤ startT t a := passT_ge _ _ _
theorem moreP_bad {t : ByteArray} {e c b n : Nat} {pp : Nat → Res Sel} {k : ByteArray} {kind : Int} {l : List Sel} (hl : lookT t e c = .bad b) : moreP t e pp k kind (n + 1) l c = .error (b, 5) := by
  rw [moreP, hl]
theorem moreP_yes {t : ByteArray} {e c p n : Nat} {pp : Nat → Res Sel} {k : ByteArray} {kind : Int} {l : List Sel} (hl : lookT t e c = .tok k p) :
    moreP t e pp k kind (n + 1) l c = (match pp (startT t c + k.size) with | .error y => .error y | .ok (s, b) => moreP t e pp k kind n (l ++ [s]) b) := by
  rw [moreP, hl]
  exact if_pos rfl
theorem moreP_no {t x : ByteArray} {e c p n : Nat} {pp : Nat → Res Sel} {k : ByteArray} {kind : Int} {l : List Sel} (hl : lookT t e c = .tok x p) (hx : ¬ x = k) : moreP t e pp k kind (n + 1) l c = .ok (oneOf kind l, startT t c) := by
  rw [moreP, hl]
  exact if_neg hx
theorem sel_set {w : World} {r : Nat} {u0 u1 u2 : Value} {ty : TypeId} (h : w.heap[r]? = some (.cells #[u0, u1, u2] ty (0, 0))) (x y z : Value) :
    (((w.setCell ⟨r, 0, none⟩ x).setCell ⟨r, 1, none⟩ y).setCell ⟨r, 2, none⟩ z).heap[r]? = some (.cells #[x, y, z] ty (0, 0)) := by
  simp only [World.setCell, Array.getElem?_modify, h]
  rfl
theorem sel_cells {w : World} {r : Nat} {x y z : Value} {ty : TypeId} (h : w.heap[r]? = some (.cells #[x, y, z] ty (0, 0))) : w.cell? ⟨r, 0, none⟩ = some x ∧ w.cell? ⟨r, 1, none⟩ = some y ∧ w.cell? ⟨r, 2, none⟩ = some z ∧ ∀ j, w.frozen? ⟨r, j, none⟩ = false := by
  refine ⟨?_, ?_, ?_, fun j => by simp [World.frozen?, h]⟩ <;> rw [cell_of_row w r _ _ _ _ h] <;> rfl
/-- The result's cells are written: what was read stays as it is. -/
theorem sel_done {w we : World} {g r b B : Nat} {t : ByteArray} {e : Nat} {u0 u1 u2 : Value} {s : Sel} {k : Int} {n : ByteArray} {A : Option Addr} {m c : Nat} {res : Res Sel} (hres : res = .ok (s, b)) (hb : b ≤ t.size) (hor : Only g w we) (hr : w.heap.size = r) (hgr : g < r) (hrB : r < B)
    (hrw : we.heap[r]? = some (.cells #[u0, u1, u2] 40 (0, 0))) (hbe : PsAt we g t e b) (hrep : kSel.rep (fun b => B ≤ b) we s [.int .i64 k, .string n, .slice A m c]) :
    (((we.setCell ⟨r, 0, none⟩ (.int .i64 k)).setCell ⟨r, 1, none⟩ (.string n)).setCell ⟨r, 2, none⟩ (.slice A m c)).heap[r]? = some (.cells #[.int .i64 k, .string n, .slice A m c] 40 (0, 0)) ∧
      RdG g t e vSel res w (.returned (.agg #[.int .i64 k, .string n, .slice A m c])) (((we.setCell ⟨r, 0, none⟩ (.int .i64 k)).setCell ⟨r, 1, none⟩ (.string n)).setCell ⟨r, 2, none⟩ (.slice A m c)) := by
  refine ⟨sel_set hrw _ _ _, ?_⟩
  have h1 : Only g w (we.setCell ⟨r, 0, none⟩ (.int .i64 k)) := only_setCell hor (.inr (Nat.le_of_eq hr)) _
  have h2 : Only g w ((we.setCell ⟨r, 0, none⟩ (.int .i64 k)).setCell ⟨r, 1, none⟩ (.string n)) := only_setCell h1 (.inr (Nat.le_of_eq hr)) _
  have h3 : Only g w (((we.setCell ⟨r, 0, none⟩ (.int .i64 k)).setCell ⟨r, 1, none⟩ (.string n)).setCell ⟨r, 2, none⟩ (.slice A m c)) := only_setCell h2 (.inr (Nat.le_of_eq hr)) _
  have hsz : (((we.setCell ⟨r, 0, none⟩ (.int .i64 k)).setCell ⟨r, 1, none⟩ (.string n)).setCell ⟨r, 2, none⟩ (.slice A m c)).heap.size = we.heap.size := by simp [World.setCell]
  have hblk : ∀ b, b ≠ r → (((we.setCell ⟨r, 0, none⟩ (.int .i64 k)).setCell ⟨r, 1, none⟩ (.string n)).setCell ⟨r, 2, none⟩ (.slice A m c)).heap[b]? = we.heap[b]? := fun b hne =>
    (Below.heap_setCell _ ⟨r, 2, none⟩ _ b hne).trans ((Below.heap_setCell _ ⟨r, 1, none⟩ _ b hne).trans (Below.heap_setCell _ ⟨r, 0, none⟩ _ b hne))
  exact RdG.ok hres h3 ((hblk g (by omega)).trans hbe) hb ⟨k, n, A, m, c, rfl, kSel.kept hrep fun b hs hlt => ⟨by omega, by rw [hsz]; exact hlt, hblk b (by omega)⟩⟩
theorem only_grown {g : Nat} {a w w' : World} {row : Option Nat} (h : Only g a w) (hg : w.grownBy w' row) (hr : ∀ y, row = some y → a.heap.size ≤ y) : Only g a w' :=
  ⟨hg.os.trans h.os, hg.tape.trans h.tape, hg.output.trans h.output, Nat.le_trans h.size hg.size, fun i hi hne => (hg.block i (Nat.lt_of_lt_of_le hi h.size) (fun e => by have := hr i e.symm; omega)).trans (h.block i hi hne)⟩
theorem PsAt.grown {w w' : World} {g : Nat} {t : ByteArray} {e a : Nat} {row : Option Nat} (h : PsAt w g t e a) (hg : w.grownBy w' row) (hr : ∀ y, row = some y → g < y) : PsAt w' g t e a :=
  (hg.block g (blk_lt h) (fun e => by have := hr g e.symm; omega)).trans h
set_option maxHeartbeats 4000000 in
theorem series_walk (fn : Nat) (eg : ∀ args w, (callFunc fn args).run Tryz.prog w = .ok (.enter fn args) w) (pp : Nat → Res Sel) (g : Nat) (t : ByteArray) (e : Nat) (k : ByteArray) (kind : Int) (a : Nat) (w : World) (hk0 : 0 < k.size)
    (hpart : ∀ (W : World) (b : Nat), PsAt W g t e b → a ≤ b → b ≤ t.size → Calls Tryz.prog fn #[.pointer (some ⟨g, 0, none⟩)] W fun en w' => RdG g t e vSel (pp b) W en w')
    (hmono : ∀ b s c, pp b = .ok (s, c) → b ≤ c) (h : PsAt w g t e a) (ha : a ≤ t.size) (hs : t.size < 1073741824) :
    Calls Tryz.prog 181 #[.pointer (some ⟨g, 0, none⟩), .int .i64 kind, .string k, .func (.func fn) #[.pointer (some ⟨g, 0, none⟩)] #[]] w fun en w' => RdG g t e vSel (serP t e pp k kind a) w en w' := by
  have hgl := blk_lt h
  obtain ⟨W, hW⟩ : ∃ W, w.alloc (.cells #[.int .i64 0, .string ⟨#[]⟩, .slice none 0 0] 40) = W := ⟨_, rfl⟩
  obtain ⟨r, hr⟩ : ∃ r, w.heap.size = r := ⟨_, rfl⟩
  have hb1 : Below w.heap.size w W := by rw [← hW]; exact ext_alloc (Below.refl _ _) _
  have h1 := h.later hb1
  have ho1 : Only g w W := only_of_below hb1 _
  have hr1 : W.heap[r]? = some (.cells #[.int .i64 0, .string ⟨#[]⟩, .slice none 0 0] 40 (0, 0)) := by rw [← hW, ← hr]; exact heap_alloc_new _ _
  have hpart := hide hpart
  have h2 := hpart.out W a h1 (Nat.le_refl _) ha
  rw [hr] at hgl
  clear hb1 h
  go_enter Tryz.func181, Tryz.ntmps181
  go_wp2_with fail
  refine h2.mono ?_
  rintro en w1 ⟨ho2, hm⟩
  clear h2
  cases hp : pp a with
  | error y =>
    obtain ⟨b, c⟩ := y
    rw [hp] at hm
    obtain rfl := hm
    go_wp2
    exact ⟨rfl, RdG.err (by unfold serP; rw [hp]) (ho1.trans ho2)⟩
  | ok z =>
    obtain ⟨s, b⟩ := z
    rw [hp] at hm
    obtain ⟨h2, hbl, v, ⟨k1, n1, A1, m1, c1, rfl, hrep⟩, rfl⟩ := hm
    have hser : Hid (moreP t e pp k kind (t.size + 1) [s] b = serP t e pp k kind a) := by
      refine hide ?_
      unfold serP
      rw [hp]
    have hab := hmono _ _ _ hp
    have hown := OwnS.one ho2.size hrep
    have hb3 : Below w1.heap.size w1 (w1.alloc (.cells #[.int .i64 k1, .string n1, .slice A1 m1 c1] 40)) := ext_alloc (Below.refl _ _) _
    have h3 := h2.later hb3
    have ho3 := Only.later ho2 hb3
    obtain ⟨B, hB⟩ : ∃ B, W.heap.size = B := ⟨_, rfl⟩
    have hrB : r < B := by rw [← hB]; exact blk_lt hr1
    rw [hB] at hown
    replace hB := hide hB
    replace hW := hide hW
    replace hr := hide hr
    clear h2 ho2 hb3 hrep hp
    go_wp2_with fail
    go_loopw [9] (fun v wr => ∃ (l : List Sel) (c n : Nat), OwnS B wr v l ∧ PsAt wr g t e c ∧ Only g W wr ∧ c ≤ t.size ∧ a ≤ c ∧ 1 ≤ l.length ∧ l.length ≤ c + 1 ∧ t.size - c ≤ n ∧ Hid (moreP t e pp k kind (n + 1) l c = serP t e pp k kind a)) (fun _ wr => psLeft g t wr)
    case atStart => exact ⟨[s], b, t.size, hown, h3, ho3, hbl, hab, Nat.le_refl _, by show 1 ≤ b + 1; omega, by omega, hser⟩
    case round =>
      clear hser hown h3 ho3 hab hbl
      obtain ⟨l, c, n, hown, h3, ho3, hcl, hac, hl1, hlc, hn, hR⟩ := hrel
      have hlw := hide (psLeft_at h3)
      have his := is_walk g t e c k wr h3 hcl hs
      go_wp2_with fail
      refine his.mono ?_
      rintro en w2 ⟨ho4, hm⟩
      clear his
      cases hl : lookT t e c with
      | bad b =>
        rw [hl] at hm
        obtain rfl := hm
        go_wp2
        exact ⟨rfl, RdG.err (hR.out.symm.trans (moreP_bad hl)) (ho1.trans (ho3.trans ho4))⟩
      | tok x p =>
        rw [hl] at hm
        obtain ⟨rfl, h4⟩ := hm
        have ho5 := ho3.trans ho4
        have hgB : g < B := by omega
        have hown4 := hown.only ho4 hgB
        have hpa := look_pass hl
        have hin := look_in hcl hl
        by_cases hx : x = k
        · rw [decide_eq_true hx]
          rw [if_pos hx, hx] at h4
          rw [hx] at hin
          rw [hx] at hl
          have hR2 := hide (hR.out.symm.trans (moreP_yes hl))
          have h6 := hpart.out w2 (startT t c + k.size) h4 (by omega) hin
          clear hR hown hl hx
          go_wp2_with fail
          refine h6.mono ?_
          rintro en w3 ⟨ho6, hm⟩
          clear h6
          cases hp : pp (startT t c + k.size) with
          | error y =>
            obtain ⟨b, d⟩ := y
            rw [hp] at hm hR2
            obtain rfl := hm
            go_wp2
            exact ⟨rfl, RdG.err hR2.out (ho1.trans (ho5.trans ho6))⟩
          | ok z =>
            obtain ⟨s, b⟩ := z
            rw [hp] at hm hR2
            obtain ⟨h7, hbl, v, ⟨k1, n1, A1, m1, c1, rfl, hrep⟩, rfl⟩ := hm
            have hmb := hmono _ _ _ hp
            have hown7 := hown4.only ho6 hgB
            have hlt4 := hown4.lt
            have hrep7 : kSel.rep (fun b => B ≤ b ∧ some b ≠ u9.ownBlock) w3 s [.int .i64 k1, .string n1, .slice A1 m1 c1] := kSel.more hrep fun b hb => ⟨Nat.le_trans (by have := ho5.size; rw [hB.out] at this; exact this) hb, fun e => by have := (hlt4 b e.symm).2; omega⟩
            have hb8 : Below w3.heap.size w3 (w3.alloc (.cells #[.int .i64 k1, .string n1, .slice A1 m1 c1] 40)) := ext_alloc (Below.refl _ _) _
            have h8 := h7.later hb8
            have ho8 := Only.later (ho5.trans ho6) hb8
            have hown8 := hown7.later hb8
            have hrep8 := kSel.later hrep7 hb8
            have hl4 : l.length ≤ 4000000000 := by omega
            have hB8 : B ≤ (w3.alloc (.cells #[.int .i64 k1, .string n1, .slice A1 m1 c1] 40)).heap.size := by
              have h1 := (ho5.trans ho6).size
              have h2 := hB.out
              rw [World.size_alloc]; omega
            clear hrep hrep7 hown7 hown4 h7 ho6 hp
            go_wp2_with (at_builtin; refine wpList_ownS rfl _ _ rfl rfl hown8 hl4 ⟨w3.heap.size, 0, none⟩ 1 rfl s [.int .i64 k1, .string n1, .slice A1 m1 c1] hrep8 (World.news_of_block (cs := #[.int .i64 k1, .string n1, .slice A1 m1 c1]) (t := 40) (fr := (0, 0)) (heap_alloc_new _ _)) hB8 ?_; rintro v' w9 hown9 hg9 ⟨g9, cap9, rfl⟩)
            have hg10 : World.grownBy _ w9 u9.ownBlock := hg9
            obtain ⟨n', rfl⟩ : ∃ n', n = n' + 1 := ⟨n - 1, by omega⟩
            have h10 := h8.grown hg10 (fun y hy => Nat.lt_of_lt_of_le hgB (hlt4 y hy).1)
            have ho10 := only_grown ho8 hg10 (fun y hy => by rw [hB.out]; exact (hlt4 y hy).1)
            have hR10 := hide hR2.out.symm
            clear hg9 hg10 h8 ho8 hown8 hR2 hrep8 hB8 hb8
            go_roundw
            case rel => exact ⟨l ++ [s], b, n', hown9, h10, ho10, hbl, by omega, by rw [List.length_append]; show 1 ≤ l.length + 1; omega, by rw [List.length_append]; show l.length + 1 ≤ b + 1; omega, by omega, hR10⟩
            case measure =>
              rw [psLeft_at h10, hlw.out]
              omega
        · rw [decide_eq_false hx]
          rw [if_neg hx] at h4
          have hR2 := hide (hR.out.symm.trans (moreP_no hl hx))
          clear hR hown hl
          have hs4 : startT t c ≤ t.size := passT_in blankC t hcl
          have hor := ho1.trans ho5
          have hr4 : w2.heap[r]? = _ := (ho5.block r (blk_lt hr1) (by intro e; injection e with e; omega)).trans hr1
          obtain ⟨A9, c9, rfl, hc9, hA9⟩ := hown4.at
          obtain ⟨y0, y1, y2, hfr⟩ := sel_cells hr4
          have fr0 := hfr 0
          have fr1 := hfr 1
          have fr2 := hfr 2
          have hrl4 := blk_lt hr4
          clear hfr
          by_cases hl2 : l.length = 1
          · obtain ⟨s0, rfl⟩ : ∃ s0, l = [s0] := by
              match l, hl2 with
              | [s0], _ => exact ⟨s0, rfl⟩
            obtain ⟨b9, off, vs, rfl, hb9, hbl9, hrep, hcs⟩ := hA9.get (j := 0) rfl
            obtain ⟨k9, n9, A8, m8, c8, rfl⟩ := SelRep.form hrep
            have q0 := hcs 0 _ rfl
            have q1 := hcs 1 _ rfl
            have q2 := hcs 2 _ rfl
            have hne : b9 ≠ r := by omega
            simp only [Nat.zero_mul, Nat.add_zero] at q0 q1 q2
            obtain ⟨z0, hdone⟩ := sel_done hR2.out hs4 hor hr.out hgl hrB hr4 h4 hrep
            obtain ⟨z1, z2, z3, -⟩ := sel_cells z0
            replace hdone := hide hdone
            clear hcs hrep z0 hown4 hA9 hR2 h4 hr4 hlw
            have h11 : ([s0] : List Sel).length = 1 := rfl
            rw [h11] at hc9
            go_wp2
            exact end_sel rfl r _ _ _ rfl rfl z1 z2 z3 hdone.out
          · have hrep : kSel.rep (fun b => B ≤ b) w2 (oneOf kind l) [.int .i64 kind, .string ⟨#[]⟩, .slice A9 l.length c9] := by
              have e1 : oneOf kind l = .mk kind ⟨#[]⟩ l := by
                match l, hl2 with
                | [], _ => rfl
                | _ :: _ :: _, _ => rfl
              rw [e1]
              exact rep_sel.2 ⟨A9, c9, rfl, hc9, hA9⟩
            obtain ⟨z0, hdone⟩ := sel_done hR2.out hs4 hor hr.out hgl hrB hr4 h4 hrep
            obtain ⟨z1, z2, z3, -⟩ := sel_cells z0
            obtain ⟨m, hm⟩ : ∃ m, l.length = m := ⟨_, rfl⟩
            rw [hm] at z1 z2 z3 hdone hl2 hc9 ⊢
            replace hdone := hide hdone
            have hm1 : ((m : Int) == 1) = false := by rw [beq_eq_false_iff_ne]; omega
            clear hrep z0 hown4 hA9 hR2 h4 hr4 hlw hm hl2
            go_wp2
            exact end_sel rfl r _ _ _ rfl rfl z1 z2 z3 hdone.out
end Go.Proofs.YtdnnahdafhddlaaGreatDoor

namespace Go.Proofs.YtdnnahdafhddlaaGreatDoor
open Go.RowKit
set_option maxRecDepth 100000

/-! What is read stands behind where the reading began. -/
theorem nextP_le {t : ByteArray} {e a b : Nat} {x : ByteArray × Nat} (h : nextP t e a = .ok (x, b)) : a ≤ b := by
  unfold nextP at h
  have hs : a ≤ startT t a := passT_ge _ _ _
  cases hl : lookT t e a with
  | bad c => rw [hl] at h; cases h
  | tok y p => rw [hl] at h; injection h with h; injection h with _ h; omega
theorem needP_le {t k : ByteArray} {e a b : Nat} {u : Unit} (h : needP t e k a = .ok (u, b)) : a ≤ b := by
  unfold needP at h
  cases hn : nextP t e a with
  | error y => rw [hn] at h; cases h
  | ok z =>
    obtain ⟨⟨x, p⟩, c⟩ := z
    rw [hn] at h
    have := nextP_le hn
    simp only at h
    split at h
    · injection h with h; injection h with _ h; omega
    · cases h
theorem identP_le {ok : ByteArray → Bool} {t : ByteArray} {e a b : Nat} {u : ByteArray} (h : identP ok t e a = .ok (u, b)) : a ≤ b := by
  unfold identP at h
  cases hn : nextP t e a with
  | error y => rw [hn] at h; cases h
  | ok z =>
    obtain ⟨⟨x, p⟩, c⟩ := z
    rw [hn] at h
    have := nextP_le hn
    simp only at h
    split at h
    · injection h with h; injection h with _ h; omega
    · cases h
theorem moreP_le {t k : ByteArray} {e : Nat} {pp : Nat → Res Sel} {kind : Int} (hm : ∀ b s c, pp b = .ok (s, c) → b ≤ c) : ∀ (n : Nat) (l : List Sel) (a b : Nat) (s : Sel), moreP t e pp k kind n l a = .ok (s, b) → a ≤ b
  | 0, l, a, b, s, h => by
    unfold moreP at h
    split at h <;> cases h
  | n + 1, l, a, b, s, h => by
    have hs : a ≤ startT t a := passT_ge _ _ _
    cases hl : lookT t e a with
    | bad c => rw [moreP_bad hl] at h; cases h
    | tok x p =>
      by_cases hx : x = k
      · rw [hx] at hl
        rw [moreP_yes hl] at h
        cases hp : pp (startT t a + k.size) with
        | error y => rw [hp] at h; cases h
        | ok z =>
          obtain ⟨s1, c⟩ := z
          rw [hp] at h
          have h1 := hm _ _ _ hp
          have h2 := moreP_le hm n _ _ _ _ h
          omega
      · rw [moreP_no hl hx] at h
        injection h with h; injection h with _ h; omega
theorem serP_le {t k : ByteArray} {e : Nat} {pp : Nat → Res Sel} {kind : Int} (hm : ∀ b s c, pp b = .ok (s, c) → b ≤ c) (a : Nat) (s : Sel) (b : Nat) (h : serP t e pp k kind a = .ok (s, b)) : a ≤ b := by
  unfold serP at h
  cases hp : pp a with
  | error y => rw [hp] at h; cases h
  | ok z =>
    obtain ⟨s1, c⟩ := z
    rw [hp] at h
    have h1 := hm _ _ _ hp
    have h2 := moreP_le hm _ _ _ _ _ h
    omega
theorem atomP_le {ok : ByteArray → Bool} {ws : List ByteArray} {t : ByteArray} {e : Nat} : ∀ (f a : Nat) (s : Sel) (b : Nat), atomP ok ws t e f a = .ok (s, b) → a ≤ b
  | 0, a, s, b, h => by
    unfold atomP at h
    split at h <;> cases h
  | f + 1, a, s, b, h => by
    unfold atomP at h
    cases hn : nextP t e a with
    | error y => rw [hn] at h; cases h
    | ok z =>
      obtain ⟨⟨x, p⟩, c⟩ := z
      rw [hn] at h
      have h0 := nextP_le hn
      simp only at h
      split at h
      · cases hp : atomP ok ws t e f c with
        | error y => rw [hp] at h; cases h
        | ok z =>
          obtain ⟨s1, d⟩ := z
          rw [hp] at h
          have h1 := atomP_le f _ _ _ hp
          injection h with h; injection h with _ h; omega
      · split at h
        · cases hp : serP t e (serP t e (atomP ok ws t e f) xAnd 8) xOr 9 c with
          | error y => rw [hp] at h; cases h
          | ok z =>
            obtain ⟨s1, d⟩ := z
            rw [hp] at h
            have h1 := serP_le (fun b s c h => serP_le (fun b s c h => atomP_le f b s c h) b s c h) _ _ _ hp
            simp only at h
            cases hq : needP t e xShut d with
            | error y => rw [hq] at h; cases h
            | ok z =>
              obtain ⟨u, d2⟩ := z
              rw [hq] at h
              have h2 := needP_le hq
              injection h with h; injection h with _ h; omega
        · split at h
          · injection h with h; injection h with _ h; omega
          · split at h
            · cases hq : identP ok t e c with
              | error y => rw [hq] at h; cases h
              | ok z =>
                obtain ⟨u, d2⟩ := z
                rw [hq] at h
                have h2 := identP_le hq
                injection h with h; injection h with _ h; omega
            · cases h
/-! The words of the selections. -/
theorem idx_leaf (z : ByteArray) : ∀ (l : List ByteArray) (i : Int), idxFrom z l i = if leafK l z < l.length then i + (leafK l z : Int) else -1
  | [], i => by simp [idxFrom, leafK]
  | x :: r, i => by
    have ih := idx_leaf z r (i + 1)
    have e : leafK (x :: r) z = if x = z then 0 else leafK r z + 1 := by
      unfold leafK
      rw [List.findIdx_cons]
      by_cases h : x = z <;> simp [h]
    rw [idxFrom, toList_inj, ih, e]
    by_cases h : x = z
    · simp [h]
    · simp only [h, decide_false, Bool.false_eq_true, if_false, List.length_cons]
      by_cases h2 : leafK r z < r.length
      · rw [if_pos h2, if_pos (by omega)]; omega
      · rw [if_neg h2, if_neg (by omega)]
theorem at_lit_strs {w : World} {t : TypeId} {cs : Array Value} (zs : List ByteArray) (hc : cs.toList = zs.map Value.string) : At kStr AnyB (w.alloc (.cells cs t)) (some ⟨w.heap.size, 0, none⟩) zs := by
  obtain ⟨A, c, e, -, h⟩ := rep_lit_strs (B0 := 0) (B := 0) (ts := [t]) zs (heap_alloc_new w (.cells cs t)) hc rfl (Nat.zero_le _) (by simp)
  injection e with e _
  injection e with e _
  subst e
  exact h.any
set_option maxHeartbeats 1000000 in
theorem selections_walk (w : World) : Calls Tryz.prog 62 #[] w fun e w' => ∃ A, e = .returned (.slice A 6 6) ∧ At kStr AnyB w' A selWs ∧ Below w.heap.size w w' := by
  go_enter Tryz.func62, Tryz.ntmps62
  go_wp2
  go_ret
  exact ⟨_, rfl, at_lit_strs selWs rfl, ext_alloc (Below.refl _ _) _⟩
set_option maxHeartbeats 1000000 in
theorem kinds_walk (w : World) : Calls Tryz.prog 79 #[] w fun e w' => ∃ A, e = .returned (.slice A 12 12) ∧ At kStr AnyB w' A kindWs ∧ Below w.heap.size w w' := by
  go_enter Tryz.func79, Tryz.ntmps79
  go_wp2
  go_ret
  exact ⟨_, rfl, at_lit_strs kindWs rfl, ext_alloc (Below.refl _ _) _⟩
/-- What the atoms' reader does, as far as a line goes. -/
def AtomAt (f : Nat) : Prop := ∀ (g : Nat) (t : ByteArray) (e a : Nat) (w : World), PsAt w g t e a → a ≤ t.size → t.size < 1073741824 → t.size - a < f →
  Calls Tryz.prog 205 #[.pointer (some ⟨g, 0, none⟩)] w fun en w' => RdG g t e vSel (atomP codeB selWs t e f a) w en w'
theorem new3 {w W : World} {g r : Nat} {t : ByteArray} {e a : Nat} (h : PsAt w g t e a) (hW : w.alloc (.cells #[.int .i64 0, .string ⟨#[]⟩, .slice none 0 0] 40) = W) (hr : w.heap.size = r) :
    PsAt W g t e a ∧ Only g w W ∧ W.heap[r]? = some (.cells #[.int .i64 0, .string ⟨#[]⟩, .slice none 0 0] 40 (0, 0)) ∧ g < r ∧ W.heap.size = r + 1 := by
  subst hW
  subst hr
  have hb1 : Below w.heap.size w (w.alloc (.cells #[.int .i64 0, .string ⟨#[]⟩, .slice none 0 0] 40)) := ext_alloc (Below.refl _ _) _
  exact ⟨h.later hb1, only_of_below hb1 _, heap_alloc_new _ _, blk_lt h, World.size_alloc _ _⟩
theorem word_is (x : ByteArray) (l : List UInt8) : (x.toList == l) = decide (x = ⟨l.toArray⟩) := by
  have h : (⟨l.toArray⟩ : ByteArray).toList = l := by rw [Lib.toList_data]
  rw [← toList_inj, h]
set_option maxHeartbeats 4000000 in
theorem conj_walk (f : Nat) (hA : AtomAt f) (g : Nat) (t : ByteArray) (e a : Nat) (w : World) (h : PsAt w g t e a) (ha : a ≤ t.size) (hs : t.size < 1073741824) (hf : t.size - a < f) :
    Calls Tryz.prog 182 #[.pointer (some ⟨g, 0, none⟩)] w fun en w' => RdG g t e vSel (serP t e (atomP codeB selWs t e f) xAnd 8 a) w en w' := by
  have eg : ∀ args w, (callFunc 205 args).run Tryz.prog w = .ok (.enter 205 args) w := enters_of Tryz.func205 (by kernel_rfl) rfl
  have hmf : ∀ (fn : Fn) (first cap : Array Value) (w : World), (Instr.makeFunc fn first cap).run Tryz.prog w = .ok (.func fn first cap) w := fun _ _ _ _ => rfl
  obtain ⟨W, hW⟩ : ∃ W, w.alloc (.cells #[.int .i64 0, .string ⟨#[]⟩, .slice none 0 0] 40) = W := ⟨_, rfl⟩
  obtain ⟨r, hr⟩ : ∃ r, w.heap.size = r := ⟨_, rfl⟩
  obtain ⟨h1, ho1, hr1, hgr, hWs⟩ := new3 h hW hr
  have hser := series_walk 205 eg (atomP codeB selWs t e f) g t e xAnd 8 a W (by decide) (fun V b hV hab hb => hA g t e b V hV hb hs (by omega)) (atomP_le f) h1 ha hs
  rw [show xAnd = ⟨#[97, 110, 100]⟩ from rfl] at hser ⊢
  go_enter Tryz.func182, Tryz.ntmps182
  go_wp2_with fail
  refine hser.mono ?_
  rintro en w1 ⟨ho2, hm⟩
  cases hp : serP t e (atomP codeB selWs t e f) ⟨#[97, 110, 100]⟩ 8 a with
  | error y =>
    obtain ⟨b, c⟩ := y
    rw [hp] at hm
    obtain rfl := hm
    go_wp2
    exact ⟨rfl, RdG.err hp (ho1.trans ho2)⟩
  | ok z =>
    obtain ⟨s, b⟩ := z
    rw [hp] at hm
    obtain ⟨h2, hbl, v, ⟨k, n, A, m, c, rfl, hrep⟩, rfl⟩ := hm
    have hr2 : w1.heap[r]? = _ := (ho2.block r (blk_lt hr1) (by intro e; injection e with e; omega)).trans hr1
    obtain ⟨z0, hdone⟩ := sel_done hp hbl (ho1.trans ho2) hr hgr (Nat.lt_succ_self r) hr2 h2 (hWs ▸ hrep)
    obtain ⟨z1, z2, z3, -⟩ := sel_cells z0
    obtain ⟨y0, y1, y2, hfr⟩ := sel_cells hr2
    have fr0 := hfr 0
    have fr1 := hfr 1
    have fr2 := hfr 2
    have hrl := blk_lt hr2
    replace hdone := hide hdone
    clear hfr z0 hrep h2 hr2 hp hser
    go_wp2
    exact end_sel rfl r _ _ _ rfl rfl z1 z2 z3 hdone.out
set_option maxHeartbeats 4000000 in
theorem sel_walk (f : Nat) (hA : AtomAt f) (g : Nat) (t : ByteArray) (e a : Nat) (w : World) (h : PsAt w g t e a) (ha : a ≤ t.size) (hs : t.size < 1073741824) (hf : t.size - a < f) :
    Calls Tryz.prog 139 #[.pointer (some ⟨g, 0, none⟩)] w fun en w' => RdG g t e vSel (selP gramT t e f a) w en w' := by
  have eg : ∀ args w, (callFunc 182 args).run Tryz.prog w = .ok (.enter 182 args) w := enters_of Tryz.func182 (by kernel_rfl) rfl
  have hmf : ∀ (fn : Fn) (first cap : Array Value) (w : World), (Instr.makeFunc fn first cap).run Tryz.prog w = .ok (.func fn first cap) w := fun _ _ _ _ => rfl
  obtain ⟨W, hW⟩ : ∃ W, w.alloc (.cells #[.int .i64 0, .string ⟨#[]⟩, .slice none 0 0] 40) = W := ⟨_, rfl⟩
  obtain ⟨r, hr⟩ : ∃ r, w.heap.size = r := ⟨_, rfl⟩
  obtain ⟨h1, ho1, hr1, hgr, hWs⟩ := new3 h hW hr
  have hser := series_walk 182 eg (serP t e (atomP codeB selWs t e f) xAnd 8) g t e xOr 9 a W (by decide) (fun V b hV hab hb => conj_walk f hA g t e b V hV hb hs (by omega)) (serP_le (atomP_le f)) h1 ha hs
  have hser : Calls Tryz.prog 181 #[.pointer (some ⟨g, 0, none⟩), .int .i64 9, .string ⟨#[111, 114]⟩, .func (.func 182) #[.pointer (some ⟨g, 0, none⟩)] #[]] W fun en w' => RdG g t e vSel (selP gramT t e f a) W en w' := hser
  go_enter Tryz.func139, Tryz.ntmps139
  go_wp2_with fail
  refine hser.mono ?_
  rintro en w1 ⟨ho2, hm⟩
  cases hp : selP gramT t e f a with
  | error y =>
    obtain ⟨b, c⟩ := y
    rw [hp] at hm
    obtain rfl := hm
    go_wp2
    exact ⟨rfl, RdG.err hp (ho1.trans ho2)⟩
  | ok z =>
    obtain ⟨s, b⟩ := z
    rw [hp] at hm
    obtain ⟨h2, hbl, v, ⟨k, n, A, m, c, rfl, hrep⟩, rfl⟩ := hm
    have hr2 : w1.heap[r]? = _ := (ho2.block r (blk_lt hr1) (by intro e; injection e with e; omega)).trans hr1
    obtain ⟨z0, hdone⟩ := sel_done hp hbl (ho1.trans ho2) hr hgr (Nat.lt_succ_self r) hr2 h2 (hWs ▸ hrep)
    obtain ⟨z1, z2, z3, -⟩ := sel_cells z0
    obtain ⟨y0, y1, y2, hfr⟩ := sel_cells hr2
    have fr0 := hfr 0
    have fr1 := hfr 1
    have fr2 := hfr 2
    have hrl := blk_lt hr2
    replace hdone := hide hdone
    clear hfr z0 hrep h2 hr2 hp hser
    go_wp2
    exact end_sel rfl r _ _ _ rfl rfl z1 z2 z3 hdone.out
set_option maxHeartbeats 4000000 in
theorem atom_step (f : Nat) (hA : AtomAt f) : AtomAt (f + 1) := by
  intro g t e a w h ha hs hf
  obtain ⟨W, hW⟩ : ∃ W, w.alloc (.cells #[.int .i64 0, .string ⟨#[]⟩, .slice none 0 0] 40) = W := ⟨_, rfl⟩
  obtain ⟨r, hr⟩ : ∃ r, w.heap.size = r := ⟨_, rfl⟩
  obtain ⟨h1, ho1, hr1, hgr, hWs⟩ := new3 h hW hr
  have hnx := pnext_walk g t e a W h1 ha hs
  have hAt := hide hA
  clear hA h
  go_enter Tryz.func205, Tryz.ntmps205
  go_wp2_with fail
  refine hnx.mono ?_
  rintro en w1 ⟨ho2, hm⟩
  clear hnx
  cases hl : lookT t e a with
  | bad b =>
    rw [hl] at hm
    obtain rfl := hm
    go_wp2
    exact ⟨rfl, RdG.err (by unfold atomP nextP; rw [hl]) (ho1.trans ho2)⟩
  | tok x p =>
    rw [hl] at hm
    obtain ⟨rfl, h2⟩ := hm
    have hin := look_in ha hl
    have hpa := look_pass hl
    obtain ⟨b, hb⟩ : ∃ b, startT t a + x.size = b := ⟨_, rfl⟩
    have hn : nextP t e a = .ok ((x, p), b) := by unfold nextP; rw [hl]; rw [← hb]
    have hat : atomP codeB selWs t e (f + 1) a = (
      if x = xNot then (match atomP codeB selWs t e f b with | .error y => .error y | .ok (s, c) => .ok (.mk 10 ⟨#[]⟩ [s], c))
      else if x = xOpen then (match serP t e (serP t e (atomP codeB selWs t e f) xAnd 8) xOr 9 b with
        | .error y => .error y
        | .ok (s, c) => (match needP t e xShut c with
          | .error y => .error y
          | .ok (_, d) => .ok (s, d)))
      else if x = xAll then .ok (.mk 1 ⟨#[]⟩ [], b)
      else if leafK selWs x < selWs.length then (match identP codeB t e b with
        | .error y => .error y
        | .ok (n, c) => .ok (.mk (2 + (leafK selWs x : Int)) n [], c))
      else .error (p, 15)) := by rw [atomP, hn]; rfl
    rw [hb] at h2 hin
    obtain ⟨w2, hw2⟩ : ∃ w2, w1.alloc (.cells #[.string x, .int .i64 (p : Int)] 166) = w2 := ⟨_, rfl⟩
    obtain ⟨q, hq⟩ : ∃ q, w1.heap.size = q := ⟨_, rfl⟩
    have hb2 : Below w1.heap.size w1 w2 := by rw [← hw2]; exact ext_alloc (Below.refl _ _) _
    have h3 := h2.later hb2
    have ho3 := Only.later (ho1.trans ho2) hb2
    have hr2 : w1.heap[r]? = _ := (ho2.block r (blk_lt hr1) (by intro e; injection e with e; omega)).trans hr1
    have hrq : r < q := by rw [← hq]; exact blk_lt hr2
    have hr3 : w2.heap[r]? = _ := (hb2.block r (blk_lt hr2)).trans hr2
    have ht3 : w2.heap[q]? = some (.cells #[.string x, .int .i64 (p : Int)] 166 (0, 0)) := by rw [← hw2, ← hq]; exact heap_alloc_new _ _
    have hsz2 : w2.heap.size = q + 1 := by rw [← hw2, World.size_alloc, hq]
    obtain ⟨d0, d1, -⟩ := tok_cells ht3
    clear h2 ho2 hb2 hr2 h1 ho1 hr1 hn
    have hW0 : w.heap.size = r := hr
    have hzs : xNot.size = 3 := rfl
    have hzo : xOpen.size = 1 := rfl
    by_cases hx1 : x = xNot
    · have k1 : (x.toList == [110, 111, 116]) = true := by rw [word_is]; exact decide_eq_true hx1
      have hxs : x.size = 3 := by rw [hx1]; rfl
      have h4 := hAt.out g t e b w2 h3 hin hs (by omega)
      rw [if_pos hx1] at hat
      replace hx1 := hide hx1
      go_wp2_with fail
      refine h4.mono ?_
      rintro en w3 ⟨ho4, hm⟩
      clear h4
      cases hp : atomP codeB selWs t e f b with
      | error y =>
        obtain ⟨y1, y2⟩ := y
        rw [hp] at hm hat
        obtain rfl := hm
        go_wp2
        exact ⟨rfl, RdG.err hat (ho3.trans ho4)⟩
      | ok z =>
        obtain ⟨s, c⟩ := z
        rw [hp] at hm hat
        obtain ⟨h5, hcl, v, ⟨k, n, A, m, cp, rfl, hrep⟩, rfl⟩ := hm
        have hr4 : w3.heap[r]? = _ := (ho4.block r (blk_lt hr3) (by intro e; injection e with e; omega)).trans hr3
        have hs4 := ho4.size
        have hone := OwnS.one (B := r + 1) (w := w3) (s := s) (by omega) (kSel.more hrep fun b hb => by omega)
        obtain ⟨w4, hw4⟩ : ∃ w4, w3.alloc (.cells #[.int .i64 k, .string n, .slice A m cp] 40) = w4 := ⟨_, rfl⟩
        have hb4 : Below w3.heap.size w3 w4 := by rw [← hw4]; exact ext_alloc (Below.refl _ _) _
        rw [hw4] at hone
        obtain ⟨A5, c5, he5, hc5, hA5⟩ := hone.at
        injection he5 with he5 he6 he7
        subst he5
        subst he7
        clear he6
        have hrep5 : kSel.rep (fun b => r + 1 ≤ b) w4 (.mk 10 ⟨#[]⟩ [s]) [.int .i64 10, .string ⟨#[]⟩, .slice (some ⟨w3.heap.size, 0, none⟩) 1 1] := rep_sel.2 ⟨_, 1, rfl, Nat.le_refl _, hA5⟩
        have hr5 : w4.heap[r]? = _ := (hb4.block r (blk_lt hr4)).trans hr4
        obtain ⟨z0, hdone⟩ := sel_done hat hcl (Only.later (ho3.trans ho4) hb4) hW0 hgr (Nat.lt_succ_self r) hr5 (h5.later hb4) hrep5
        obtain ⟨z1, z2, z3, -⟩ := sel_cells z0
        obtain ⟨y0, y1, y2, hfr⟩ := sel_cells hr5
        have fr0 := hfr 0
        have fr1 := hfr 1
        have fr2 := hfr 2
        have hrl := blk_lt hr5
        replace hdone := hide hdone
        clear hfr z0 hrep h5 hr5 hp hrep5 hA5 hone hr4 hat hb4
        go_wp2
        exact end_sel rfl r _ _ _ rfl rfl z1 z2 z3 hdone.out
    · have k1 : (x.toList == [110, 111, 116]) = false := by rw [word_is]; exact decide_eq_false hx1
      rw [if_neg hx1] at hat
      by_cases hx2 : x = xOpen
      · have k2 : (x.toList == [40]) = true := by rw [word_is]; exact decide_eq_true hx2
        have hxs : x.size = 1 := by rw [hx2]; rfl
        have h4 := sel_walk f hAt.out g t e b w2 h3 hin hs (by omega)
        rw [if_pos hx2] at hat
        have hat : atomP codeB selWs t e (f + 1) a = (match selP gramT t e f b with
          | .error y => .error y
          | .ok (s, c) => (match needP t e xShut c with
            | .error y => .error y
            | .ok (_, d) => .ok (s, d))) := hat
        replace hx2 := hide hx2
        go_wp2_with fail
        refine h4.mono ?_
        rintro en w3 ⟨ho4, hm⟩
        clear h4
        cases hp : selP gramT t e f b with
        | error y =>
          obtain ⟨y1, y2⟩ := y
          rw [hp] at hm hat
          obtain rfl := hm
          go_wp2
          exact ⟨rfl, RdG.err hat (ho3.trans ho4)⟩
        | ok z =>
          obtain ⟨s, c⟩ := z
          rw [hp] at hm hat
          obtain ⟨h5, hcl, v, ⟨k, n, A, m, cp, rfl, hrep⟩, rfl⟩ := hm
          have hr4 : w3.heap[r]? = _ := (ho4.block r (blk_lt hr3) (by intro e; injection e with e; omega)).trans hr3
          have hs4 := ho4.size
          obtain ⟨w4, hw4⟩ : ∃ w4, w3.alloc (.cells #[.int .i64 k, .string n, .slice A m cp] 40) = w4 := ⟨_, rfl⟩
          obtain ⟨q4, hq4⟩ : ∃ q4, w3.heap.size = q4 := ⟨_, rfl⟩
          have hb4 : Below w3.heap.size w3 w4 := by rw [← hw4]; exact ext_alloc (Below.refl _ _) _
          have hbx4 : w4.heap[q4]? = some (.cells #[.int .i64 k, .string n, .slice A m cp] 40 (0, 0)) := by rw [← hw4, ← hq4]; exact heap_alloc_new _ _
          have h6 := h5.later hb4
          have ho5 := Only.later (ho3.trans ho4) hb4
          have hr5 : w4.heap[r]? = _ := (hb4.block r (blk_lt hr4)).trans hr4
          have hrep5 := kSel.later hrep hb4
          have hnd := need_walk g t e c xShut w4 h6 hcl hs
          have hnd : Calls Tryz.prog 133 #[.pointer (some ⟨g, 0, none⟩), .string ⟨#[41]⟩] w4 fun en w' => RdG g t e vUnit (needP t e xShut c) w4 en w' := hnd
          clear hb4 h5 hrep hr4 hp
          go_wp2_with fail
          refine hnd.mono ?_
          rintro en w5 ⟨ho6, hm⟩
          clear hnd
          cases hp : needP t e xShut c with
          | error y =>
            obtain ⟨y1, y2⟩ := y
            rw [hp] at hm hat
            obtain rfl := hm
            go_wp2
            exact ⟨rfl, RdG.err hat (ho5.trans ho6)⟩
          | ok z =>
            obtain ⟨u, d⟩ := z
            rw [hp] at hm hat
            obtain ⟨h7, hdl, v, rfl, rfl⟩ := hm
            have hr6 : w5.heap[r]? = _ := (ho6.block r (blk_lt hr5) (by intro e; injection e with e; omega)).trans hr5
            have hbx6 : w5.heap[q4]? = _ := (ho6.block q4 (blk_lt hbx4) (by intro e; injection e with e; omega)).trans hbx4
            have hrep6 : kSel.rep (fun b => r + 1 ≤ b) w5 s [.int .i64 k, .string n, .slice A m cp] := kSel.kept hrep5 fun b hb hlt => ⟨by omega, Nat.lt_of_lt_of_le hlt ho6.size, ho6.block b hlt (by intro e; injection e with e; omega)⟩
            obtain ⟨z0, hdone⟩ := sel_done hat hdl (ho5.trans ho6) hW0 hgr (Nat.lt_succ_self r) hr6 h7 hrep6
            obtain ⟨z1, z2, z3, -⟩ := sel_cells z0
            obtain ⟨y0, y1, y2, hfr⟩ := sel_cells hr6
            obtain ⟨j0, j1, j2, -⟩ := sel_cells hbx6
            have fr0 := hfr 0
            have fr1 := hfr 1
            have fr2 := hfr 2
            have hrl := blk_lt hr6
            have hql := blk_lt hbx6
            replace hdone := hide hdone
            clear hfr z0 hrep5 hrep6 h6 h7 hr5 hr6 hbx4 hbx6 hp hat ho5 ho6
            go_wp2
            exact end_sel rfl r _ _ _ rfl rfl z1 z2 z3 hdone.out
      · have k2 : (x.toList == [40]) = false := by rw [word_is]; exact decide_eq_false hx2
        rw [if_neg hx2] at hat
        obtain ⟨y0, y1, y2, hfr⟩ := sel_cells hr3
        have fr0 := hfr 0
        have fr1 := hfr 1
        have fr2 := hfr 2
        have hrl := blk_lt hr3
        clear hfr
        by_cases hx3 : x = xAll
        · have k3 : (x.toList == [97, 108, 108]) = true := by rw [word_is]; exact decide_eq_true hx3
          rw [if_pos hx3] at hat
          have hrep5 : kSel.rep (fun b => r + 1 ≤ b) w2 (.mk 1 ⟨#[]⟩ []) [.int .i64 1, .string ⟨#[]⟩, .slice none 0 0] := rep_sel.2 ⟨none, 0, rfl, Nat.le_refl _, fun h => absurd h (Nat.lt_irrefl 0)⟩
          obtain ⟨z0, hdone⟩ := sel_done hat hin ho3 hW0 hgr (Nat.lt_succ_self r) hr3 h3 hrep5
          obtain ⟨z1, z2, z3, -⟩ := sel_cells z0
          replace hdone := hide hdone
          replace hx1 := hide hx1
          replace hx2 := hide hx2
          replace hx3 := hide hx3
          clear z0 hr3 h3 hat ho3 hrep5
          go_wp2
          exact end_sel rfl r _ _ _ rfl rfl z1 z2 z3 hdone.out
        · have k3 : (x.toList == [97, 108, 108]) = false := by rw [word_is]; exact decide_eq_false hx3
          rw [if_neg hx3] at hat
          replace hx1 := hide hx1
          replace hx2 := hide hx2
          replace hx3 := hide hx3
          replace hat := hide hat
          obtain ⟨ix, hix⟩ : ∃ ix, idxS x selWs = ix := ⟨_, rfl⟩
          have hbw : Below w2.heap.size w2 w2 := Below.refl _ _
          have hC : Cn2 q 0 (.string x) q 1 (.int .i64 p) w2 := ⟨d0, d1⟩
          have hsel := hide (fun (V : World) (hV : Below w2.heap.size w2 V) => (selections_walk V).mono fun e w' ⟨A, he, hA, hb⟩ => (⟨A, he, hA, ext_trans hV hb, hC.later (ext_trans hV hb)⟩ : ∃ A, e = Ending.returned (.slice A 6 6) ∧ At kStr AnyB w' A selWs ∧ Below w2.heap.size w2 w' ∧ Cn2 q 0 (.string x) q 1 (.int .i64 p) w'))
          have hidx : Hid (∀ (A : Option Addr) (V : World), At kStr AnyB V A selWs → Calls Tryz.prog 115 #[.slice A 6 6, .string x] V fun e w' => e = Ending.returned (.int .i64 ix) ∧ V = w') := hide (fun A V hA => (sindex_walk A selWs 6 x V (by decide) hA).mono fun e w' ⟨he, hw⟩ => (⟨he.trans (by rw [hix]), hw⟩ : e = Ending.returned (.int .i64 ix) ∧ V = w'))
          go_upto_region 11 with fail
          have hCd := hC.drew
          go_region_held3 (fun W' => W'.cell? ⟨q, 0, none⟩ = some (.string x) ∧ W'.cell? ⟨q, 1, none⟩ = some (.int .i64 p)) (first | ((repeat (first | (with_reducible assumption) | (with_reducible refine Cn2.alloc ?_ _) | (with_reducible refine Cn2.drew ?_) | (with_reducible refine Cn2.set ?_ ?_ ?_ _) | omega)); done)) (first | (go_at_call 62; refine (hsel.out _ (by repeat (first | (with_reducible assumption) | (with_reducible refine ext_alloc ?_ _) | (with_reducible refine ext_drew ?_)))).mono ?_; rintro e w6 ⟨A6, rfl, hA6, hb6, hc6⟩) | (go_at_call 115; (with_reducible refine (hidx.out _ _ (by first | (with_reducible assumption) | exact At.later (by assumption) (ext_drew (Below.refl _ _)))).mono ?_); rintro e w7 ⟨rfl, rfl⟩))
          clear hsel hidx hC hCd hbw d0 d1 y0 y1 y2 fr0 fr1 fr2 hrl
          have hr6 : w6.heap[r]? = _ := (hb6.block r (blk_lt hr3)).trans hr3
          have h6 := h3.later hb6
          have ho6 := Only.later ho3 hb6
          obtain ⟨d0, d1⟩ := id hc6
          have hixl : ix = if leafK selWs x < 6 then 0 + (leafK selWs x : Int) else -1 := hix.symm.trans (idx_leaf x selWs 0)
          have hat2 : atomP codeB selWs t e (f + 1) a = if leafK selWs x < 6 then (match identP codeB t e b with
            | .error y => .error y
            | .ok (n, c) => .ok (.mk (2 + (leafK selWs x : Int)) n [], c)) else .error (p, 15) := hat.out
          obtain ⟨kk, hkk⟩ : ∃ kk, leafK selWs x = kk := ⟨_, rfl⟩
          rw [hkk] at hixl hat2
          by_cases hlt : kk < 6
          · rw [if_pos hlt] at hat2 hixl
            rw [Int.zero_add] at hixl
            replace hix := hide hix
            subst hixl
            have e2 : IntKind.i64.wrap (2 + (kk : Int)) = 2 + (kk : Int) := IntWalk.i64_in _ (by omega)
            have hk0 : ¬ (kk : Int) < 0 := by omega
            have hid := ident_walk g t e b w6 h6 hin hs
            clear hat hkk hx1 hx2 hx3 hc6
            go_wp2_with fail
            refine hid.mono ?_
            rintro en w7 ⟨ho7, hm⟩
            clear hid
            cases hp : identP codeB t e b with
            | error y =>
              obtain ⟨y1, y2⟩ := y
              rw [hp] at hm hat2
              obtain rfl := hm
              go_wp2
              exact ⟨rfl, RdG.err hat2 (ho6.trans ho7)⟩
            | ok z =>
              obtain ⟨n, c⟩ := z
              rw [hp] at hm hat2
              obtain ⟨h8, hcl, v, rfl, rfl⟩ := hm
              have hr7 : w7.heap[r]? = _ := (ho7.block r (blk_lt hr6) (by intro e; injection e with e; omega)).trans hr6
              have hrep5 : kSel.rep (fun b => r + 1 ≤ b) w7 (.mk (2 + (kk : Int)) n []) [.int .i64 (2 + (kk : Int)), .string n, .slice none 0 0] := rep_sel.2 ⟨none, 0, rfl, Nat.le_refl _, fun h => absurd h (Nat.lt_irrefl 0)⟩
              obtain ⟨z0, hdone⟩ := sel_done hat2 hcl (ho6.trans ho7) hW0 hgr (Nat.lt_succ_self r) hr7 h8 hrep5
              obtain ⟨z1, z2, z3, -⟩ := sel_cells z0
              obtain ⟨y0, y1, y2, hfr⟩ := sel_cells hr7
              have fr0 := hfr 0
              have fr1 := hfr 1
              have fr2 := hfr 2
              have hrl := blk_lt hr7
              replace hdone := hide hdone
              clear hfr z0 hr3 h3 hat2 ho3 hrep5 hr6 hr7 h6 h8 hp
              go_wp2
              exact end_sel rfl r _ _ _ rfl rfl z1 z2 z3 hdone.out
          · rw [if_neg hlt] at hat2 hixl
            replace hix := hide hix
            subst hixl
            clear hat hkk hx1 hx2 hx3 hc6
            go_wp2_with (go_at_call 137; refine (sfail_walk _ _ _ _).mono ?_; rintro e w' ⟨rfl, rfl⟩)
            exact ⟨rfl, RdG.err hat2 ho6⟩
theorem atom_all : ∀ f, AtomAt f
  | 0 => fun _ _ _ _ _ _ _ _ hf => absurd hf (Nat.not_lt_zero _)
  | f + 1 => atom_step f (atom_all f)
end Go.Proofs.YtdnnahdafhddlaaGreatDoor

namespace Go.Proofs.YtdnnahdafhddlaaGreatDoor
open Go.RowKit
set_option maxRecDepth 100000

/-- A text cut at the first of a byte, told by places. -/
theorem pass_cut (c : UInt8) (t : ByteArray) : ∀ (k a : Nat), t.size - a = k → a ≤ t.size →
    cut1 c (t.data.toList.drop a) = ((t.extract a (passT (fun x => x != c) t a)).data.toList, t.data.toList.drop (passT (fun x => x != c) t a + 1), decide (passT (fun x => x != c) t a < t.size))
  | 0, a, hk, ha => by
    have hl : t.data.toList.length = t.size := ba_len t
    rw [passT_end (by omega), List.drop_eq_nil_of_le (by omega), List.drop_eq_nil_of_le (by omega)]
    have e : decide (a < t.size) = false := decide_eq_false (by omega)
    rw [e, extract_list, Nat.sub_self]
    rfl
  | k + 1, a, hk, ha => by
    have hl : t.data.toList.length = t.size := ba_len t
    have hlt : a < t.size := by omega
    have hd : t.data.toList.drop a = t[a] :: t.data.toList.drop (a + 1) := by
      rw [List.drop_eq_getElem_cons (by omega)]
      congr 1
    rw [hd, cut1]
    by_cases hc : t[a] = c
    · rw [if_pos hc, passT_stop hlt (by show (t[a] != c) = false; rw [hc]; simp)]
      rw [decide_eq_true hlt, extract_list, Nat.sub_self]
      rfl
    · have hgo : passT (fun x => x != c) t a = passT (fun x => x != c) t (a + 1) := passT_go hlt (by show (t[a] != c) = true; simpa using hc)
      have hge : a + 1 ≤ passT (fun x => x != c) t (a + 1) := passT_ge _ _ _
      have ih := pass_cut c t k (a + 1) (by omega) (by omega)
      rw [if_neg hc, hgo, ih]
      obtain ⟨m, hm⟩ : ∃ m, passT (fun x => x != c) t (a + 1) = m := ⟨_, rfl⟩
      rw [hm] at hge ⊢
      refine Prod.ext ?_ rfl
      show t[a] :: (t.extract (a + 1) m).data.toList = (t.extract a m).data.toList
      rw [extract_list, extract_list, hd, show m - a = (m - (a + 1)) + 1 from by omega, List.take_succ_cons]
theorem splitOn1_len (c : UInt8) : ∀ l : List UInt8, (splitOn1 c l).length ≤ l.length + 1
  | [] => Nat.le_refl _
  | b :: r => by
    have ih := splitOn1_len c r
    unfold splitOn1
    split
    · simp only [List.length_cons]; omega
    · split
      · simp
      · rename_i h0 t0 heq
        rw [heq] at ih
        simp only [List.length_cons] at ih ⊢
        omega
theorem trimSp_walk (s : ByteArray) (w : World) (hs : s.size ≤ 9223372036854775807) :
    Calls Tryz.prog 52 #[.string s, .string ⟨#[32]⟩] w fun e w' => e = .returned (.string (trimB s)) ∧ Below w.heap.size w w' :=
  Any.strings_Trim_laid Tryz.lays160 (by kernel_rfl) s ⟨#[32]⟩ w hs (by decide) (ascii_of_all (by decide))
/-- A slice of strings, in new blocks. -/
def vStrs (w w' : World) (l : List ByteArray) (v : Value) : Prop := ∃ A c, v = .slice A l.length c ∧ l.length ≤ c ∧ At kStr (fun b => w.heap.size ≤ b) w' A l
/-- The row while its strings are trimmed one by one. -/
def trimTo (l : List ByteArray) (j : Nat) : List ByteArray := (l.take j).map trimB ++ l.drop j
theorem trimTo_get {l : List ByteArray} {j : Nat} {z : ByteArray} (h : l[j]? = some z) : (trimTo l j)[j]? = some z := by
  have hj := (List.getElem?_eq_some_iff.1 h).1
  unfold trimTo
  rw [List.getElem?_append_right (by simp; omega)]
  simp only [List.length_map, List.length_take]
  rw [show j - min j l.length = 0 from by omega, List.getElem?_drop, Nat.add_zero]
  exact h
theorem trimTo_set {l : List ByteArray} {j : Nat} {z : ByteArray} (h : l[j]? = some z) : (trimTo l j).set j (trimB z) = trimTo l (j + 1) := by
  have hj := (List.getElem?_eq_some_iff.1 h).1
  have e : l.drop j = z :: l.drop (j + 1) := by
    rw [List.drop_eq_getElem_cons hj]
    congr 1
    rw [List.getElem?_eq_getElem hj] at h
    injection h
  unfold trimTo
  have hlen : ((l.take j).map trimB).length = j := by simp; omega
  rw [List.set_append_right _ _ (by omega), hlen, Nat.sub_self, e, List.set_cons_zero, List.take_add_one, h]
  simp
theorem trimTo_len (l : List ByteArray) (j : Nat) : (trimTo l j).length = l.length := by
  unfold trimTo
  simp only [List.length_append, List.length_map, List.length_take, List.length_drop]
  omega
/-- Block b holds these strings. -/
def RowS (w : World) (b : Nat) (l : List ByteArray) : Prop := ∃ cs : Array Value, w.heap[b]? = some (.cells cs 9 (0, 0)) ∧ cs.toList = l.map Value.string
theorem RowS.get {w : World} {b j : Nat} {l : List ByteArray} {z : ByteArray} (h : RowS w b l) (hj : l[j]? = some z) : w.cell? ⟨b, j, none⟩ = some (.string z) ∧ w.frozen? ⟨b, j, none⟩ = false ∧ b < w.heap.size := by
  obtain ⟨cs, h1, h2⟩ := h
  refine ⟨?_, by simp [World.frozen?, h1], blk_lt h1⟩
  rw [cell_of_row w b j _ _ _ h1]
  have : cs.toList[j]? = some (.string z) := by rw [h2, List.getElem?_map, hj]; rfl
  simpa using this
theorem RowS.set {w : World} {b j : Nat} {l : List ByteArray} (h : RowS w b l) (z : ByteArray) : RowS (w.setCell ⟨b, j, none⟩ (.string z)) b (l.set j z) := by
  obtain ⟨cs, h1, h2⟩ := h
  refine ⟨cs.setIfInBounds j (.string z), ?_, ?_⟩
  · simp only [World.setCell, Array.getElem?_modify, h1]
    rfl
  · rw [Array.toList_setIfInBounds, h2, List.map_set]
theorem RowS.later {w w' : World} {b : Nat} {l : List ByteArray} (h : RowS w b l) (hb : Below w.heap.size w w') : RowS w' b l := by
  obtain ⟨cs, h1, h2⟩ := h
  exact ⟨cs, (hb.block b (blk_lt h1)).trans h1, h2⟩
theorem RowS.at {w : World} {b : Nat} {l : List ByteArray} (h : RowS w b l) {S : Nat → Prop} (hS : S b) : At kStr S w (some ⟨b, 0, none⟩) l := by
  obtain ⟨cs, h1, h2⟩ := h
  refine fun _ => ⟨b, 0, rfl, hS, blk_lt h1, fun j x hx => ⟨[.string x], rfl, fun i u hu => ?_⟩⟩
  match i, hu with
  | 0, hu =>
    simp at hu
    subst hu
    rw [cell_of_row w b _ _ _ _ h1]
    have : cs.toList[j]? = some (.string x) := by rw [h2, List.getElem?_map, hx]; rfl
    simpa [kStr] using this
  | i + 1, hu => simp at hu
/-- What the brackets' reader does. -/
def bracksP (t : ByteArray) (e a : Nat) : Res (List ByteArray) := thenP (needP t e xComma) (fun _ => brackP gramT t e) a
set_option maxHeartbeats 4000000 in
theorem brackets_walk (g : Nat) (t : ByteArray) (e a : Nat) (w w0 : World) (hS : Std w0) (hbw : Below w0.heap.size w0 w) (hg0 : w0.heap.size ≤ g) (h : PsAt w g t e a) (ha : a ≤ t.size) (hs : t.size < 1073741824) :
    Calls Tryz.prog 140 #[.pointer (some ⟨g, 0, none⟩)] w fun en w' => RdG g t e vStrs (bracksP t e a) w en w' := by
  have hnd := need_walk g t e a xComma w h ha hs
  have hnd : Calls Tryz.prog 133 #[.pointer (some ⟨g, 0, none⟩), .string ⟨#[44]⟩] w fun en w' => RdG g t e vUnit (needP t e xComma a) w en w' := hnd
  go_enter Tryz.func140, Tryz.ntmps140
  go_wp2_with fail
  refine hnd.mono ?_
  rintro en w1 ⟨ho1, hm⟩
  clear hnd
  cases hp : needP t e xComma a with
  | error y =>
    obtain ⟨y1, y2⟩ := y
    rw [hp] at hm
    obtain rfl := hm
    go_wp2
    exact ⟨rfl, RdG.err (by unfold bracksP thenP; rw [hp]) ho1⟩
  | ok z =>
    obtain ⟨u, b0⟩ := z
    rw [hp] at hm
    obtain ⟨h1, hb0, v, rfl, rfl⟩ := hm
    have hbr : bracksP t e a = brackP gramT t e b0 := by unfold bracksP thenP; rw [hp]
    have hnx := pnext_walk g t e b0 w1 h1 hb0 hs
    clear hp h
    go_wp2_with fail
    refine hnx.mono ?_
    rintro en w2 ⟨ho2, hm⟩
    clear hnx
    cases hl : lookT t e b0 with
    | bad b =>
      rw [hl] at hm
      obtain rfl := hm
      go_wp2
      exact ⟨rfl, RdG.err (hbr.trans (by unfold brackP nextP; rw [hl])) (ho1.trans ho2)⟩
    | tok x p =>
      rw [hl] at hm
      obtain ⟨rfl, h2⟩ := hm
      have hin := look_in hb0 hl
      obtain ⟨b, hb⟩ : ∃ b, startT t b0 + x.size = b := ⟨_, rfl⟩
      have hbr2 : bracksP t e a = if x = xSq then
          (if passT (fun c => c != 93) t b < t.size then .ok (bracketL (t.extract b (passT (fun c => c != 93) t b)), passT (fun c => c != 93) t b + 1) else .error (p, 15)) else .error (p, 15) := by
        rw [hbr]
        unfold brackP nextP
        rw [hl]
        simp only
        rw [hb]
        rfl
      rw [hb] at h2 hin
      obtain ⟨w3, hw3⟩ : ∃ w3, w2.alloc (.cells #[.string x, .int .i64 (p : Int)] 166) = w3 := ⟨_, rfl⟩
      obtain ⟨q, hq⟩ : ∃ q, w2.heap.size = q := ⟨_, rfl⟩
      have hb3 : Below w2.heap.size w2 w3 := by rw [← hw3]; exact ext_alloc (Below.refl _ _) _
      have h3 := h2.later hb3
      have ho3 := Only.later (ho1.trans ho2) hb3
      have ht3 : w3.heap[q]? = some (.cells #[.string x, .int .i64 (p : Int)] 166 (0, 0)) := by rw [← hw3, ← hq]; exact heap_alloc_new _ _
      have hS3 : Std w3 := hS.after (Below.trans hbw (Only.below ho3 hg0 (by have := hbw.size; omega)))
      obtain ⟨d0, d1, -⟩ := tok_cells ht3
      clear hbr h1 ho1 ho2 h2 hb3 hl hb
      by_cases hx : x = xSq
      · have hxs : (x.toList == [91]) = true := by rw [word_is]; exact decide_eq_true hx
        rw [if_pos hx] at hbr2
        replace hx := hide hx
        obtain ⟨m, hm⟩ : ∃ m, passT (fun c => c != 93) t b = m := ⟨_, rfl⟩
        have hbm : b ≤ m := by rw [← hm]; exact passT_ge _ _ _
        have hmt : m ≤ t.size := by rw [← hm]; exact passT_in _ _ hin
        obtain ⟨y, hy⟩ : ∃ y, t.data.toList.drop (m + 1) = y := ⟨_, rfl⟩
        have hcl : Lib.cut (t.extract b t.size).data.toList [93] = ((t.extract b m).data.toList, y, decide (m < t.size)) := by
          have h1 := pass_cut 93 t _ b rfl hin
          rw [hm, hy] at h1
          rw [cut_eq, show (t.extract b t.size).data.toList = t.data.toList.drop b from by rw [extract_list, List.take_of_length_le (by rw [List.length_drop, ba_len]; omega)]]
          exact h1
        obtain ⟨ml, hml⟩ := hS3.maxLen
        have hcut : Hid (∀ n, Calls Tryz.prog 51 #[.string (t.extract b t.size), .string ⟨#[93]⟩] (w3.drewN n) fun e w' => e = .returned (.tuple #[.string (t.extract b m), .string ⟨y.toArray⟩, .bool (decide (m < t.size))]) ∧ ∃ k, w' = (w3.drewN n).drewN k) := by
          refine hide fun n => ?_
          have := Tryz.strings_Cut (t.extract b t.size) ⟨#[93]⟩ ml (w3.drewN n) (by rw [ByteArray.size_extract]; omega) hml
          rw [show (⟨#[93]⟩ : ByteArray).data.toList = [93] from rfl, hcl] at this
          exact this
        obtain ⟨c0, c1, c2, hfz, hgl⟩ := ps_cells h3
        have f2 := hfz 2
        clear hfz hcl hy
        rw [hm] at hbr2
        replace hm := hide hm
        have hb0 : (0 : Int) ≤ (b : Int) := by omega
        have hb1 : (b : Int) ≤ (t.size : Int) := by omega
        go_wp2
        go_quiet ((go_at_call 51; exact Calls.quiet_of (hcut.out _)))
        have hbd : Below w3.heap.size w3 (w3.drewN nq) := below_drewN (Below.refl _ _) _
        have h4 := h3.later hbd
        have ho4 := Only.later ho3 hbd
        have hS4 := hS3.after hbd
        have d1' := cell_later hbd d1
        have hs4 := hbd.size
        clear c0 c1 c2 f2 d0 d1 h3 ho3 hS3 hml hcut ht3 hbd
        generalize w3.drewN nq = w4 at *
        by_cases hmt2 : m < t.size
        · rw [if_pos hmt2] at hbr2
          rw [decide_eq_true hmt2]
          obtain ⟨z, hz⟩ : ∃ z, t.extract b m = z := ⟨_, rfl⟩
          have hzs : z.size = m - b := by rw [← hz, ByteArray.size_extract]; omega
          rw [hz] at hbr2 ⊢
          replace hz := hide hz
          obtain ⟨c0, c1, c2, hfz, hgl⟩ := ps_cells h4
          have f2 := hfz 2
          have hset := ps_set h4 (m + 1)
          have e1 : IntKind.i64.wrap ((z.size : Int) + 1) = (z.size : Int) + 1 := IntWalk.i64_in _ (by omega)
          have e2 : IntKind.i64.wrap ((b : Int) + ((z.size : Int) + 1)) = (b : Int) + ((z.size : Int) + 1) := IntWalk.i64_in _ (by omega)
          have e3 : (b : Int) + ((z.size : Int) + 1) = ((m + 1 : Nat) : Int) := by omega
          have hzi : z.size ≤ t.size := by omega
          replace hzs := hide hzs
          rw [← e3] at hset
          have hset5 := hide hset
          clear hset e3 hfz hw3 hq
          go_upto_region 9 with fail
          have h5 := hset5.out.1
          have ho5 := ho4.trans hset5.out.2
          have hs5 := ho5.size
          clear c0 c1 c2 f2 hset5 e1 e2 h4 ho4 d1'
          generalize w4.setCell _ _ = w5 at *
          have hS5 : Std w5 := hS.after (Below.trans hbw (Only.below ho5 hg0 (by have := hbw.size; omega)))
          obtain ⟨ml, hml⟩ := hS5.maxLen
          have hsp := Tryz.strings_Split z ⟨#[59]⟩ ml w5 (by omega) hml (by decide)
          obtain ⟨l, hl⟩ : ∃ l, Lib.splitB ⟨#[59]⟩ 0 (Lib.countB z ⟨#[59]⟩) z = l := ⟨_, rfl⟩
          have hlen := splitB_len 59 z
          have hlm : ∀ y ∈ l, y.size ≤ t.size := by
            intro y hy
            rw [← hl] at hy
            have h1 : y.data.toList ∈ splitOn1 59 z.data.toList := by rw [← splitB_one]; exact List.mem_map.2 ⟨y, hy, rfl⟩
            have h2 := (splitOn1_mem 59 _ _ h1).1
            rw [ba_len, ba_len] at h2
            omega
          have hbl : bracketL z = l.map trimB := by unfold bracketL; rw [hl]
          rw [hl] at hsp hlen
          obtain ⟨N, hN⟩ : ∃ N, Lib.countB z ⟨#[59]⟩ + 1 = N := ⟨_, rfl⟩
          have hNz : N ≤ t.size + 1 := by
            have h1 : N = (splitOn1 59 z.data.toList).length := by rw [← hN, ← hlen, ← hl, ← splitB_one, List.length_map]
            have h2 := splitOn1_len 59 z.data.toList
            rw [ba_len] at h2
            omega
          rw [hN] at hsp hlen
          rw [hbl] at hbr2
          replace hl := hide hl
          replace hbl := hide hbl
          replace hlm := hide hlm
          obtain ⟨w6, hw6⟩ : ∃ w6, w5.alloc (.cells (l.map Value.string).toArray 9) = w6 := ⟨_, rfl⟩
          rw [hw6] at hsp
          have hrow : RowS w6 w5.heap.size l := ⟨_, by rw [← hw6]; exact heap_alloc_new _ _, by simp⟩
          have hb6 : Below w5.heap.size w5 w6 := by rw [← hw6]; exact ext_alloc (Below.refl _ _) _
          have h6 := h5.later hb6
          have ho6 := Only.later ho5 hb6
          obtain ⟨L, hL⟩ : ∃ L, w5.heap.size = L := ⟨_, rfl⟩
          rw [hL] at hsp hrow
          have hgL : g < L := by rw [← hL]; exact blk_lt h5
          have hwL : w.heap.size ≤ L := by rw [← hL]; exact ho5.size
          clear hw6 hb6 h5 ho5 hS5 hml
          go_wp2_with fail
          refine hsp.mono ?_
          rintro en w7 ⟨rfl, rfl⟩
          clear hsp
          go_wp2_with fail
          go_loopw [8, 54] (fun _ i wr => ∃ j : Nat, j ≤ N ∧ i = .int .i64 j ∧ RowS wr L (trimTo l j) ∧ PsAt wr g t e (m + 1) ∧ Only g w wr) (fun _ i _ => N - (intOf i).toNat)
          case atStart => exact ⟨0, Nat.zero_le _, rfl, by unfold trimTo; simpa using hrow, h6, ho6⟩
          case round =>
            clear hrow h6 ho6
            obtain ⟨j, hj, rfl, hrow, h6, ho6⟩ := hrel
            by_cases hlt : j < N
            · obtain ⟨y, hy⟩ : ∃ y, l[j]? = some y := ⟨_, List.getElem?_eq_getElem (by omega)⟩
              obtain ⟨q0, q1, q2⟩ := hrow.get (trimTo_get hy)
              have hym := hlm.out y (List.mem_of_getElem? hy)
              have hj0 : (0 : Int) ≤ (j : Int) := by omega
              have hj1 : (j : Int) < (N : Int) := by omega
              have htr := trimSp_walk y wr (by omega)
              have hset : Hid (∀ V : World, Below wr.heap.size wr V → RowS (V.setCell ⟨L, j, none⟩ (.string (trimB y))) L (trimTo l (j + 1)) ∧ PsAt (V.setCell ⟨L, j, none⟩ (.string (trimB y))) g t e (m + 1) ∧ Only g w (V.setCell ⟨L, j, none⟩ (.string (trimB y)))) := by
                refine hide fun V hV => ⟨?_, row_other (h6.later hV) (by omega) _, only_setCell (Only.later ho6 hV) (.inr (by show w.heap.size ≤ L; exact hwL)) _⟩
                have := (hrow.later hV).set (j := j) (trimB y)
                rw [trimTo_set hy] at this
                exact this
              have hfz2 : Hid (∀ V : World, Below wr.heap.size wr V → V.cell? ⟨L, j, none⟩ = some (.string y) ∧ V.frozen? ⟨L, j, none⟩ = false ∧ L < V.heap.size) := hide fun V hV => (hrow.later hV).get (trimTo_get hy)
              clear hrow h6 ho6 hy
              go_wp2_with fail
              refine htr.mono ?_
              rintro en w8 ⟨rfl, hb8⟩
              have hset8 := hide (hset.out w8 hb8)
              obtain ⟨q3, q4, q5⟩ := hfz2.out w8 hb8
              clear htr hset hfz2 q0 q1 q2
              go_wp2
              go_roundw
              case rel => exact ⟨j + 1, by omega, by go_num, hset8.out.1, hset8.out.2.1, hset8.out.2.2⟩
              case measure => simp [intOf]; omega
            · obtain rfl : j = N := by omega
              have hall : trimTo l j = l.map trimB := by unfold trimTo; rw [List.take_of_length_le (by omega), List.drop_eq_nil_of_le (by omega), List.append_nil]
              rw [hall] at hrow
              have hfin : Hid (∃ v, RdG g t e vStrs (bracksP t e a) w (.returned v) wr ∧ v = .slice (some ⟨L, 0, none⟩) j j) := by
                refine hide ⟨_, RdG.ok hbr2 ho6 h6 (by omega) ⟨some ⟨L, 0, none⟩, j, ?_, by rw [List.length_map]; omega, hrow.at hwL⟩, rfl⟩
                rw [List.length_map, hlen]
              clear hrow hall h6 ho6
              go_wp2
              go_ret
              obtain ⟨v, h1, rfl⟩ := hfin.out
              exact h1
        · rw [if_neg hmt2] at hbr2
          rw [decide_eq_false hmt2]
          go_wp2_with (go_at_call 137; refine (sfail_walk _ _ _ _).mono ?_; rintro e w' ⟨rfl, rfl⟩)
          exact ⟨rfl, RdG.err hbr2 ho4⟩
      · have hxs : (x.toList == [91]) = false := by rw [word_is]; exact decide_eq_false hx
        rw [if_neg hx] at hbr2
        replace hx := hide hx
        go_wp2_with (go_at_call 137; refine (sfail_walk _ _ _ _).mono ?_; rintro e w' ⟨rfl, rfl⟩)
        exact ⟨rfl, RdG.err hbr2 ho3⟩
end Go.Proofs.YtdnnahdafhddlaaGreatDoor
