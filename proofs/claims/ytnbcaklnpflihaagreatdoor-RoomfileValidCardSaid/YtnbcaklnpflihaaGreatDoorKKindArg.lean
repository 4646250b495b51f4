/- Arguments opened to data of kinds. No condition. -/
import Derived.Test.YtnbcaklnpflihaaGreatDoorKRow
import Derived.Test.YtnbcaklnpflihaaGreatDoorKTgH
import Derived.Deep.Slices
import Derived.Deep.Fields
import Derived.ChangeSame
namespace Go.Proofs.YtnbcaklnpflihaaGreatDoor
open Go.ChangeShapes Go.WideShapes Go.Deep Go.RowKit
set_option maxRecDepth 100000

/-- What is known of a reading's size, part by part. -/
structure Good where
  ok : ∀ {H : Type}, DataW H → Prop
  str : ByteArray → Prop
  len : Nat → Prop
  ok_str : ∀ {H : Type} {s : ByteArray}, ok (DataW.lit (H := H) (.string s.data.toList)) → str s
  ok_len : ∀ {H : Type} {ds r : List (DataW H)}, ok (.slice ds r) → len ds.length
  ok_slice : ∀ {H : Type} {ds r : List (DataW H)}, ok (.slice ds r) → ∀ d ∈ ds, ok d
  ok_agg : ∀ {H : Type} {ds : List (DataW H)}, ok (.agg ds) → ∀ d ∈ ds, ok d
  len0 : len 0
/-- Nothing is known. -/
def noGood : Good := ⟨fun _ => True, fun _ => True, fun _ => True, fun _ => trivial, fun _ => trivial, fun _ _ _ => trivial, fun _ _ _ => trivial, trivial⟩
/-- The cells of a type, where they can be read, are data of a kind, of a size Z. -/
def Opens {α : Type} (G : Good) (P : Program) (t : TypeId) (K : Kind α) (Z : α → Prop) : Prop :=
  P.cellsOf t = K.k ∧ ∀ (H : Type) (enc : TypeId × Value → H) (W : World) (base : Nat) (sp : Nat → Bool) (held : Bool) (fuel : Nat) (cs : List Value) (x : DataW H × List MemPlace),
    DataW.trod enc P W base sp held fuel t cs = some x → G.ok x.1 → ∃ a, K.rep AnyB W a cs ∧ Z a
section
variable {α β : Type} {G : Good} {P : Program} {t e : TypeId} {K : Kind α} {L : Kind β} {Z : α → Prop} {Y : β → Prop}
theorem opens_str (ht : P.underlying t = some .string) (hc : P.cellsOf t = 1) : (Opens G P t kStr fun s => G.str s ∧ s.size ≤ maxLen) :=
  ⟨hc, fun H enc W base sp held fuel cs x h hg => by obtain ⟨s, e, rfl, hm⟩ := DataW.trod_string ht h; exact ⟨s, e, G.ok_str hg, hm⟩⟩
theorem opens_int (ht : P.underlying t = some (.int .i64)) (hc : P.cellsOf t = 1) : Opens G P t kInt fun _ => True :=
  ⟨hc, fun H enc W base sp held fuel cs x h _ => by obtain ⟨s, e, -, -⟩ := DataW.trod_int ht h; exact ⟨s, e, trivial⟩⟩
theorem opens_bool (ht : P.underlying t = some .bool) (hc : P.cellsOf t = 1) : Opens G P t kBool fun _ => True :=
  ⟨hc, fun H enc W base sp held fuel cs x h _ => by obtain ⟨s, e, -⟩ := DataW.trod_bool ht h; exact ⟨s, e, trivial⟩⟩
theorem add_at (b off i : Nat) : (⟨b, off, none⟩ : Addr).add i = ⟨b, off + i, none⟩ := by unfold Addr.add; split <;> simp_all
theorem opens_slice (ht : P.underlying t = some (.slice e)) (hc : P.cellsOf t = 1) (hk : 0 < K.k) (h : Opens G P e K Z) : Opens G P t (kSlice K) fun l => G.len l.length ∧ l.length ≤ maxLen ∧ ∀ x ∈ l, Z x := by
  refine ⟨hc, fun H enc W base sp held fuel cs x hx hg => ?_⟩
  rcases open_slice ht hx with ⟨rfl, -⟩ | ⟨a, len, cap, m, n, D, Pl, rfl, -, hl, hcm, hmm, rfl, hi⟩
  · exact ⟨[], ⟨none, 0, rfl, Nat.le_refl _, fun h0 => absurd h0 (Nat.lt_irrefl 0)⟩, G.len0, Nat.zero_le _, fun x hx => by simp at hx⟩
  · have hlm : len ≤ m := by rw [hmm]; split <;> omega
    have hlen := G.ok_len hg
    rw [List.length_map, List.length_range] at hlen
    have hall : ∀ i, i < len → ∃ (y : α) (vs : List Value), Z y ∧ K.rep AnyB W y vs ∧ ∀ q u, vs[q]? = some u → W.cell? ((a.add (i * K.k)).add q) = some u := by
      intro i hil
      obtain ⟨cs', hc', ht'⟩ := hi i (by omega)
      rw [h.1] at hc'
      obtain ⟨y, hy, hz⟩ := h.2 H enc W base sp held n cs' _ ht' (G.ok_slice hg _ (List.mem_map.2 ⟨i, by simpa using hil, rfl⟩))
      obtain ⟨_, hcl, hat⟩ := World.cells?_some hc'
      refine ⟨y, cs', hz, hy, fun q u hu => ?_⟩
      have hq : q < K.k := by have := (List.getElem?_eq_some_iff.1 hu).1; omega
      rw [hat q hq]; exact hu
    have hlist : ∀ n, n ≤ len → ∃ l : List α, l.length = n ∧ (∀ x ∈ l, Z x) ∧ ∀ j x, l[j]? = some x → ∃ vs, K.rep AnyB W x vs ∧ ∀ q u, vs[q]? = some u → W.cell? ((a.add (j * K.k)).add q) = some u := by
      intro n
      induction n with
      | zero => exact fun _ => ⟨[], rfl, fun x hx => by simp at hx, fun j x hx => by simp at hx⟩
      | succ n ih =>
        intro hn
        obtain ⟨l, h1, h2, h3⟩ := ih (by omega)
        obtain ⟨y, vs, hz, hy, hcell⟩ := hall n (by omega)
        refine ⟨l ++ [y], by simp [h1], fun x hx => ?_, fun j x hx => ?_⟩
        · rcases List.mem_append.1 hx with hx | hx
          · exact h2 x hx
          · simp at hx; subst hx; exact hz
        · by_cases hj : j < l.length
          · rw [List.getElem?_append_left hj] at hx
            exact h3 j x hx
          · have hj2 : j = n := by
              have := (List.getElem?_eq_some_iff.1 hx).1
              simp at this
              omega
            subst hj2
            rw [List.getElem?_append_right (by omega)] at hx
            simp [h1] at hx
            subst hx
            exact ⟨vs, hy, hcell⟩
    obtain ⟨l, h1, h2, h3⟩ := hlist len (Nat.le_refl _)
    refine ⟨l, ⟨some a, cap, by rw [h1], by omega, fun hn => ?_⟩, by rw [h1]; exact hlen, by rw [h1]; exact Nat.le_trans hl hcm, h2⟩
    have h00 : l[0]? = some (l[0]'hn) := List.getElem?_eq_getElem hn
    obtain ⟨vs0, hr0, hc0⟩ := h3 0 _ h00
    have hv0 : 0 < vs0.length := by rw [K.len hr0]; exact hk
    have hcell0 := hc0 0 _ (List.getElem?_eq_getElem hv0)
    obtain ⟨b, off, spot⟩ := a
    have hspot : spot = none := by simpa [Addr.add] using World.cell?_spot hcell0
    subst hspot
    refine ⟨b, off, rfl, trivial, by have := World.block_lt_of_cell? _ _ hcell0; rw [add_at, add_at] at this; exact this, fun j x hx => ?_⟩
    obtain ⟨vs, hr, hc⟩ := h3 j x hx
    refine ⟨vs, hr, fun i u hu => ?_⟩
    have := hc i u hu
    rw [add_at, add_at] at this
    exact this
/-- The same for the fields of a struct, from cell o on. -/
def OpensF {α : Type} (G : Good) (P : Program) (fs : List Field) (o : Nat) (K : Kind α) (Z : α → Prop) : Prop :=
  ∀ (H : Type) (enc : TypeId × Value → H) (W : World) (base : Nat) (sp : Nat → Bool) (held : Bool) (n : Nat) (cs : List Value) (ys : List (DataW H × List MemPlace)),
    cs.length = o + K.k → (∀ y ∈ ys, G.ok y.1) → (∀ (j : Nat) (f : Field), fs[j]? = some f → ∃ y, ys[j]? = some y ∧ DataW.trod enc P W base sp held n f.type ((cs.drop f.offset).take (P.cellsOf f.type)) = some y) → ∃ a, K.rep AnyB W a (cs.drop o) ∧ Z a
theorem opensF_one {f : Field} {o : Nat} (ho : f.offset = o) (h : Opens G P f.type K Z) : OpensF G P [f] o K Z := by
  intro H enc W base sp held n cs ys hl hg hf
  obtain ⟨y, hy, ht⟩ := hf 0 f rfl
  rw [ho, h.1, List.take_of_length_le (by rw [List.length_drop]; omega)] at ht
  exact h.2 H enc W base sp held n _ y ht (hg y (List.mem_of_getElem? hy))
theorem opensF_cons {f : Field} {fs : List Field} {o : Nat} (ho : f.offset = o) (h : Opens G P f.type K Z) (hr : OpensF G P fs (o + K.k) L Y) : OpensF G P (f :: fs) o (kPair K L) fun a => Z a.1 ∧ Y a.2 := by
  intro H enc W base sp held n cs ys hl hg hf
  have hkk : (kPair K L).k = K.k + L.k := rfl
  obtain ⟨y, hy, ht⟩ := hf 0 f rfl
  rw [ho, h.1] at ht
  obtain ⟨a, ha, hz⟩ := h.2 H enc W base sp held n _ y ht (hg y (List.mem_of_getElem? hy))
  obtain ⟨b, hb, hyy⟩ := hr H enc W base sp held n cs (ys.drop 1) (by omega) (fun y hy => hg y (List.mem_of_mem_drop hy)) (fun j f hj => by
    obtain ⟨y, hy, ht⟩ := hf (j + 1) f (by simpa using hj)
    exact ⟨y, by rw [List.getElem?_drop, Nat.add_comm]; exact hy, ht⟩)
  refine ⟨(a, b), ⟨_, _, ?_, ha, hb⟩, hz, hyy⟩
  rw [← List.drop_drop]
  exact (List.take_append_drop K.k (cs.drop o)).symm
theorem opens_struct {fs : Array Field} (ht : P.underlying t = some (.struct fs)) (hc : P.cellsOf t = K.k) (h : OpensF G P fs.toList 0 K Z) : Opens G P t K Z := by
  refine ⟨hc, fun H enc W base sp held fuel cs x hx hg => ?_⟩
  obtain ⟨ys, n, -, hy, hlen, hyl, hf⟩ := DataW.trod_struct ht hx
  subst hy
  have hlc : cs.length = K.k := hlen.trans hc
  obtain ⟨a, ha, hz⟩ := h H enc W base sp held n cs ys (by omega) (fun y hy => G.ok_agg hg _ (List.mem_map.2 ⟨y, hy, rfl⟩)) (fun j f hj => by
    have hj' : fs[j]? = some f := by rw [← Array.getElem?_toList]; exact hj
    have hjl : j < fs.size := (Array.getElem?_eq_some_iff.1 hj').1
    have h1 := hf j f hj'
    have hys : ys[j]? = some (ys[j]'(by omega)) := List.getElem?_eq_getElem (by omega)
    exact ⟨_, hys, h1.trans hys⟩)
  exact ⟨a, ha, hz⟩
/-- The same data, told by another type. -/
theorem opens_map {γ : Type} {f : γ → α} {g : α → γ} (hfg : ∀ a, f (g a) = a) (h : Opens G P t K Z) : Opens G P t (kMap f K) fun c => Z (f c) :=
  ⟨h.1, fun H enc W base sp held fuel cs x hx hg => by obtain ⟨a, ha, hz⟩ := h.2 H enc W base sp held fuel cs x hx hg; exact ⟨g a, by show K.rep AnyB W (f (g a)) cs; rw [hfg]; exact ha, by show Z (f (g a)); rw [hfg]; exact hz⟩⟩
/-- An argument that is a slice. -/
theorem Opens.slice {H : Type} {enc : TypeId × Value → H} {W : World} {base : Nat} {Z : List α → Prop} (h : Opens G P t (kSlice K) Z) (ht : P.underlying t = some (.slice e)) {v : Value} {d : DataW H} {ps : List MemPlace}
    (hval : Value.okWide P W .any base t v) (hd : DataW.Trod enc P W 0 (fun _ => true) true t v d ps) (hg : G.ok d) : ∃ (A : Option Addr) (l : List α) (c : Nat), v = .slice A l.length c ∧ l.length ≤ c ∧ At K (· < W.heap.size) W A l ∧ Z l := by
  obtain ⟨a0, len0, cap0, rfl⟩ := okWide_slice ht hval
  obtain ⟨fuel, hf⟩ := hd
  obtain ⟨l, ⟨A, c, hv, hc, hA⟩, hz⟩ := h.2 _ _ _ _ _ _ _ _ _ hf hg
  simp [Value.cells] at hv
  obtain ⟨rfl, rfl, rfl⟩ := hv
  exact ⟨_, l, _, rfl, hc, hA.lo, hz⟩
/-- An argument that is a struct. -/
theorem Opens.agg {H : Type} {enc : TypeId × Value → H} {W : World} {base : Nat} (h : Opens G P t K Z) {fs : Array Field} (ht : P.underlying t = some (.struct fs)) {v : Value} {d : DataW H} {ps : List MemPlace}
    (hval : Value.okWide P W .any base t v) (hd : DataW.Trod enc P W 0 (fun _ => true) true t v d ps) (hg : G.ok d) : ∃ (a : α) (vs : List Value), v = .agg vs.toArray ∧ K.rep (· < W.heap.size) W a vs ∧ Z a := by
  obtain ⟨cs, rfl, hsz⟩ := okWide_struct ht hval
  obtain ⟨fuel, hf⟩ := hd
  obtain ⟨a, ha, hz⟩ := h.2 _ _ _ _ _ _ _ _ _ hf hg
  exact ⟨a, cs.toList, by simp, K.lo (by simpa [Value.cells] using ha), hz⟩
end
end Go.Proofs.YtnbcaklnpflihaaGreatDoor
