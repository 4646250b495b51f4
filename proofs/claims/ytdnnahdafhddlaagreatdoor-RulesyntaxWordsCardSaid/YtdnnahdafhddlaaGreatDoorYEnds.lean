/- Small lemmas that all walks of this seat use: endings, masks of bits, bounds. No condition. Ends of functions whose result is a struct of four numbers that lies in memory. -/
import Derived.Test.YtdnnahdafhddlaaGreatDoorRows
import Derived.WalkSpells
import Derived.WalkLawsBesides
import Derived.BigGuardPart
import Derived.Test.YtdnnahdafhddlaaGreatDoorYShelf
namespace Go.Proofs.YtdnnahdafhddlaaGreatDoor
open Go.RowKit

theorem ret_bool {a b : Bool} (h : a = b) : Ending.returned (.bool a) = .returned (.bool b) := by rw [h]
theorem ret_int {k : IntKind} {a b : Int} (h : a = b) : Ending.returned (.int k a) = .returned (.int k b) := by rw [h]
theorem ret_ii {j k : IntKind} {a b c d : Int} (h1 : a = c) (h2 : b = d) : Ending.returned (.tuple #[.int j a, .int k b]) = .returned (.tuple #[.int j c, .int k d]) := by rw [h1, h2]
theorem ret_ib {j : IntKind} {a c : Int} {b d : Bool} (h1 : a = c) (h2 : b = d) : Ending.returned (.tuple #[.int j a, .bool b]) = .returned (.tuple #[.int j c, .bool d]) := by rw [h1, h2]
theorem ret_str {a c : ByteArray} (h1 : a = c) : Ending.returned (.string a) = .returned (.string c) := by rw [h1]

theorem hide {p : Prop} (h : p) : Hid p := h

theorem ofInt_i64 (a : Nat) (ha : a < 9223372036854775808) : (BitVec.ofInt 64 (a : Int)).toNat = a := by
  rw [BitVec.ofInt_natCast, BitVec.toNat_ofNat]; exact Nat.mod_eq_of_lt (by omega)
theorem i64_or_nat (a b : Nat) (ha : a < 9223372036854775808) (hb : b < 9223372036854775808) : bits .or .i64 (a : Int) (b : Int) = ((a ||| b : Nat) : Int) := by
  have hx : a ||| b < 2 ^ 63 := Nat.or_lt_two_pow (by omega) (by omega)
  show IntKind.i64.wrap ((BitVec.ofInt 64 (a : Int) ||| BitVec.ofInt 64 (b : Int)).toNat : Int) = _
  rw [BitVec.toNat_or, ofInt_i64 a ha, ofInt_i64 b hb, IntKind.wrap_i64]
  omega

theorem wrap64_pow (n : Nat) (h : n ≤ 20) : wrap64 ((2 : Int) ^ n) = ((2 ^ n : Nat) : Int) := by
  have h1 : (2 : Nat) ^ n ≤ 2 ^ 20 := Nat.pow_le_pow_right (by omega) (by omega)
  have e : ((2 : Int) ^ n) = ((2 ^ n : Nat) : Int) := by simp
  rw [e]
  generalize 2 ^ n = m at h1
  exact IntWalk.wrap64_in _ ⟨by omega, by omega⟩
theorem pow_small (n : Nat) (h : n ≤ 20) : 2 ^ n ≤ 1048576 := by
  have h1 : (2 : Nat) ^ n ≤ 2 ^ 20 := Nat.pow_le_pow_right (by omega) (by omega)
  simpa using h1

/-- The number whose bits below k are those that p says. -/
def maskTo (p : Nat → Bool) : Nat → Nat
  | 0 => 0
  | k + 1 => if p k then maskTo p k ||| 2 ^ k else maskTo p k
theorem maskTo_lt (p : Nat → Bool) : ∀ k, maskTo p k < 2 ^ k
  | 0 => by simp [maskTo]
  | k + 1 => by
    have h := maskTo_lt p k
    have h2 : 2 ^ k < 2 ^ (k + 1) := Nat.pow_lt_pow_right (by omega) (by omega)
    unfold maskTo
    split
    · exact Nat.or_lt_two_pow (by omega) h2
    · omega
theorem maskTo_yes (p : Nat → Bool) (k : Nat) (h : p k = true) : maskTo p (k + 1) = maskTo p k ||| 2 ^ k := by rw [maskTo, if_pos h]
theorem maskTo_no (p : Nat → Bool) (k : Nat) (h : p k = false) : maskTo p (k + 1) = maskTo p k := by rw [maskTo, if_neg (by simp [h])]
theorem maskTo_congr {p q : Nat → Bool} : ∀ {k : Nat}, (∀ i, i < k → p i = q i) → maskTo p k = maskTo q k
  | 0, _ => rfl
  | k + 1, h => by
    unfold maskTo
    rw [h k (by omega), maskTo_congr (fun i hi => h i (by omega))]
theorem maskTo_none {p : Nat → Bool} : ∀ {k : Nat}, (∀ i, i < k → p i = false) → maskTo p k = 0
  | 0, _ => rfl
  | k + 1, h => by
    rw [maskTo_no _ _ (h k (by omega))]
    exact maskTo_none fun i hi => h i (by omega)
theorem maskTo_bit (p : Nat → Bool) (i : Nat) : ∀ k, (maskTo p k).testBit i = (decide (i < k) && p i)
  | 0 => by simp [maskTo]
  | k + 1 => by
    by_cases hk : p k = true
    · rw [maskTo_yes _ _ hk, Nat.testBit_or, maskTo_bit p i k, Nat.testBit_two_pow]
      by_cases e : k = i
      · subst e; simp [hk]
      · have : decide (i < k + 1) = decide (i < k) := by rw [decide_eq_decide]; omega
        simp [this, e]
    · have hk' : p k = false := by simpa using hk
      rw [maskTo_no _ _ hk', maskTo_bit p i k]
      by_cases e : i = k
      · subst e; simp [hk']
      · have : decide (i < k + 1) = decide (i < k) := by rw [decide_eq_decide]; omega
        rw [this]

/-- One step of a loop that sets a bit. -/
theorem or_step (p : Nat → Bool) (k : Nat) (hk : k < 20) (h : p k = true) : bits .or .i64 (maskTo p k : Int) (wrap64 ((2 : Int) ^ k)) = (maskTo p (k + 1) : Int) := by
  have h1 := maskTo_lt p k
  have h2 := pow_small k (by omega)
  rw [wrap64_pow k (by omega), i64_or_nat _ _ (by omega) (by omega), maskTo_yes _ _ h]

def spanP (a : Nat) : Nat → Bool := fun i => decide (a ≤ i + 1)
def everyP (a : Nat) : Nat → Bool := fun i => decide (a ≤ i + 1) && decide ((i + 1 - a) % 2 = 0)
/-- The weeks from a to b. -/
def spanN (a b : Nat) : Nat := maskTo (spanP a) b
def everyN (a n : Nat) : Nat := maskTo (everyP a) n

theorem bcell {W w1 : World} (hb : Below W.heap.size W w1) : (∀ b o, b < W.heap.size → w1.cell? ⟨b, o, none⟩ = W.cell? ⟨b, o, none⟩) ∧ (∀ b o, b < W.heap.size → w1.frozen? ⟨b, o, none⟩ = W.frozen? ⟨b, o, none⟩) :=
  ⟨fun b o h => hb.cell (p := ⟨b, o, none⟩) h, fun b o h => hb.frozen (p := ⟨b, o, none⟩) h⟩
theorem below_drewN {B : Nat} {a w : World} (h : Below B a w) (n : Nat) : Below B a (w.drewN n) := ⟨h.os, h.tape, h.output, h.size, h.block⟩

theorem ext_trans {w W w1 : World} (h : Below w.heap.size w W) (k : Below W.heap.size W w1) : Below w.heap.size w w1 := h.trans (k.mono h.size)
theorem ext_alloc {w W : World} (h : Below w.heap.size w W) (o : Obj) : Below w.heap.size w (W.alloc o) := h.alloc h.size o
theorem ext_drew {w W : World} (h : Below w.heap.size w W) : Below w.heap.size w W.drew := h.drew
theorem ext_drewN {w W : World} (h : Below w.heap.size w W) (n : Nat) : Below w.heap.size w (W.drewN n) := below_drewN h n
theorem ext_set {w W : World} (h : Below w.heap.size w W) {p : Addr} (hp : w.heap.size ≤ p.block) (u : Value) : Below w.heap.size w (W.setCell p u) := h.setCell hp u

/-- WHAT THE PROGRAM's VARIABLES HOLD, as far as these walks read them; it goes on under everything that lays new blocks. -/
structure Std (w : World) : Prop where
  big : 12 ≤ w.heap.size
  maxLen : ∃ m, w.cell? ⟨4, 0, none⟩ = some (.int .i64 m)
  pow10 : Lib.TabIs Tryz.prog w "internal/strconv.uint64pow10" .u64 Lib.pow10Tab
  errSyntax : ∃ te pe, w.cell? ⟨10, 0, none⟩ = some (.iface te pe)
  errRange : ∃ te pe, w.cell? ⟨11, 0, none⟩ = some (.iface te pe)

theorem Std.go {w w' : World} (h : Std w) (hz : w.heap.size ≤ w'.heap.size) (hb : ∀ k, k < 12 → w'.heap[k]? = w.heap[k]?) : Std w' := by
  have hc : ∀ g o, g < 12 → w'.cell? ⟨g, o, none⟩ = w.cell? ⟨g, o, none⟩ := fun g o hg => World.cell?_of_block (w := w) (hb g hg)
  refine { big := Nat.le_trans h.big hz, maxLen := ?_, pow10 := ?_, errSyntax := ?_, errRange := ?_ }
  · obtain ⟨m, hm⟩ := h.maxLen; exact ⟨m, (hc _ _ (by omega)).trans hm⟩
  · have h1 := h.pow10
    unfold Lib.TabIs World.var? at h1 ⊢
    rw [show Tryz.prog.globalNamed "internal/strconv.uint64pow10" = some 7 from by kernel_rfl] at h1 ⊢
    simp only [Option.bind_some] at h1 ⊢
    rw [hb _ (by omega)]
    exact h1
  · obtain ⟨a, b, hm⟩ := h.errSyntax; exact ⟨a, b, (hc _ _ (by omega)).trans hm⟩
  · obtain ⟨a, b, hm⟩ := h.errRange; exact ⟨a, b, (hc _ _ (by omega)).trans hm⟩
theorem Std.below {B : Nat} {w w' : World} (h : Std w) (hb : Below B w w') (hB : 12 ≤ B) : Std w' := h.go hb.size fun k hk => hb.block k (by omega)
theorem Std.after {w w' : World} (h : Std w) (hb : Below w.heap.size w w') : Std w' := h.below hb h.big
theorem Std.alloc {w : World} (h : Std w) (o : Obj) : Std (w.alloc o) := h.after ((Below.refl _ _).alloc (Nat.le_refl _) o)
def Wds (w : World) : Prop := ∃ t r, w.heap[(3 : Nat)]? = some (.cells #[.string ⟨#[97, 108, 108]⟩, .string ⟨#[111, 100, 100]⟩, .string ⟨#[101, 118, 101, 110]⟩, .string ⟨#[102, 105, 114, 115, 116]⟩, .string ⟨#[115, 101, 99, 111, 110, 100]⟩] t r)
theorem Wds.after {w w' : World} (h : Wds w) (hb : Below w.heap.size w w') (hs : Std w) : Wds w' := by obtain ⟨t, r, hr⟩ := h; exact ⟨t, r, (hb.block _ (by have := hs.big; omega)).trans hr⟩
def Dys (w : World) : Prop := ∃ t r, w.heap[(2 : Nat)]? = some (.cells #[.string ⟨#[77, 111]⟩, .string ⟨#[84, 117]⟩, .string ⟨#[87, 101]⟩, .string ⟨#[84, 104]⟩, .string ⟨#[70, 114]⟩, .string ⟨#[83, 97]⟩, .string ⟨#[83, 117]⟩] t r)
theorem Dys.after {w w' : World} (h : Dys w) (hb : Below w.heap.size w w') (hs : Std w) : Dys w' := by obtain ⟨t, r, hr⟩ := h; exact ⟨t, r, (hb.block _ (by have := hs.big; omega)).trans hr⟩
end Go.Proofs.YtdnnahdafhddlaaGreatDoor

namespace Go.Proofs.YtdnnahdafhddlaaGreatDoor
open Go.RowKit

theorem set4_cells (w : World) (g : Nat) (a b c d : Value) (h : ∀ j, j < 4 → ∃ v, w.cell? ⟨g, j, none⟩ = some v) (W : World)
    (hW : W = (((w.setCell ⟨g, 0, none⟩ a).setCell ⟨g, 1, none⟩ b).setCell ⟨g, 2, none⟩ c).setCell ⟨g, 3, none⟩ d) :
    W.cell? ⟨g, 0, none⟩ = some a ∧ W.cell? ⟨g, 1, none⟩ = some b ∧ W.cell? ⟨g, 2, none⟩ = some c ∧ W.cell? ⟨g, 3, none⟩ = some d := by
  obtain ⟨v0, h0⟩ := h 0 (by omega)
  obtain ⟨v1, h1⟩ := h 1 (by omega)
  obtain ⟨v2, h2⟩ := h 2 (by omega)
  obtain ⟨v3, h3⟩ := h 3 (by omega)
  subst hW
  have o : ∀ (x : World) (i j : Nat) (u : Value), i ≠ j → (x.setCell ⟨g, i, none⟩ u).cell? ⟨g, j, none⟩ = x.cell? ⟨g, j, none⟩ := fun x i j u hij => World.cell?_setCell_other x _ _ u (fun e => hij (by injection e))
  have s : ∀ (x : World) (i : Nat) (u v : Value), x.cell? ⟨g, i, none⟩ = some v → (x.setCell ⟨g, i, none⟩ u).cell? ⟨g, i, none⟩ = some u := fun x i u v hx => World.cell?_setCell_same _ _ _ (h := hx)
  refine ⟨?_, ?_, ?_, ?_⟩
  · rw [o _ 3 0 _ (by omega), o _ 2 0 _ (by omega), o _ 1 0 _ (by omega)]; exact s _ 0 _ _ h0
  · rw [o _ 3 1 _ (by omega), o _ 2 1 _ (by omega)]; exact s _ 1 _ _ ((o _ 0 1 _ (by omega)).trans h1)
  · rw [o _ 3 2 _ (by omega)]; exact s _ 2 _ _ ((o _ 1 2 _ (by omega)).trans ((o _ 0 2 _ (by omega)).trans h2))
  · exact s _ 3 _ _ ((o _ 2 3 _ (by omega)).trans ((o _ 1 3 _ (by omega)).trans ((o _ 0 3 _ (by omega)).trans h3)))

/-- A struct of four cells read whole. -/
theorem load4 (ty : TypeId) (w : World) (g : Nat) (a b c d : Value) (hty : ty = 23 ∨ ty = 67)
    (h0 : w.cell? ⟨g, 0, none⟩ = some a) (h1 : w.cell? ⟨g, 1, none⟩ = some b) (h2 : w.cell? ⟨g, 2, none⟩ = some c) (h3 : w.cell? ⟨g, 3, none⟩ = some d) :
    (loadVar ty ⟨g, 0, none⟩).run Tryz.prog w = .ok (.agg #[a, b, c, d]) w := by
  rcases hty with rfl | rfl
  all_goals simp [go_sem, h0, h1, h2, h3]
theorem end_struct {fn : Func} {p u : Tmp} {ty : TypeId} (hr : fn.results = #[.cell p ty, .tmp u]) (hty : ty = 23 ∨ ty = 67) {Q : Ending → World → Prop} {act : Act} {w : World} (g : Nat) (a b c d e : Value) (hd : act.defers = [])
    (hp : act.tmps.getD p undef = .pointer (some ⟨g, 0, none⟩)) (he : act.tmps.getD u undef = e)
    (h0 : w.cell? ⟨g, 0, none⟩ = some a) (h1 : w.cell? ⟨g, 1, none⟩ = some b) (h2 : w.cell? ⟨g, 2, none⟩ = some c) (h3 : w.cell? ⟨g, 3, none⟩ = some d)
    (hQ : Q (.returned (.tuple #[.agg #[a, b, c, d], e])) w) : bodyPost Tryz.prog fn Q .ret act w := by
  refine bodyPost_ret (v := .tuple #[.agg #[a, b, c, d], e]) ?_ hd hQ
  rw [results_cell_tmp hr, hp, he]
  simp only [asAddr, Sem.run_pure, Result.andThen_ok]
  rw [load4 ty w g a b c d hty h0 h1 h2 h3]
  rfl
theorem end_struct1 {fn : Func} {p : Tmp} {ty : TypeId} (hr : fn.results = #[.cell p ty]) (hty : ty = 23 ∨ ty = 67) {Q : Ending → World → Prop} {act : Act} {w : World} (g : Nat) (a b c d : Value) (hd : act.defers = [])
    (hp : act.tmps.getD p undef = .pointer (some ⟨g, 0, none⟩))
    (h0 : w.cell? ⟨g, 0, none⟩ = some a) (h1 : w.cell? ⟨g, 1, none⟩ = some b) (h2 : w.cell? ⟨g, 2, none⟩ = some c) (h3 : w.cell? ⟨g, 3, none⟩ = some d)
    (hQ : Q (.returned (.agg #[a, b, c, d])) w) : bodyPost Tryz.prog fn Q .ret act w := by
  refine bodyPost_ret (v := .agg #[a, b, c, d]) ?_ hd hQ
  simp only [results, hr]
  simp [Sem.run_bind, Result.andThen, -Array.getD_eq_getD_getElem?]
  rw [hp]
  simp only [asAddr, Sem.run_pure]
  rw [load4 ty w g a b c d hty h0 h1 h2 h3]
/-- The end of a function that has just stored four cells into its result's block. -/
theorem end_set4 {fn : Func} {p u : Tmp} {ty : TypeId} (hr : fn.results = #[.cell p ty, .tmp u]) (hty : ty = 23 ∨ ty = 67) {Q : Ending → World → Prop} {act : Act} {w : World} (g : Nat) (a b c d e : Value) (hd : act.defers = [])
    (hp : act.tmps.getD p undef = .pointer (some ⟨g, 0, none⟩)) (he : act.tmps.getD u undef = e) (h : ∀ j, j < 4 → ∃ v, w.cell? ⟨g, j, none⟩ = some v)
    (hQ : Q (.returned (.tuple #[.agg #[a, b, c, d], e])) ((((w.setCell ⟨g, 0, none⟩ a).setCell ⟨g, 1, none⟩ b).setCell ⟨g, 2, none⟩ c).setCell ⟨g, 3, none⟩ d)) :
    bodyPost Tryz.prog fn Q .ret act ((((w.setCell ⟨g, 0, none⟩ a).setCell ⟨g, 1, none⟩ b).setCell ⟨g, 2, none⟩ c).setCell ⟨g, 3, none⟩ d) := by
  obtain ⟨h0, h1, h2, h3⟩ := set4_cells w g a b c d h _ rfl
  exact end_struct hr hty g a b c d e hd hp he h0 h1 h2 h3 hQ
theorem cell_alloc_of {w : World} {p : Addr} {v : Value} (h : w.cell? p = some v) (o : Obj) : (w.alloc o).cell? p = some v := cell_later ((Below.refl _ _).alloc (Nat.le_refl _) o) h
/-- The same with a block laid besides. -/
theorem end_set4a {fn : Func} {p u : Tmp} {ty : TypeId} (hr : fn.results = #[.cell p ty, .tmp u]) (hty : ty = 23 ∨ ty = 67) {Q : Ending → World → Prop} {act : Act} {w : World} {o : Obj} (g : Nat) (a b c d e : Value) (hd : act.defers = [])
    (hp : act.tmps.getD p undef = .pointer (some ⟨g, 0, none⟩)) (he : act.tmps.getD u undef = e) (h : ∀ j, j < 4 → ∃ v, w.cell? ⟨g, j, none⟩ = some v)
    (hQ : Q (.returned (.tuple #[.agg #[a, b, c, d], e])) (((((w.setCell ⟨g, 0, none⟩ a).setCell ⟨g, 1, none⟩ b).setCell ⟨g, 2, none⟩ c).setCell ⟨g, 3, none⟩ d).alloc o)) :
    bodyPost Tryz.prog fn Q .ret act (((((w.setCell ⟨g, 0, none⟩ a).setCell ⟨g, 1, none⟩ b).setCell ⟨g, 2, none⟩ c).setCell ⟨g, 3, none⟩ d).alloc o) := by
  obtain ⟨h0, h1, h2, h3⟩ := set4_cells w g a b c d h _ rfl
  exact end_struct hr hty g a b c d e hd hp he (cell_alloc_of h0 _) (cell_alloc_of h1 _) (cell_alloc_of h2 _) (cell_alloc_of h3 _) hQ
theorem four_set {w : World} {g : Nat} (h : ∀ j, j < 4 → ∃ v, w.cell? ⟨g, j, none⟩ = some v) (p : Addr) (u : Value) : ∀ j, j < 4 → ∃ v, (w.setCell p u).cell? ⟨g, j, none⟩ = some v := by
  intro j hj
  obtain ⟨v, hv⟩ := h j hj
  exact cell?_setCell_some hv
theorem ext_set4 {w W : World} (h : Below w.heap.size w W) {g : Nat} (hg : w.heap.size ≤ g) (a b c d : Value) :
    Below w.heap.size w ((((W.setCell ⟨g, 0, none⟩ a).setCell ⟨g, 1, none⟩ b).setCell ⟨g, 2, none⟩ c).setCell ⟨g, 3, none⟩ d) :=
  ext_set (ext_set (ext_set (ext_set h hg _) hg _) hg _) hg _
/-- A block of four cells, as far as it is read. -/
structure Box4 (w : World) (g : Nat) (a b c d : Value) : Prop where
  c0 : w.cell? ⟨g, 0, none⟩ = some a
  c1 : w.cell? ⟨g, 1, none⟩ = some b
  c2 : w.cell? ⟨g, 2, none⟩ = some c
  c3 : w.cell? ⟨g, 3, none⟩ = some d
theorem Box4.later {w w' : World} {g : Nat} {a b c d : Value} (h : Box4 w g a b c d) (hb : Below w.heap.size w w') : Box4 w' g a b c d :=
  ⟨cell_later hb h.c0, cell_later hb h.c1, cell_later hb h.c2, cell_later hb h.c3⟩
theorem Box4.new (w : World) (t : TypeId) (a b c d : Value) : Box4 (w.alloc (.cells #[a, b, c, d] t)) w.heap.size a b c d := ⟨by simp, by simp, by simp, by simp⟩
theorem Box4.alloc {w : World} {g : Nat} {a b c d : Value} (h : Box4 w g a b c d) (o : Obj) : Box4 (w.alloc o) g a b c d := h.later (ext_alloc (Below.refl _ _) o)
theorem Box4.lt {w : World} {g : Nat} {a b c d : Value} (h : Box4 w g a b c d) : g < w.heap.size := World.block_lt_of_cell? _ _ h.c0
theorem heap_new2 (w : World) (o1 o2 : Obj) : ((w.alloc o1).alloc o2).heap[w.heap.size + 1]? = some o2 := by
  have := heap_alloc_new (w.alloc o1) o2
  rwa [World.size_alloc] at this
theorem heap_new3 (w : World) (o1 o2 o3 : Obj) : (((w.alloc o1).alloc o2).alloc o3).heap[w.heap.size + 2]? = some o3 := by
  have := heap_alloc_new ((w.alloc o1).alloc o2) o3
  rwa [World.size_alloc, World.size_alloc] at this
/-- Four cells of a block of an elder world. -/
theorem four_of {W w1 : World} {g : Nat} {x0 x1 x2 x3 : Value} {t : TypeId} {r : Nat × Nat} (hg : W.heap[g]? = some (.cells #[x0, x1, x2, x3] t r)) (hb : Below W.heap.size W w1) : ∀ j, j < 4 → ∃ v, w1.cell? ⟨g, j, none⟩ = some v := by
  have hlt : g < W.heap.size := by
    rcases Nat.lt_or_ge g W.heap.size with h | h
    · exact h
    · rw [Array.getElem?_eq_none h] at hg; cases hg
  intro j hj
  have hc : w1.cell? ⟨g, j, none⟩ = W.cell? ⟨g, j, none⟩ := hb.cell (p := ⟨g, j, none⟩) hlt
  rw [hc, cell_of_row W g j _ t r hg]
  match j, hj with
  | 0, _ | 1, _ | 2, _ | 3, _ => exact ⟨_, rfl⟩
end Go.Proofs.YtdnnahdafhddlaaGreatDoor
