/- The statement RulesyntaxWords: its walk. Conditions: the numbers can be read; what the program's variables hold. -/
import Derived.Great.Walk
import Derived.Test.YtdnnahdafhddlaaGreatDoorYLaw14
namespace Go.Proofs.YtdnnahdafhddlaaGreatDoor
open Go.RowKit
set_option maxRecDepth 100000

def wordsW : List ByteArray := [⟨#[97]⟩, ⟨#[58]⟩, ⟨#[104, 97, 114, 100]⟩, ⟨#[53]⟩, ⟨#[48]⟩, ⟨#[97, 112, 97, 114, 116]⟩, ⟨#[115, 97, 109, 101, 100, 97, 121]⟩, ⟨#[98, 101, 102, 111, 114, 101]⟩, ⟨#[109, 111, 115, 116]⟩, ⟨#[103, 97, 112]⟩, ⟨#[97, 118, 111, 105, 100]⟩, ⟨#[114, 111, 111, 109, 115]⟩, ⟨#[116, 114, 97, 118, 101, 108]⟩, ⟨#[44]⟩, ⟨#[91]⟩, ⟨#[93]⟩, ⟨#[40]⟩, ⟨#[41]⟩, ⟨#[97, 110, 100]⟩, ⟨#[111, 114]⟩, ⟨#[110, 111, 116]⟩, ⟨#[97, 108, 108]⟩, ⟨#[99, 108, 97, 115, 115]⟩, ⟨#[99, 111, 117, 114, 115, 101]⟩, ⟨#[99, 49]⟩, ⟨#[77, 111, 32, 49, 45, 50]⟩, ⟨#[82, 49]⟩, ⟨#[59]⟩, ⟨#[35]⟩, ⟨#[36]⟩]
def wdW (i : Nat) : ByteArray := wordsW.getD i ⟨#[]⟩
def sepL : List ByteArray := [⟨#[32]⟩, ⟨#[]⟩, ⟨#[9]⟩]
def sepW (i : Nat) : ByteArray := sepL.getD i ⟨#[]⟩
theorem wd_small : ∀ x ∈ wordsW, x.size ≤ 7 := by decide +kernel
theorem sep_small : ∀ x ∈ sepL, x.size ≤ 1 := by decide +kernel
theorem getD_mem {l : List ByteArray} {i : Nat} (h : i < l.length) : l.getD i ⟨#[]⟩ ∈ l := by
  rw [List.getD_eq_getElem?_getD, List.getElem?_eq_getElem h]
  exact List.getElem_mem h
theorem wd_size {i : Nat} (h : i < 30) : (wdW i).size ≤ 7 := wd_small _ (getD_mem (l := wordsW) h)
theorem sep_size {i : Nat} (h : i < 3) : (sepW i).size ≤ 1 := sep_small _ (getD_mem (l := sepL) h)
/-- A row of texts that lies in a block. -/
def RowW (V : World) (b : Nat) (l : List ByteArray) : Prop := ∃ t r, V.heap[b]? = some (.cells (l.map Value.string).toArray t r)
section
variable {V V' : World} {b g B : Nat} {l : List ByteArray}
theorem RowW.lt (h : RowW V b l) : b < V.heap.size := by obtain ⟨t, r, h⟩ := h; exact blk_lt h
theorem RowW.get (h : RowW V b l) {i : Nat} (hi : i < l.length) : V.cell? ⟨b, i, none⟩ = some (.string (l.getD i ⟨#[]⟩)) := by
  obtain ⟨t, r, h⟩ := h
  rw [List.getD_eq_getElem?_getD, List.getElem?_eq_getElem hi]
  simp [World.cell?, h, hi]
theorem RowW.later (h : RowW V b l) (hb : Below V.heap.size V V') : RowW V' b l := by obtain ⟨t, r, h⟩ := h; exact ⟨t, r, (hb.block b (blk_lt h)).trans h⟩
theorem RowW.thrown (h : RowW V b l) (T : Thrown B V g V') (hne : b ≠ g) : RowW V' b l := by obtain ⟨t, r, h⟩ := h; exact ⟨t, r, (T.only.block b (blk_lt h) (fun e => by injection e with e; exact hne e)).trans h⟩
end
/-- A world on the way: the dice, the words, what the program's variables hold. -/
structure WSt (w0 : World) (g k : Nat) (V : World) : Prop where
  dice : DiceOk w0.heap.size V g
  row : RowW V k wordsW
  below : Below w0.heap.size w0 V
  std : Std V
section
variable {w0 V V' : World} {g k : Nat}
theorem WSt.later (h : WSt w0 g k V) (hb : Below V.heap.size V V') : WSt w0 g k V' := ⟨h.dice.later hb, h.row.later hb, ext_trans h.below hb, h.std.after hb⟩
theorem WSt.alloc (h : WSt w0 g k V) (o : Obj) : WSt w0 g k (V.alloc o) := h.later (ext_alloc (Below.refl _ _) o)
theorem WSt.drew (h : WSt w0 g k V) : WSt w0 g k V.drew := h.later (ext_drew (Below.refl _ _))
theorem WSt.on (h : WSt w0 g k V) (hg : w0.heap.size ≤ g) (hS0 : 12 ≤ w0.heap.size) (hk : g < k) (T : Thrown w0.heap.size V g V') : WSt w0 g k V' :=
  ⟨T.dice, h.row.thrown T (by omega), T.ext h.below hg, T.std h.std (by omega)⟩
theorem WSt.word (h : WSt w0 g k V) {i : Nat} (hi : i < 30) : V.cell? ⟨k, i, none⟩ = some (.string (wdW i)) := h.row.get (l := wordsW) hi
abbrev WdS (k : Nat) (W' : World) : Prop := ∀ i, i < 30 → W'.cell? ⟨k, i, none⟩ = some (.string (wdW i))
theorem WdS.drew {k : Nat} {W' : World} (h : WdS k W') : WdS k W'.drew := h
theorem WSt.words (h : WSt w0 g k V) : WdS k V := fun _ hi => h.word hi
theorem sep_new (V : World) : RowW (V.alloc (.cells #[.string ⟨#[32]⟩, .string ⟨#[]⟩, .string ⟨#[9]⟩] 9)) V.heap.size sepL := ⟨_, _, heap_alloc_new _ _⟩
theorem keepSepA {B : Nat} {w' : World} (T : Thrown B (V.alloc (.cells #[.string ⟨#[32]⟩, .string ⟨#[]⟩, .string ⟨#[9]⟩] 9)) g w') (hne : V.heap.size ≠ g) : RowW w' V.heap.size sepL := RowW.thrown (sep_new V) T hne
theorem keepSepB {B : Nat} {w' : World} (T : Thrown B ((V.alloc (.cells #[.string ⟨#[32]⟩, .string ⟨#[]⟩, .string ⟨#[9]⟩] 9)).drew) g w') (hne : V.heap.size ≠ g) : RowW w' V.heap.size sepL := RowW.thrown (V := (V.alloc (.cells #[.string ⟨#[32]⟩, .string ⟨#[]⟩, .string ⟨#[9]⟩] 9)).drew) (b := V.heap.size) (sep_new V) T hne
theorem keepSepC {B : Nat} {U w' : World} (T : Thrown B (V.alloc (.cells #[.string ⟨#[32]⟩, .string ⟨#[]⟩, .string ⟨#[9]⟩] 9)) g w') (hz : V.heap.size = U.drew.heap.size) (hne : U.heap.size ≠ g) : RowW w' U.heap.size sepL := by
  have hz : V.heap.size = U.heap.size := hz
  rw [← hz] at hne ⊢
  exact RowW.thrown (sep_new V) T hne
theorem keepSepD {B : Nat} {U w' : World} (T : Thrown B (U.drew.alloc (.cells #[.string ⟨#[32]⟩, .string ⟨#[]⟩, .string ⟨#[9]⟩] 9)) g w') (hne : U.heap.size ≠ g) : RowW w' U.heap.size sepL := keepSepC T rfl hne
theorem sep_late {U W' : World} (hz5 : W'.heap.size = V.heap.size) (hz4 : V.heap.size = U.drew.heap.size) : RowW (W'.alloc (.cells #[.string ⟨#[32]⟩, .string ⟨#[]⟩, .string ⟨#[9]⟩] 9)) U.heap.size sepL := by
  have hz4 : V.heap.size = U.heap.size := hz4
  rw [← hz4, ← hz5]
  exact sep_new W'
theorem ovA {a b : Nat} (h1 : a ≤ 7) (h2 : b ≤ 1) : (9223372036854775807 < a + b) = False := eq_false (by omega)
theorem ovB {r a b : Nat} (hr : r ≤ 2000) (h1 : a ≤ 7) (h2 : b ≤ 1) : (9223372036854775807 < r + (a + b)) = False := eq_false (by omega)
theorem ovC {x y z : ByteArray} (hr : x.size ≤ 2000) (h1 : y.size ≤ 7) (h2 : z.size ≤ 1) : (9223372036854775807 < x.size + (y ++ z).size) = False := eq_false (by rw [ByteArray.size_append]; omega)
theorem ovD {a b : Nat} (h1 : a ≤ 7) (h2 : b ≤ 1) : a + b ≤ 9223372036854775807 := by omega
theorem ovE {r a b : Nat} (hr : r ≤ 2000) (h1 : a ≤ 7) (h2 : b ≤ 1) : r + (a + b) ≤ 9223372036854775807 := by omega
theorem sep_cell {b : Nat} (h : RowW V b sepL) {i : Nat} (hi : i < 3) : V.cell? ⟨b, i, none⟩ = some (.string (sepW i)) := h.get (l := sepL) hi
def NextW (w0 : World) (g k m : Nat) (V : World) (e : Ending) (V' : World) : Prop := ∃ v : Nat, e = .returned (.int .i64 v) ∧ v < m ∧ WSt w0 g k V' ∧ Thrown w0.heap.size V g V' ∧ V'.heap.size = V.heap.size
theorem nextW_walk (hg : w0.heap.size ≤ g) (hS0 : 12 ≤ w0.heap.size) (hk : g < k) (m : Nat) (hm : 1 ≤ m) (hm2 : m ≤ 1073741824) (h : WSt w0 g k V) : Calls Tryz.prog 11 #[.pointer (some ⟨g, 0, none⟩), .int .i64 m] V fun e V' => NextW w0 g k m V e V' :=
  (next_walk w0.heap.size g m (by omega) V h.dice).mono fun e V' ⟨v, he, p, q, _, T, hz⟩ => by
    obtain ⟨v, rfl⟩ := Int.eq_ofNat_of_zero_le p
    have := q (by omega)
    exact ⟨v, he, by omega, h.on hg hS0 hk T, T, hz⟩
end
def OutW (w0 : World) (g k : Nat) (v5 v6 : Value) (V : World) : Prop := ∃ (r : ByteArray) (n : Nat), v5 = .string r ∧ v6 = .int .i64 n ∧ n ≤ 4 ∧ r.size + 200 * n ≤ 800 ∧ WSt w0 g k V
def InW (w0 : World) (g k M : Nat) (v5 v7 : Value) (V : World) : Prop := ∃ (r : ByteArray) (i : Nat), v5 = .string r ∧ v7 = .int .i64 i ∧ i ≤ 13 ∧ r.size + 12 * i ≤ M ∧ WSt w0 g k V
def TxtW (w0 : World) (g k M : Nat) (v5 : Value) (V : World) : Prop := ∃ r : ByteArray, v5 = .string r ∧ r.size ≤ M ∧ WSt w0 g k V
def zerosW : Array Value := (List.replicate 30 (Value.string ⟨#[]⟩)).toArray
theorem conv_dig {V : World} {nb : Nat} (q : Nat) (hq : q ≤ 100) (h : V.cell? ⟨nb, 0, none⟩ = some (.int .u8 (48 + (q : Int)))) (cap : Nat) : (convert 34 9 (.slice (some ⟨nb, 0, none⟩) 1 cap)).run Tryz.prog V = .ok (.string ⟨#[UInt8.ofNat (48 + q)]⟩) V :=
  run_convert_bytes_back _ 34 9 5 ⟨nb, 0, none⟩ cap [UInt8.ofNat (48 + q)] Tryz.underlying34 Tryz.underlying5 Tryz.underlying9 (by
    intro j hj
    have hj : j = 0 := by simp at hj; omega
    subst hj
    have he : ((UInt8.ofNat (48 + q)).toNat : Int) = 48 + (q : Int) := by
      rw [UInt8.toNat_ofNat']; omega
    simp [Addr.add, h]
    omega)
set_option maxHeartbeats 8000000 in
theorem words14_walk (A : Option Addr) (n c : Nat) (w : World) (hS : Std w) (hW : Wds w) (hDy : Dys w) (hL : Lvs w) (hM : Nms w) (hA : 0 < n → ∃ b off, A = some ⟨b, off, none⟩ ∧ ∀ j, j < n → ∃ x : Int, w.cell? ⟨b, off + j, none⟩ = some (.int .i64 x)) :
    Calls Tryz.prog 4 #[.slice A n c] w fun e w' => e = .returned (.bool true) ∧ Below w.heap.size w w' := by
  by_cases hn : n ≤ 400
  · have hd400 : decide (n ≤ 400) = true := by simpa using hn
    have D0 := dice_new (c := c) hn hA
    have hS0 := hS.big
    obtain ⟨g, hgw⟩ : ∃ g, w.heap.size = g := ⟨_, rfl⟩
    obtain ⟨W1, hW1⟩ : ∃ W1, w.alloc (.cells #[.slice A n c, .int .i64 0] 58) = W1 := ⟨_, rfl⟩
    have hb1 : Below w.heap.size w W1 := by rw [← hW1]; exact (by repeat (first | exact Below.refl _ _ | refine ext_alloc ?_ _ | refine ext_drewN ?_ _ | refine ext_drew ?_ | refine ext_trans ?_ (by assumption)))
    rw [hW1] at D0
    have hg : w.heap.size ≤ g := Nat.le_of_eq hgw
    have D1 : DiceOk w.heap.size W1 g := by rw [← hgw]; exact D0
    obtain ⟨k, hk⟩ : ∃ k, W1.heap.size = k := ⟨_, rfl⟩
    have hkg : k = g + 1 := by rw [← hk, ← hW1, World.size_alloc, hgw]
    obtain ⟨W2, hW2⟩ : ∃ W2, W1.alloc (.cells (wordsW.map Value.string).toArray 31) = W2 := ⟨_, rfl⟩
    have hb2 : Below W1.heap.size W1 W2 := by rw [← hW2]; exact ext_alloc (Below.refl _ _) _
    have hrow : RowW W2 k wordsW := ⟨_, _, by rw [← hW2, ← hk]; exact heap_alloc_new _ _⟩
    have hst0 : WSt w g k W2 := ⟨D1.later hb2, hrow, ext_trans hb1 hb2, (hS.after hb1).after hb2⟩
    have hgk : g < k := by omega
    replace hW1 := hide hW1
    replace hW2 := hide hW2
    replace hgw := hide hgw
    replace hk := hide hk
    clear D0 hA D1 hb1 hb2 hrow hkg
    go_enter Tryz.func4, Tryz.ntmps4
    go_wp2_with (go_at_call 9; refine (light_walk _ _ _ _).mono ?_; rintro e w' ⟨rfl, rfl⟩)
    refine (roll_walk _ _ _ _).mono ?_
    rintro e w' ⟨rfl, rfl⟩
    rw [hW1.out, hgw.out]
    go_upto_region 4 with fail
    refine wp_region_lit ?_
    refine wpList_buildTo rfl 31 _ rfl (some 14) rfl (wordsW.map Value.string).toArray (by kernel_rfl) ?_
    refine Go.Great.wpList_allocTo rfl (some 4) rfl (.pointer (some ⟨W1.heap.size, 0, none⟩)) (.cells zerosW 31) ?hal ?_
    case hal =>
      have hz := (zero_of_info (P := Tryz.prog) (t := 31) (v := .agg zerosW) (n := 30) (by kernel_rfl)).1
      unfold execOp
      simp only [Sem.run_bind, Instr.alloc, hz, Result.andThen_ok, newVar, newRow, run_newObj_alloc, Sem.run_pure]
      rfl
    refine wpList_store_rowTo rfl 31 _ _ rfl rfl W1.heap.size (wordsW.map Value.string).toArray (by simp [Act.eval, Act.put]) (by simp [Act.eval, Act.put]) 31 zerosW (heap_alloc_new _ _) (by kernel_rfl) (by kernel_rfl) (by kernel_rfl) ?_
    rw [World.setRow_alloc_new]
    apply wpList_nil
    go_wp2_with fail
    rw [hW2.out, hk.out]
    refine (next_walk w.heap.size g 5 (by omega) _ hst0.dice).mono ?_
    rintro e w3 ⟨v, rfl, p3, q3, -, T3, -⟩
    have q3 := q3 (by omega)
    have hst3 := hst0.on hg hS0 hgk T3
    obtain ⟨v, rfl⟩ := Int.eq_ofNat_of_zero_le p3
    have hv4 : v ≤ 4 := by omega
    clear T3 hst0 p3 q3 hW1 hW2 hgw hk
    go_wp2_with fail
    go_loopw [5, 6] (fun v5 v6 wr => OutW w g k v5 v6 wr) (fun _ i _ => (intOf i).toNat)
    case atStart => exact ⟨⟨#[]⟩, v, rfl, rfl, hv4, by show 0 + _ ≤ _; omega, hst3⟩
    case round =>
      obtain ⟨r, j, rfl, rfl, hj4, hr, hst⟩ := hrel
      by_cases hj : 0 < j
      · have hji : (0 : Int) < (j : Int) := by omega
        go_wp2_with fail
        refine (one_walk w.heap.size g 2 (by omega) (by omega) _ hst.dice).mono ?_
        rintro e w4 ⟨o1, rfl, T4⟩
        have hst4 := hst.on hg hS0 hgk T4
        clear T4 hst hst3
        go_upto_if 22 with fail
        go_cut [5] (fun s5 wx => TxtW w g k (r.size + 9) s5 wx)
        case first =>
          cases o1 with
          | false =>
            go_wp2_with fail
            go_meet
            exact ⟨r, rfl, Nat.le_add_right _ _, hst4⟩
          | true =>
            have w48 : IntKind.u8.wrap (48 + (j : Int)) = 48 + (j : Int) := by simp [IntKind.wrap, IntKind.bits, IntKind.signed]; omega
            have w48b : IntKind.i64.wrap (48 + (j : Int)) = 48 + (j : Int) := by rw [IntKind.wrap_i64]; omega
            have hconv : ∀ (V : World) (nb : Nat), V.cell? ⟨nb, 0, none⟩ = some (.int .u8 (48 + (j : Int))) → (convert 34 9 (.slice (some ⟨nb, 0, none⟩) 1 1)).run Tryz.prog V = .ok (.string ⟨#[UInt8.ofNat (48 + j)]⟩) V := fun V nb hV => conv_dig j (by omega) hV 1
            go_wp2_with fail
            go_meet
            exact ⟨_, rfl, by simp only [ByteArray.size_append]; show r.size + (1 + 1 + 7) ≤ _; omega, hst4.alloc _⟩
        case rest =>
          obtain ⟨r1, rfl, hr1, hst5⟩ := hcut
          go_wp2_with fail
          refine (next_walk w.heap.size g 14 (by omega) _ hst5.dice).mono ?_
          rintro e w6 ⟨x, rfl, px, qx, -, T6, -⟩
          have qx := qx (by omega)
          obtain ⟨x, rfl⟩ := Int.eq_ofNat_of_zero_le px
          have hst6 := hst5.on hg hS0 hgk T6
          have hx13 : x ≤ 13 := by omega
          clear hst5 T6 px qx hst4
          go_wp2_with fail
          go_loopw [5, 7] (fun v5 v7 wr => InW w g k (r1.size + 156) v5 v7 wr) (fun _ i _ => (intOf i).toNat)
          case atStart => exact ⟨r1, x, rfl, rfl, hx13, by omega, hst6⟩
          case round =>
            obtain ⟨r2, i, rfl, rfl, hi13, hr2, hst7⟩ := hrel
            by_cases hi : 0 < i
            · have hii : (0 : Int) < (i : Int) := by omega
              clear hst6
              go_upto_region 14 with fail
              have hn30 : Hid (∀ V : World, WSt w g k V → Calls Tryz.prog 11 #[.pointer (some ⟨g, 0, none⟩), .int .i64 30] V fun e V' => NextW w g k 30 V e V') := hide (fun V hV => nextW_walk hg hS0 hgk 30 (by omega) (by omega) hV)
              have hn3 : Hid (∀ V : World, WSt w g k V → Calls Tryz.prog 11 #[.pointer (some ⟨g, 0, none⟩), .int .i64 3] V fun e V' => NextW w g k 3 V e V') := hide (fun V hV => nextW_walk hg hS0 hgk 3 (by omega) (by omega) hV)
              have hst7d := hst7.drew
              have hkl := hst7.row.lt
              have hne : wr.heap.size ≠ g := by omega
              have hx7 := hst7.words
              have hr2k : r2.size ≤ 2000 := by omega
              have hx7d := WdS.drew hx7
              go_region_with (first | (go_at_call 11; (with_reducible refine (hn30.out _ ?_).mono ?_); (repeat (first | (with_reducible assumption) | (with_reducible refine WSt.alloc ?_ _) | (with_reducible refine WSt.drew ?_))); rintro e w4 ⟨v1, rfl, hv1, hs4, T4, hz4⟩; have q4 := hs4.word hv1; have b1 : (0 : Int) ≤ (v1 : Int) := Int.natCast_nonneg _; have b2 : (v1 : Int) < 30 := Int.ofNat_lt.2 hv1; have kl4 := hs4.row.lt; (try (with_reducible have r4 := keepSepA T4 hne)); (try (with_reducible have r4 := keepSepB T4 hne)); (try (with_reducible have r4 := keepSepD T4 hne)); (try (have l4 := r4.lt))) | (go_at_call 11; (with_reducible refine (hn3.out _ ?_).mono ?_); (repeat (first | (with_reducible assumption) | (with_reducible refine WSt.alloc ?_ _) | (with_reducible refine WSt.drew ?_))); rintro e w5 ⟨v2, rfl, hv2, hs5, T5, hz5⟩; have q5 := hs5.word hv1; have b3 : (0 : Int) ≤ (v2 : Int) := Int.natCast_nonneg _; have b4 : (v2 : Int) < 3 := Int.ofNat_lt.2 hv2; have kl5 := hs5.row.lt; have s1 := wd_size hv1; have s2 := sep_size hv2; have n1 := ovA s1 s2; have n2 := ovB hr2k s1 s2; have n3 := ovC hr2k s1 s2; have n4 := ovD s1 s2; have n5 := ovE hr2k s1 s2; (try (with_reducible have r5 := RowW.thrown r4 T5 hne)); (try (with_reducible have r5 := keepSepC T5 hz4 hne)); (try (with_reducible have q7 := sep_cell (sep_late hz5 hz4) hv2)); (try (have q6 := sep_cell r5 hv2)); (try (have l5 := r5.lt))))
              all_goals
                go_wp2_with fail
                go_roundw
                case rel => exact ⟨r2 ++ (wdW v1 ++ sepW v2), i - 1, rfl, by go_num, by omega, by rw [ByteArray.size_append, ByteArray.size_append]; omega, by repeat (first | (with_reducible assumption) | (with_reducible refine WSt.alloc ?_ _) | (with_reducible refine WSt.drew ?_))⟩
                case measure => simp [intOf]; omega
            · obtain rfl : i = 0 := by omega
              clear hst6
              go_wp2
              go_roundw
              case rel => exact ⟨r2 ++ ⟨#[10]⟩, j - 1, rfl, by go_num, by omega, by rw [ByteArray.size_append]; show r2.size + 1 + 200 * (j - 1) ≤ 800; omega, hst7⟩
              case measure => simp [intOf]; omega
      · obtain rfl : j = 0 := by omega
        have hSr := hst.std
        have hbr := hst.below
        have haw := awake14_walk wr hSr
        clear hst hst3
        go_wp2_with fail
        refine haw.mono ?_
        rintro e w4 ⟨rfl, hb4⟩
        clear haw
        have hwk := week14_walk w4
        go_wp2_with fail
        refine hwk.mono ?_
        rintro e w5 ⟨rfl, hb5⟩
        have hb45 := ext_trans hb4 hb5
        have hbw := ext_trans hbr hb45
        have ha := agree14_walk 5 10 480 45 4 r (by omega) w5 (hSr.after hb45) (hW.after hbw hS) (hDy.after hbw hS) (hL.go hbw) (hM.after hbw)
        clear hwk
        go_wp2_with fail
        refine ha.mono ?_
        rintro e w6 ⟨rfl, hb6⟩
        clear ha
        go_wp2
        go_ret
        exact ⟨rfl, ext_trans hbw hb6⟩
  · have hd400 : decide (n ≤ 400) = false := by simpa using hn
    have haw := awake14_walk w hS
    go_enter Tryz.func4, Tryz.ntmps4
    go_wp2_with (go_at_call 9; refine (light_walk _ _ _ _).mono ?_; rintro e w' ⟨rfl, rfl⟩)
    refine haw.mono ?_
    rintro e w4 ⟨rfl, hb4⟩
    go_wp2
    go_ret
    exact ⟨rfl, hb4⟩
end Go.Proofs.YtdnnahdafhddlaaGreatDoor
