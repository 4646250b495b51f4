/- Plain: the table of the shortest ways, one entry after the other; no entry leaves its bounds. No program here. Walk of travel.Valid. Conditions: the cells. Walk of travel.Close. Conditions: the cells. Walk of travel.Between. Conditions: the cells. The check at the head of law 08. No condition. -/
import Derived.Test.YtjcfkbichmlgmaaDoorKTravR
import Derived.Test.YtjcfkbichmlgmaaDoorKWriteT
import Derived.Test.YtjcfkbichmlgmaaDoorShelf
import Derived.Deep.RegionLawGrows
import Derived.Test.YtjcfkbichmlgmaaDoorKAwake9
namespace Go.Proofs.YtjcfkbichmlgmaaDoor
open Go.RowKit
set_option maxRecDepth 100000

def atM (m : List (List Int)) (i k : Nat) : Int := (m.getD i []).getD k 0
/-- One entry: the way over j, if it is known and shorter. -/
def clo1 (j : Nat) (m : List (List Int)) (i k : Nat) : List (List Int) :=
  if atM m i j = -1 ∨ atM m j k = -1 then m else if atM m i k = -1 ∨ atM m i j + atM m j k < atM m i k then setM m i k (atM m i j + atM m j k) else m
def cloRow (j i : Nat) (n : Nat) (m : List (List Int)) : List (List Int) := (List.range n).foldl (fun m k => clo1 j m i k) m
def cloOver (j q : Nat) (n : Nat) (m : List (List Int)) : List (List Int) := (List.range n).foldl (fun m i => cloRow j i q m) m
def cloTo (q : Nat) (n : Nat) (m : List (List Int)) : List (List Int) := (List.range n).foldl (fun m j => cloOver j q q m) m
def capRow (x : List Int) : List Int := x.map (min · 24)
def closeM (q : Nat) (m : List (List Int)) : List (List Int) := (cloTo q q m).map capRow
theorem fold_range {α : Type} (f : α → Nat → α) (a : α) (n : Nat) : (List.range (n + 1)).foldl f a = f ((List.range n).foldl f a) n := by
  rw [List.range_succ, List.foldl_append]; rfl
theorem cloRow_next (j i n : Nat) (m : List (List Int)) : cloRow j i (n + 1) m = clo1 j (cloRow j i n m) i n := fold_range _ _ _
theorem cloOver_next (j q n : Nat) (m : List (List Int)) : cloOver j q (n + 1) m = cloRow j n q (cloOver j q n m) := fold_range _ _ _
theorem cloTo_next (q n : Nat) (m : List (List Int)) : cloTo q (n + 1) m = cloOver n q q (cloTo q n m) := fold_range _ _ _
theorem atM_of {m : List (List Int)} {i k : Nat} {x : List Int} {u : Int} (hx : m[i]? = some x) (hu : x[k]? = some u) : atM m i k = u := by
  unfold atM
  simp [hx, hu]
theorem sq_at {n i k : Nat} {m : List (List Int)} (h : Sq n m) (hi : i < n) (hk : k < n) : ∃ x, m[i]? = some x ∧ x.length = n ∧ x[k]? = some (atM m i k) := by
  obtain ⟨x, hx, hl⟩ := sq_row h hi
  have hu : x[k]? = some (x[k]'(by omega)) := List.getElem?_eq_getElem _
  exact ⟨x, hx, hl, by rw [hu, atM_of hx hu]⟩
theorem atM_set {n i k a b : Nat} {m : List (List Int)} {u : Int} (h : Sq n m) (hi : i < n) (hk : k < n) (ha : a < n) (hb : b < n) : atM (setM m i k u) a b = if a = i ∧ b = k then u else atM m a b := by
  obtain ⟨x, hx, hl, -⟩ := sq_at h hi hk
  obtain ⟨y, hy, hyl, hyb⟩ := sq_at h ha hb
  rw [setM_eq hx]
  have hml : i < m.length := by rw [h.1]; exact hi
  by_cases hai : a = i
  · subst hai
    rw [hx] at hy
    obtain rfl := Option.some.inj hy
    have h1 : (m.set a (x.set k u))[a]? = some (x.set k u) := List.getElem?_set_self hml
    by_cases hbk : b = k
    · subst hbk
      rw [if_pos ⟨rfl, rfl⟩]
      exact atM_of h1 (List.getElem?_set_self (by omega))
    · rw [if_neg (fun e => hbk e.2)]
      exact atM_of h1 ((List.getElem?_set_ne (fun e => hbk e.symm)).trans hyb)
  · rw [if_neg (fun e => hai e.1)]
    exact atM_of ((List.getElem?_set_ne (fun e => hai e.symm)).trans hy) hyb
/-- A table whose entries stand within bounds, before the ways over j. -/
structure Bnd (n : Nat) (M : Int) (m : List (List Int)) : Prop where
  sq : Sq n m
  diag : ∀ i, i < n → atM m i i = 0
  lo : ∀ i k, i < n → k < n → -1 ≤ atM m i k
  hi : ∀ i k, i < n → k < n → atM m i k ≤ M
/-- While the ways over j are looked at. -/
structure Mid (n : Nat) (M : Int) (j : Nat) (m : List (List Int)) : Prop where
  sq : Sq n m
  diag : ∀ i, i < n → atM m i i = 0
  lo : ∀ i k, i < n → k < n → -1 ≤ atM m i k
  hi : ∀ i k, i < n → k < n → atM m i k ≤ 2 * M
  row : ∀ k, k < n → atM m j k ≤ M
  col : ∀ i, i < n → atM m i j ≤ M
theorem Bnd.mid {n j : Nat} {M : Int} {m : List (List Int)} (h : Bnd n M m) (hj : j < n) (hM : 0 ≤ M) : Mid n M j m :=
  ⟨h.sq, h.diag, h.lo, fun i k hi hk => by have := h.hi i k hi hk; omega, fun k hk => h.hi j k hj hk, fun i hi => h.hi i j hi hj⟩
theorem Mid.bnd {n j : Nat} {M : Int} {m : List (List Int)} (h : Mid n M j m) : Bnd n (2 * M) m := ⟨h.sq, h.diag, h.lo, h.hi⟩
theorem Mid.step {n j i k : Nat} {M : Int} {m : List (List Int)} (h : Mid n M j m) (hj : j < n) (hi : i < n) (hk : k < n) : Mid n M j (clo1 j m i k) := by
  unfold clo1
  split
  · exact h
  · rename_i h1
    split
    · rename_i h2
      have hx0 := h.lo i j hi hj
      have hy0 := h.lo j k hj hk
      have hx1 := h.col i hi
      have hy1 := h.row k hk
      have hd := h.diag j hj
      have ho := h.lo i k hi hk
      refine ⟨sq_set h.sq, fun a ha => ?_, fun a b ha hb => ?_, fun a b ha hb => ?_, fun b hb => ?_, fun a ha => ?_⟩
      · rw [atM_set h.sq hi hk ha ha]
        split
        · rename_i h3
          obtain ⟨rfl, rfl⟩ := h3
          have := h.diag a ha
          omega
        · exact h.diag a ha
      · rw [atM_set h.sq hi hk ha hb]
        split
        · omega
        · exact h.lo a b ha hb
      · rw [atM_set h.sq hi hk ha hb]
        split
        · omega
        · exact h.hi a b ha hb
      · rw [atM_set h.sq hi hk hj hb]
        split
        · rename_i h3
          obtain ⟨rfl, rfl⟩ := h3
          omega
        · exact h.row b hb
      · rw [atM_set h.sq hi hk ha hj]
        split
        · rename_i h3
          obtain ⟨rfl, rfl⟩ := h3
          omega
        · exact h.col a ha
    · exact h
theorem Mid.rowTo {n j i : Nat} {M : Int} (hj : j < n) (hi : i < n) : ∀ (q : Nat) {m : List (List Int)}, q ≤ n → Mid n M j m → Mid n M j (cloRow j i q m)
  | 0, _, _, h => h
  | q + 1, m, hq, h => by rw [cloRow_next]; exact (Mid.rowTo hj hi q (by omega) h).step hj hi (by omega)
theorem Mid.overTo {n j : Nat} {M : Int} (hj : j < n) : ∀ (q : Nat) {m : List (List Int)}, q ≤ n → Mid n M j m → Mid n M j (cloOver j n q m)
  | 0, _, _, h => h
  | q + 1, m, hq, h => by rw [cloOver_next]; exact Mid.rowTo hj (by omega) n (Nat.le_refl _) (Mid.overTo hj q (by omega) h)
def big (j : Nat) : Int := ((24 * 2 ^ j : Nat) : Int)
theorem big_next (j : Nat) : big (j + 1) = 2 * big j := by unfold big; rw [Nat.pow_succ]; omega
theorem big_le {j : Nat} (h : j ≤ 8) : 0 ≤ big j ∧ big j ≤ 6144 := by
  have : 2 ^ j ≤ 2 ^ 8 := Nat.pow_le_pow_right (by omega) h
  have e : (2 : Nat) ^ 8 = 256 := rfl
  unfold big
  omega
theorem Bnd.to {n : Nat} {m : List (List Int)} (h : Bnd n 24 m) : ∀ j, j ≤ n → Bnd n (big j) (cloTo n j m)
  | 0, _ => h
  | j + 1, hj => by
    rw [cloTo_next, big_next]
    have hb : 0 ≤ big j := by unfold big; omega
    exact (Mid.overTo (by omega) n (Nat.le_refl _) ((Bnd.to h j (by omega)).mid (by omega) hb)).bnd
end Go.Proofs.YtjcfkbichmlgmaaDoor

namespace Go.Proofs.YtjcfkbichmlgmaaDoor
open Go.RowKit
set_option maxRecDepth 100000

def firstNZ (f : Nat → Int) : Nat → Int
  | 0 => 0
  | n + 1 => if firstNZ f n ≠ 0 then firstNZ f n else f n
theorem firstNZ_next {f : Nat → Int} {j : Nat} (h0 : firstNZ f j = 0) : firstNZ f (j + 1) = f j := by rw [firstNZ, if_neg (by rw [h0]; simp)]
theorem firstNZ_hit {f : Nat → Int} {j : Nat} (h0 : firstNZ f j = 0) (h : f j ≠ 0) : ∀ n, j < n → firstNZ f n = f j
  | 0, hj => by omega
  | n + 1, hj => by
    by_cases e : j = n
    · subst e; exact firstNZ_next h0
    · have ih := firstNZ_hit h0 h n (by omega)
      rw [firstNZ, if_pos (by rw [ih]; exact h), ih]
/-- What is wrong with name j. -/
def nameE (bs : List ByteArray) (j : Nat) : Int := if codeB (bs.getD j ⟨#[]⟩) = false then 10 else if 0 ≤ idxS (bs.getD j ⟨#[]⟩) (bs.take j) then 11 else 0
def rowsB (n : Nat) (xs : List (List Int)) : Bool := xs.any fun x => decide ((x.length : Int) ≠ (n : Int))
def badC (xs : List (List Int)) (i k : Nat) : Bool := decide (atM xs i k < -1) || (decide (24 < atM xs i k) || ((decide (i = k) && decide (atM xs i k ≠ 0)) || decide (atM xs i k ≠ atM xs k i)))
def badAll (xs : List (List Int)) (n : Nat) : Bool := orTo (fun i => orTo (badC xs i) n) n
/-- The first error of a table. -/
def validT (bs : List ByteArray) (xs : List (List Int)) : Int :=
  if 8 < bs.length then 2 else if firstNZ (nameE bs) bs.length ≠ 0 then firstNZ (nameE bs) bs.length else
  if xs.length ≠ bs.length then 1 else if rowsB bs.length xs = true then 1 else if badAll xs bs.length = true then 3 else 0
theorem getD_of {bs : List ByteArray} {j : Nat} {z : ByteArray} (h : bs[j]? = some z) : bs.getD j ⟨#[]⟩ = z := by rw [List.getD_eq_getElem?_getD, h]; rfl
theorem rowsB_hit {n j : Nat} {xs : List (List Int)} {x : List Int} (h : xs[j]? = some x) (hn : (x.length : Int) ≠ (n : Int)) : rowsB n xs = true :=
  List.any_eq_true.2 ⟨x, List.mem_of_getElem? h, decide_eq_true hn⟩
theorem rowsB_next {n j : Nat} {xs : List (List Int)} {x : List Int} (h : xs[j]? = some x) (hn : ¬ (x.length : Int) ≠ (n : Int)) (h0 : rowsB n (xs.take j) = false) : rowsB n (xs.take (j + 1)) = false := by
  unfold rowsB at h0 ⊢
  rw [List.take_add_one, h, List.any_append, h0]
  simpa using hn
theorem rowsB_sq {n : Nat} {xs : List (List Int)} (h : rowsB n xs = false) (hl : xs.length = n) : Sq n xs := by
  refine ⟨hl, fun x hx => ?_⟩
  by_cases e : x.length = n
  · exact e
  · have : rowsB n xs = true := List.any_eq_true.2 ⟨x, hx, decide_eq_true (by omega)⟩
    rw [this] at h; cases h
set_option maxHeartbeats 800000 in
theorem rowne_walk (q n : Nat) (F : Option Addr) (x : List Int) (c : Nat) (w : World) (hq : w.cell? ⟨q, 0, none⟩ = some (.int .i64 n)) :
    Calls Tryd.prog 25 #[.slice F x.length c, .pointer (some ⟨q, 0, none⟩)] w fun e w' => e = .returned (.bool (decide ((x.length : Int) ≠ (n : Int)))) ∧ w = w' := by
  obtain ⟨m, hm⟩ : ∃ m, x.length = m := ⟨_, rfl⟩
  rw [hm]
  by_cases h : (m : Int) = (n : Int)
  · rw [decide_eq_false (by simpa using h)]
    have h2 : ((m : Int) != n) = false := by simp; omega
    go_enter Tryd.func25, Tryd.ntmps25
    go_wp2
    go_ret
    exact ⟨by first | rfl | simp [h2], rfl⟩
  · rw [decide_eq_true h]
    have h2 : ((m : Int) != n) = true := by simp; omega
    go_enter Tryd.func25, Tryd.ntmps25
    go_wp2
    go_ret
    exact ⟨by first | rfl | simp [h2], rfl⟩
def IdxR (n : Nat) (xs : List (List Int)) (w : World) (e : Ending) (w' : World) : Prop := ∃ r : Int, e = .returned (.int .i64 r) ∧ decide (0 ≤ r) = rowsB n xs ∧ w = w'
set_option maxHeartbeats 2000000 in
theorem idxR_walk (q n : Nat) (A : Option Addr) (xs : List (List Int)) (c : Nat) (w : World) (hl : xs.length ≤ 9223372036854775807) (h : At (kSlice kInt) AnyB w A xs) (hq : w.cell? ⟨q, 0, none⟩ = some (.int .i64 n)) :
    Calls Tryd.prog 45 #[.slice A xs.length c, .func (.func 25) #[] #[.pointer (some ⟨q, 0, none⟩)]] w fun e w' => IdxR n xs w e w' := by
  have eg : ∀ args w, (callFunc 25 args).run Tryd.prog w = .ok (.enter 25 args) w := enters_of Tryd.func25 (by kernel_rfl) rfl
  obtain ⟨N, hnn⟩ : ∃ N, xs.length = N := ⟨_, rfl⟩
  rw [hnn] at hl ⊢
  replace hnn := hide hnn
  go_enter Tryd.func45, Tryd.ntmps45
  go_wp2
  go_loop [5, 8] (fun _ i => ∃ j : Nat, j ≤ N ∧ i = .int .i64 j ∧ Hid (rowsB n (xs.take j) = false)) (fun _ i => N - (intOf i).toNat)
  case atStart => exact ⟨0, Nat.zero_le _, rfl, hide rfl⟩
  case round =>
    obtain ⟨j, hj, rfl, ho⟩ := hrel
    by_cases hlt : j < N
    · obtain ⟨x, hx⟩ : ∃ x, xs[j]? = some x := ⟨_, List.getElem?_eq_getElem (by rw [hnn.out]; exact hlt)⟩
      obtain ⟨b, off, F, c1, rfl, -, hb, k0, -, -⟩ := h.slice hx
      have hcall := rowne_walk q n F x c1 w hq
      have hj0 : (0 : Int) ≤ (j : Int) := by omega
      have hj1 : (j : Int) < (N : Int) := by omega
      by_cases hn : (x.length : Int) ≠ (n : Int)
      · have hit := hide (rowsB_hit hx hn)
        rw [decide_eq_true hn] at hcall
        clear hx h ho hn
        go_wp2_with (go_at_fn 25; refine hcall.mono ?_; rintro e w' ⟨rfl, rfl⟩)
        go_ret
        exact ⟨j, rfl, by rw [hit.out]; simp, rfl⟩
      · have miss := hide (rowsB_next hx hn ho.out)
        rw [decide_eq_false hn] at hcall
        clear hx h ho hn
        go_wp2_with (go_at_fn 25; refine hcall.mono ?_; rintro e w' ⟨rfl, rfl⟩)
        go_round
        case rel => exact ⟨j + 1, by omega, by go_num, miss⟩
        case measure => simp [intOf]; omega
    · obtain rfl : j = N := by omega
      have hall : xs.take j = xs := by rw [← hnn.out]; exact List.take_length
      rw [hall] at ho
      go_wp2
      go_ret
      exact ⟨-1, rfl, by rw [ho.out]; rfl, rfl⟩
set_option maxHeartbeats 2000000 in
theorem conR_walk (q n : Nat) (A : Option Addr) (xs : List (List Int)) (c : Nat) (w : World) (hl : xs.length ≤ 9223372036854775807) (h : At (kSlice kInt) AnyB w A xs) (hq : w.cell? ⟨q, 0, none⟩ = some (.int .i64 n)) :
    Calls Tryd.prog 24 #[.slice A xs.length c, .func (.func 25) #[] #[.pointer (some ⟨q, 0, none⟩)]] w fun e w' => e = .returned (.bool (rowsB n xs)) ∧ w = w' := by
  have hcall := idxR_walk q n A xs c w hl h hq
  clear h
  go_enter Tryd.func24, Tryd.ntmps24
  go_wp2_with fail
  refine hcall.mono ?_
  rintro e w' ⟨r, rfl, hr, rfl⟩
  replace hr := hide hr
  go_wp2
  go_ret
  exact ⟨ret_bool hr.out, rfl⟩
/-- What the loops over a square table see. -/
theorem sq_two {n i k : Nat} {xs : List (List Int)} {A : Option Addr} {w : World} (hs : Sq n xs) (h : At (kSlice kInt) AnyB w A xs) (hi : i < n) (hk : k < n) :
    ∃ b off F c1 fb fo u, A = some ⟨b, off, none⟩ ∧ b < w.heap.size ∧ w.cell? ⟨b, off + i, none⟩ = some (.slice F n c1) ∧ F = some ⟨fb, fo, none⟩ ∧ fb < w.heap.size ∧ w.cell? ⟨fb, fo + k, none⟩ = some (.int .i64 u) ∧ u = atM xs i k := by
  obtain ⟨x, hx, hl, hu⟩ := sq_at hs hi hk
  obtain ⟨b, off, F, c1, hA, -, hb, k0, -, hF⟩ := h.slice hx
  obtain ⟨fb, fo, hFe, -, hfb, k1⟩ := hF.int hu
  rw [hl] at k0
  exact ⟨b, off, F, c1, fb, fo, _, hA, hb, k0, hFe, hfb, k1, rfl⟩
set_option maxHeartbeats 8000000 in
theorem tvalid_walk (D A : Option Addr) (bs : List ByteArray) (xs : List (List Int)) (d c : Nat) (w : World) (hbl : bs.length ≤ 9223372036854775807) (hxl : xs.length ≤ 9223372036854775807) (hd : bs.length ≤ d) (hD : At kStr AnyB w D bs) (hA : At (kSlice kInt) AnyB w A xs) :
    Calls Tryd.prog 9 #[.agg #[.slice D bs.length d, .slice A xs.length c]] w fun e w' => e = .returned (.int .i64 (validT bs xs)) ∧ Below w.heap.size w w' := by
  obtain ⟨V, hV⟩ : ∃ V, validT bs xs = V := ⟨_, rfl⟩
  rw [hV]
  unfold validT at hV
  obtain ⟨n, hn⟩ : ∃ n, bs.length = n := ⟨_, rfl⟩
  rw [hn] at hbl hd hV ⊢
  have hb0 : Below w.heap.size w ((w.alloc (.cells #[.slice D n d, .slice A xs.length c] 25)).alloc (.cells #[.int .i64 n] 3)) := (by repeat (first | exact Below.refl _ _ | refine ext_alloc ?_ _ | refine ext_drewN ?_ _ | refine ext_drew ?_ | refine ext_trans ?_ (by assumption)))
  have p0 : ((w.alloc (.cells #[.slice D n d, .slice A xs.length c] 25)).alloc (.cells #[.int .i64 n] 3)).cell? ⟨w.heap.size, 0, none⟩ = some (.slice D n d) := by simp
  have p1 : ((w.alloc (.cells #[.slice D n d, .slice A xs.length c] 25)).alloc (.cells #[.int .i64 n] 3)).cell? ⟨w.heap.size, 1, none⟩ = some (.slice A xs.length c) := by simp
  have p2 : ((w.alloc (.cells #[.slice D n d, .slice A xs.length c] 25)).alloc (.cells #[.int .i64 n] 3)).cell? ⟨w.heap.size + 1, 0, none⟩ = some (.int .i64 n) := by rw [cell_of_row _ _ _ _ _ _ (heap_new2 _ _ _)]; rfl
  obtain ⟨W, hW⟩ : ∃ W, (w.alloc (.cells #[.slice D n d, .slice A xs.length c] 25)).alloc (.cells #[.int .i64 n] 3) = W := ⟨_, rfl⟩
  obtain ⟨p, hp⟩ : ∃ p, w.heap.size = p := ⟨_, rfl⟩
  obtain ⟨q, hq⟩ : ∃ q, p + 1 = q := ⟨_, rfl⟩
  rw [hW] at hb0 p0 p1 p2
  rw [hp] at p0 p1 p2
  rw [hq] at p2
  have hpl := World.block_lt_of_cell? _ _ p0
  have hql := World.block_lt_of_cell? _ _ p2
  have hDW := hD.later hb0
  have hAW := hA.later hb0
  replace hV := hide hV
  replace hn := hide hn
  replace hW := hide hW
  replace hp := hide hp
  replace hq := hide hq
  clear hD hA
  by_cases h8 : 8 < n
  · have hV2 : Hid (V = 2) := hide (hV.out.symm.trans (if_pos h8))
    go_enter Tryd.func9, Tryd.ntmps9
    go_wp2
    go_ret
    exact ⟨by rw [hV2.out]; rfl, by rw [hW.out]; exact hb0⟩
  · have hV2 : Hid ((if firstNZ (nameE bs) n ≠ 0 then firstNZ (nameE bs) n else if xs.length ≠ n then 1 else if rowsB n xs = true then 1 else if badAll xs n = true then 3 else 0) = V) := hide ((if_neg h8).symm.trans hV.out)
    clear hV
    go_enter Tryd.func9, Tryd.ntmps9
    go_wp2_with fail
    rw [hW.out, hp.out, hq.out]
    go_loop [18] (fun i => ∃ j : Nat, j ≤ n ∧ i = .int .i64 j ∧ Hid (firstNZ (nameE bs) j = 0)) (fun i => n - (intOf i).toNat)
    case atStart => exact ⟨0, Nat.zero_le _, rfl, hide rfl⟩
    case round =>
      obtain ⟨j, hj, rfl, ho⟩ := hrel
      by_cases hlt : j < n
      · obtain ⟨z, hz⟩ : ∃ z, bs[j]? = some z := ⟨_, List.getElem?_eq_getElem (by rw [hn.out]; exact hlt)⟩
        have hat := hDW
        obtain ⟨b, off, rfl, -, hb, k0⟩ := hDW.str hz
        have hj0 : (0 : Int) ≤ (j : Int) := by omega
        have hj1 : (j : Int) < (n : Int) := by omega
        have hjd : (j : Int) ≤ (d : Int) := by omega
        have hcv := cvalid_walk z W
        have hcon := scontains_walk (some ⟨b, off, none⟩) (bs.take j) d z W (by rw [List.length_take]; omega) hat.take
        rw [List.length_take, hn.out, Nat.min_eq_left (by omega)] at hcon
        have hE : nameE bs j = if codeB z = false then 10 else if 0 ≤ idxS z (bs.take j) then 11 else 0 := by unfold nameE; rw [getD_of hz]
        obtain ⟨x, hx⟩ : ∃ x, idxS z (bs.take j) = x := ⟨_, rfl⟩
        rw [hx] at hcon hE
        replace hE := hide hE
        clear hz hx hat hDW hAW
        go_wp2_with fail
        refine hcv.mono ?_
        rintro e w2 ⟨rfl, rfl⟩
        cases hv : codeB z with
        | false =>
          have h10 : nameE bs j = 10 := by rw [hE.out, hv]; rfl
          have hVV : Hid (V = 10) := hide (by rw [← hV2.out, firstNZ_hit ho.out (by rw [h10]; decide) n hlt, h10]; rfl)
          clear hv hE hcv hcon
          go_wp2
          go_ret
          exact ⟨by rw [hVV.out]; rfl, hb0⟩
        | true =>
          rw [hv] at hE
          clear hv hcv
          go_wp2_with fail
          refine hcon.mono ?_
          rintro e w2 ⟨rfl, rfl⟩
          by_cases hx : 0 ≤ x
          · have h11 : nameE bs j = 11 := hE.out.trans (if_pos hx)
            have hVV : Hid (V = 11) := hide (by rw [← hV2.out, firstNZ_hit ho.out (by rw [h11]; decide) n hlt, h11]; rfl)
            rw [decide_eq_true hx]
            clear hE hcon
            go_wp2
            go_ret
            exact ⟨by rw [hVV.out]; rfl, hb0⟩
          · have h00 : Hid (firstNZ (nameE bs) (j + 1) = 0) := hide ((firstNZ_next ho.out).trans (hE.out.trans (if_neg hx)))
            rw [decide_eq_false hx]
            clear hE hcon
            go_wp2_with fail
            go_round
            case rel => exact ⟨j + 1, by omega, by go_num, h00⟩
            case measure => simp [intOf]; omega
      · obtain rfl : j = n := by omega
        have hV3 : Hid ((if xs.length ≠ j then 1 else if rowsB j xs = true then 1 else if badAll xs j = true then 3 else 0) = V) := hide ((if_neg (c := firstNZ (nameE bs) j ≠ 0) (fun h => h ho.out)).symm.trans hV2.out)
        clear hV2 ho hDW
        by_cases hne : xs.length = j
        · have hcr := conR_walk q j A xs c W hxl hAW p2
          have hV4 : Hid ((if rowsB j xs = true then 1 else if badAll xs j = true then 3 else 0) = V) := hide ((if_neg (c := xs.length ≠ j) (fun h => h hne)).symm.trans hV3.out)
          have hsq := fun h => rowsB_sq (n := j) (xs := xs) h hne
          rw [hne] at hcr ⊢
          rw [hne] at p1
          have hne2 : ((j : Int) != (j : Int)) = false := by simp
          clear hV3 hne hxl
          go_wp2_with fail
          refine hcr.mono ?_
          rintro e w2 ⟨rfl, rfl⟩
          clear hcr
          cases hr : rowsB j xs with
          | true =>
            have hVV : Hid (V = 1) := hide (by rw [← hV4.out, hr]; rfl)
            clear hr
            go_wp2
            go_ret
            exact ⟨by rw [hVV.out]; rfl, hb0⟩
          | false =>
            replace hsq := hsq hr
            have hV5 : Hid ((if badAll xs j = true then 3 else 0) = V) := hide (by rw [← hV4.out, hr]; rfl)
            clear hV4 hr
            go_wp2_with fail
            go_loop [49] (fun i => ∃ i0 : Nat, i0 ≤ j ∧ i = .int .i64 i0 ∧ Hid (orTo (fun i => orTo (badC xs i) j) i0 = false)) (fun i => j - (intOf i).toNat)
            case atStart => exact ⟨0, Nat.zero_le _, rfl, hide rfl⟩
            case round =>
              obtain ⟨i, hi, rfl, ho1⟩ := hrel
              by_cases hil : i < j
              · obtain ⟨b, off, F, c1, -, -, -, rfl, hb, k0, -⟩ := sq_two hsq hAW hil hil
                have hi0 : (0 : Int) ≤ (i : Int) := by omega
                have hi1 : (i : Int) < (j : Int) := by omega
                go_wp2_with fail
                go_loop [56] (fun v => ∃ k0 : Nat, k0 ≤ j ∧ v = .int .i64 k0 ∧ Hid (orTo (badC xs i) k0 = false)) (fun v => j - (intOf v).toNat)
                case atStart => exact ⟨0, Nat.zero_le _, rfl, hide rfl⟩
                case round =>
                  obtain ⟨k, hk, rfl, ho2⟩ := hrel
                  by_cases hkl : k < j
                  · obtain ⟨b1, off1, F1, c2, fb, fo, u, hA1, -, k1, rfl, hfb, k2, hu⟩ := sq_two hsq hAW hil hkl
                    obtain ⟨b2, off2, F2, c3, gb, go, u2, hA2, -, k3, rfl, hgb, k4, hu2⟩ := sq_two hsq hAW hkl hil
                    injection hA1 with hA1
                    injection hA1 with a1 a2
                    subst a1 a2
                    injection hA2 with hA2
                    injection hA2 with a1 a2
                    subst a1 a2
                    have k1' := k0.symm.trans k1
                    injection k1' with k1'
                    injection k1' with e1 _ e3
                    subst e1 e3
                    clear k1
                    have hbad : badC xs i k = (decide (u < -1) || (decide (24 < u) || ((decide (i = k) && decide (u ≠ 0)) || decide (u ≠ u2)))) := by unfold badC; rw [hu, hu2]
                    have hsame : i = k → u = u2 := fun e => by rw [hu, hu2, e]
                    have hhit : badC xs i k = true → Hid (V = 3) := fun h => hide (by rw [← hV5.out, show badAll xs j = true from orTo_hit (p := fun i => orTo (badC xs i) j) (k := i) (orTo_hit h j hkl) j hil]; rfl)
                    have hnx : badC xs i k = false → Hid (orTo (badC xs i) (k + 1) = false) := fun h => hide (by unfold orTo; rw [ho2.out, h]; rfl)
                    have hk0' : (0 : Int) ≤ (k : Int) := by omega
                    have hk1' : (k : Int) < (j : Int) := by omega
                    replace hhit := hide hhit
                    replace hnx := hide hnx
                    replace hbad := hide hbad
                    replace hsame := hide hsame
                    replace hV5 := hide hV5
                    clear hu hu2 ho2 hAW
                    by_cases q1 : u < -1
                    · have hVV := hhit.out (by rw [hbad.out, decide_eq_true q1]; rfl)
                      go_wp2
                      go_ret
                      exact ⟨by rw [hVV.out]; rfl, hb0⟩
                    · by_cases q2 : 24 < u
                      · have hVV := hhit.out (by rw [hbad.out, decide_eq_false q1, decide_eq_true q2]; rfl)
                        go_wp2
                        go_ret
                        exact ⟨by rw [hVV.out]; rfl, hb0⟩
                      · by_cases q3 : i = k
                        · have e := hsame.out q3
                          have hnb : badC xs i k = decide (u ≠ 0) := by rw [hbad.out, decide_eq_false q1, decide_eq_false q2, decide_eq_true q3, e]; simp
                          by_cases q4 : u = 0
                          · have hnn := hnx.out (by rw [hnb, q4]; rfl)
                            subst q3
                            subst q4
                            subst e
                            go_wp2_with fail
                            go_round
                            case rel => exact ⟨i + 1, by omega, by go_num, hnn⟩
                            case measure => simp [intOf]; omega
                          · have hVV := hhit.out (by rw [hnb, decide_eq_true q4])
                            subst q3
                            clear e
                            go_wp2
                            all_goals first | (exfalso; omega) | (go_ret; exact ⟨by rw [hVV.out]; rfl, hb0⟩)
                        · have q3' : ¬ (i : Int) = (k : Int) := by omega
                          have hnb : badC xs i k = decide (u ≠ u2) := by rw [hbad.out, decide_eq_false q1, decide_eq_false q2, decide_eq_false q3]; simp
                          by_cases q4 : u = u2
                          · have hnn := hnx.out (by rw [hnb, q4]; simp)
                            subst q4
                            go_wp2_with fail
                            go_round
                            case rel => exact ⟨k + 1, by omega, by go_num, hnn⟩
                            case measure => simp [intOf]; omega
                          · have hVV := hhit.out (by rw [hnb, decide_eq_true q4])
                            have q4' : (u != u2) = true := by simpa using q4
                            go_wp2
                            go_ret
                            exact ⟨by rw [hVV.out]; rfl, hb0⟩
                  · obtain rfl : k = j := by omega
                    have hnn : Hid (orTo (fun i => orTo (badC xs i) k) (i + 1) = false) := hide (by unfold orTo; rw [ho1.out, ho2.out]; rfl)
                    clear ho1 ho2
                    go_wp2_with fail
                    go_round
                    case rel => exact ⟨i + 1, by omega, by go_num, hnn⟩
                    case measure => simp [intOf]; omega
              · obtain rfl : i = j := by omega
                have hVV : Hid (V = 0) := hide (by rw [← hV5.out, show badAll xs i = false from ho1.out]; rfl)
                clear ho1
                go_wp2
                go_ret
                exact ⟨by rw [hVV.out]; rfl, hb0⟩
        · have hVV : Hid (V = 1) := hide (by rw [← hV3.out, if_pos hne])
          have hne2 : ((xs.length : Int) != (j : Int)) = true := by simp; omega
          go_wp2
          go_ret
          exact ⟨by rw [hVV.out]; rfl, hb0⟩
end Go.Proofs.YtjcfkbichmlgmaaDoor

namespace Go.Proofs.YtjcfkbichmlgmaaDoor
open Go.RowKit
set_option maxRecDepth 100000

/-! Plain. -/
def capE (m : List (List Int)) (i k : Nat) : List (List Int) := setM m i k (min (atM m i k) 24)
def capRowTo (i q : Nat) (m : List (List Int)) : List (List Int) := (List.range q).foldl (fun m k => capE m i k) m
def capTo (n q : Nat) (m : List (List Int)) : List (List Int) := (List.range q).foldl (fun m i => capRowTo i n m) m
def closeF (n : Nat) (xs : List (List Int)) : List (List Int) := capTo n n (cloTo n n xs)
theorem capRowTo_next (i q : Nat) (m : List (List Int)) : capRowTo i (q + 1) m = capE (capRowTo i q m) i q := fold_range _ _ _
theorem capTo_next (n q : Nat) (m : List (List Int)) : capTo n (q + 1) m = capRowTo q n (capTo n q m) := fold_range _ _ _
theorem sq_capRow {n i : Nat} : ∀ (q : Nat) {m : List (List Int)}, Sq n m → Sq n (capRowTo i q m)
  | 0, _, h => h
  | q + 1, m, h => by rw [capRowTo_next]; exact sq_set (sq_capRow q h)
theorem sq_cap {n : Nat} : ∀ (q : Nat) {m : List (List Int)}, Sq n m → Sq n (capTo n q m)
  | 0, _, h => h
  | q + 1, m, h => by rw [capTo_next]; exact sq_capRow n (sq_cap q h)
theorem validT_ok {bs : List ByteArray} {xs : List (List Int)} (h : validT bs xs = 0) : bs.length ≤ 8 ∧ Bnd bs.length 24 xs := by
  unfold validT at h
  by_cases h1 : 8 < bs.length
  · rw [if_pos h1] at h; cases h
  rw [if_neg h1] at h
  by_cases h2 : firstNZ (nameE bs) bs.length ≠ 0
  · rw [if_pos h2] at h; exact absurd h h2
  rw [if_neg h2] at h
  by_cases h3 : xs.length ≠ bs.length
  · rw [if_pos h3] at h; cases h
  rw [if_neg h3] at h
  by_cases h4 : rowsB bs.length xs = true
  · rw [if_pos h4] at h; cases h
  rw [if_neg h4] at h
  by_cases h5 : badAll xs bs.length = true
  · rw [if_pos h5] at h; cases h
  have hsq := rowsB_sq (n := bs.length) (xs := xs) (by simpa using h4) (by omega)
  have hall : ∀ i k, i < bs.length → k < bs.length → badC xs i k = false := fun i k hi hk => by
    have hb : badAll xs bs.length = false := by simpa using h5
    exact orTo_all (orTo_all hb i hi) k hk
  have hb : ∀ i k, i < bs.length → k < bs.length → ¬ atM xs i k < -1 ∧ ¬ 24 < atM xs i k ∧ (i = k → atM xs i k = 0) := fun i k hi hk => by
    have := hall i k hi hk
    unfold badC at this
    simp only [Bool.or_eq_false_iff, decide_eq_false_iff_not, Bool.and_eq_false_iff] at this
    obtain ⟨a, b, c, -⟩ := this
    refine ⟨a, b, fun e => ?_⟩
    rcases c with c | c
    · exact absurd e c
    · omega
  exact ⟨by omega, hsq, fun i hi => (hb i i hi hi).2.2 rfl, fun i k hi hk => by have := (hb i k hi hk).1; omega, fun i k hi hk => by have := (hb i k hi hk).2.1; omega⟩
/-! Cloning. -/
theorem flat_strs : ∀ zs : List ByteArray, (zs.map fun z => [Value.string z]).flatten = zs.map Value.string
  | [] => rfl
  | z :: zs => by rw [List.map_cons, List.flatten_cons, List.map_cons, flat_strs zs]; rfl
theorem own_ofStrs {B : Nat} {w : World} {v : Value} {zs : List ByteArray} (h : w.ownsRow B 9 1 v zs.length (zs.map Value.string)) : Own kStr 9 [] 0 B w v zs := by
  refine ⟨zs.map fun z => [.string z], by simp, ?_, fun j x vs hj hv => ?_⟩
  · rw [flat_strs]; exact h
  · rw [List.getElem?_map, hj] at hv
    exact (Option.some.inj hv).symm
theorem clone_strs (D : Option Addr) (bs : List ByteArray) (d : Nat) (w : World) (hl : bs.length ≤ 1000) (h : At kStr AnyB w D bs) :
    Calls Tryd.prog 19 #[.slice D bs.length d] w fun e w' => ∃ v', e = .returned v' ∧ Own kStr 9 [] 0 w.heap.size w' v' bs ∧ Below w.heap.size w w' := by
  by_cases hn : 0 < bs.length
  · obtain ⟨b, off, rfl, -, hb, hc⟩ := h hn
    refine (Tryd.slices_Clone_string b off bs.length d bs w (Nat.le_refl _) (by omega) (fun j hj => ?_)).mono ?_
    · have hz : bs[j]? = some bs[j] := List.getElem?_eq_getElem hj
      obtain ⟨vs, hr, hcell⟩ := hc j _ hz
      rw [rep_str] at hr
      subst hr
      have := hcell 0 _ rfl
      rw [show bs.getD j ByteArray.empty = bs[j] from by rw [List.getD_eq_getElem?_getD, hz]; rfl]
      simpa [kStr] using this
    · rintro e w' ⟨v', rfl, ho, -, hb'⟩
      rw [List.take_length] at ho
      exact ⟨v', rfl, own_ofStrs ho, hb'⟩
  · obtain rfl : bs = [] := List.eq_nil_of_length_eq_zero (by omega)
    cases D with
    | none =>
      refine (Tryd.slices_Clone_string_nil 0 d w).mono ?_
      rintro e w' ⟨rfl, rfl⟩
      exact ⟨_, rfl, Own.nil, Below.refl _ _⟩
    | some a =>
      refine (Tryd.slices_Clone_string_zero a d w).mono ?_
      rintro e w' ⟨v', rfl, ho, -, hb'⟩
      exact ⟨v', rfl, own_ofStrs ho, hb'⟩
theorem clone_row (F : Option Addr) (x : List Int) (n c : Nat) (w : World) (hx : x.length = n) (h0 : 0 < n) (hl : n ≤ 1000) (h : At kInt AnyB w F x) :
    Calls Tryd.prog 20 #[.slice F n c] w fun e w' => ∃ g c', e = .returned (.slice (some ⟨g, 0, none⟩) n c') ∧ n ≤ c' ∧ w.heap.size ≤ g ∧ RowOwn w.heap.size n w' g x ∧ Below w.heap.size w w' := by
  obtain ⟨b, off, rfl, -, hb, hc⟩ := h (by omega)
  refine (Tryd.slices_Clone_int b off n c x w (by omega) (by omega) (fun j hj => ?_)).mono ?_
  · have hz : x[j]? = some x[j] := List.getElem?_eq_getElem hj
    obtain ⟨vs, hr, hcell⟩ := hc j _ hz
    rw [rep_int] at hr
    subst hr
    have := hcell 0 _ rfl
    rw [show x.getD j 0 = x[j] from by rw [List.getD_eq_getElem?_getD, hz]; rfl]
    simpa [kInt] using this
  · rintro e w' ⟨v', rfl, ho, -, hb'⟩
    rw [List.take_of_length_le (by omega)] at ho
    have ho2 := ho
    rcases ho2.2 with ⟨_, h1⟩ | ⟨g, cap, cur, rfl, hB, _, hcap, _⟩
    · omega
    · exact ⟨g, cap, rfl, hcap, hB, ⟨cap, ho⟩, hb'⟩
abbrev TC (w1 : World) (a v : Value) (bs : List ByteArray) (n : Nat) (hs : List Nat) (m : List (List Int)) (W : World) : Prop := TR 59 w1 (.slice none 0 0) (.slice none 0 0) a v [] [] bs n hs m W
/-- An entry as the program reaches it. -/
theorem TR.look {tw : TypeId} {w0 W : World} {u4 u6 a : Value} {ws : List Way} {ps : List Prob} {names : List ByteArray} {n sb cc : Nat} {hs : List Nat} {m : List (List Int)} {i k : Nat} (hT : TR tw w0 u4 u6 a (.slice (some ⟨sb, 0, none⟩) n cc) ws ps names n hs m W) (hsq : Sq n m) (hi : i < n) (hk : k < n) :
    ∃ bi ci, hs[i]? = some bi ∧ sb < W.heap.size ∧ bi < W.heap.size ∧ W.cell? ⟨sb, i, none⟩ = some (.slice (some ⟨bi, 0, none⟩) n ci) ∧ W.cell? ⟨bi, k, none⟩ = some (.int .i64 (atM m i k)) ∧ W.frozen? ⟨bi, k, none⟩ = false := by
  obtain ⟨y, hy, hyl, hyk⟩ := sq_at hsq hi hk
  obtain ⟨sb2, cc2, bi, ci, hv, -, hsb, c1, hhi, hri, -⟩ := hT.mat.get hy
  injection hv with e1 e2 e3
  injection e1 with e1
  injection e1 with e1
  subst e1
  obtain ⟨cur, -, hb⟩ := row_blk hri
  exact ⟨bi, ci, hhi, hsb, blk_lt hb, c1, row_cell hri hyk, row_free hri k⟩
theorem TR.slots {tw : TypeId} {w0 W : World} {u4 u6 a v : Value} {ws : List Way} {ps : List Prob} {names : List ByteArray} {n : Nat} {hs : List Nat} {m : List (List Int)} (hT : TR tw w0 u4 u6 a v ws ps names n hs m W) (hl : m.length = n) (hn : 0 < n) : ∃ sb cc, v = .slice (some ⟨sb, 0, none⟩) n cc := by
  have hy : m[0]? = some (m[0]'(by omega)) := List.getElem?_eq_getElem _
  obtain ⟨sb, cc, bi, ci, hv, -⟩ := hT.mat.get hy
  exact ⟨sb, cc, by rw [hv, hl]⟩
theorem TR.sameBox {tw : TypeId} {w0 W : World} {u4 u6 a v : Value} {ws : List Way} {ps : List Prob} {names : List ByteArray} {n : Nat} {hs : List Nat} {m m' : List (List Int)} (hT : TR tw w0 u4 u6 a v ws ps names n hs m W) (h : m = m') : TR tw w0 u4 u6 a v ws ps names n hs m' W := h ▸ hT
theorem tbox_alloc {W : World} {g : Nat} {a v : Value} (h : TBox W g a v) (o : Obj) : TBox (W.alloc o) g a v := tbox_later h (ext_alloc (Below.refl _ _) _)
theorem tbox_drew {W : World} {g : Nat} {a v : Value} (h : TBox W g a v) : TBox W.drew g a v := h
theorem RowOwn.alloc {B n h : Nat} {w : World} {x : List Int} (hr : RowOwn B n w h x) (o : Obj) : RowOwn B n (w.alloc o) h x := hr.later (ext_alloc (Below.refl _ _) _)
theorem RowOwn.drew {B n h : Nat} {w : World} {x : List Int} (hr : RowOwn B n w h x) : RowOwn B n w.drew h x := hr.later (ext_drew (Below.refl _ _))
theorem step_rows {ops : Array Oper} {o : Oper} {a : Act} {W : World} {K' : Act → World → Prop} {Q : Exit → Act → World → Prop} {E : Prop} {w1 : World} {g n : Nat} {a0 v : Value} {bs : List ByteArray} {hs : List Nat} {m : List (List Int)} (hgd : o.guard = none) (s x : Operand)
    (ho : o.op = .call { callee := .builtin .append, args := #[s, x], argTypes := #[23, 23] }) (hsv : a.eval s = v) (hT : TC w1 a0 v bs n hs m W) (hb : TBox W g a0 v) (hl : hs.length ≤ 4000000000)
    (ad : Addr) (c : Nat) (hx : a.eval x = .slice (some ad) 1 c) (h c' : Nat) (hc' : n ≤ c') (y : List Int) (hr : RowOwn w1.heap.size n W h y) (hne : ∀ q ∈ hs, q ≠ h) (hnews : ∀ j u, [Value.slice (some ⟨h, 0, none⟩) n c'][j]? = some u → W.cell? (ad.add j) = some u)
    (hk : ∀ g8 c8 w8, TC w1 a0 (.slice (some ⟨g8, 0, none⟩) (hs.length + 1) c8) bs n (hs ++ [h]) (m ++ [y]) w8 → TBox w8 g a0 v → K' (a.put o.dst (.slice (some ⟨g8, 0, none⟩) (hs.length + 1) c8)) w8) :
    if Region.wanted o (yielded ops a.tmps) = true then Oper.wp Tryd.prog o a W K' Q else E :=
  step_own (S := fun _ => True) hgd s x ho (apd_rows n) (Nat.lt_succ_self 0) hsv hT.mat.own hl (by decide) ad c hx h [.slice (some ⟨h, 0, none⟩) n c'] ⟨_, hc', rfl⟩ hnews (by decide) (Nat.zero_le _) hT.below.size (fun _ _ => trivial) fun g8 c8 w8 hn hg _ =>
    hk g8 c8 w8 (hT.snoc apart_way hr hne hg hn) (tbox_snoc hb hT.mat hg)
def CloseEnd (bs : List ByteArray) (xs : List (List Int)) (w : World) (e : Ending) (w' : World) : Prop :=
  ∃ D' d' v hs, e = .returned (.tuple #[.agg #[.slice D' bs.length d', v], .int .i64 0]) ∧ Own kStr 9 [] 0 w.heap.size w' (.slice D' bs.length d') bs ∧ Mat bs.length w.heap.size w' v hs (closeF bs.length xs) ∧ Below w.heap.size w w'
def RowsLoop (w1 : World) (g : Nat) (a : Value) (bs : List ByteArray) (n : Nat) (xs : List (List Int)) (i : Value) (wr : World) : Prop :=
  ∃ (j : Nat) (hs : List Nat) (v : Value), j ≤ n ∧ i = .int .i64 j ∧ TBox wr g a v ∧ TC w1 a v bs n hs (xs.take j) wr
def CellLoop (w1 : World) (g : Nat) (a v : Value) (bs : List ByteArray) (n : Nat) (hs : List Nat) (f : Nat → List (List Int)) (i : Value) (wr : World) : Prop :=
  ∃ j : Nat, j ≤ n ∧ i = .int .i64 j ∧ TBox wr g a v ∧ TC w1 a v bs n hs (f j) wr
set_option maxHeartbeats 16000000 in
theorem tclose_walk (D A : Option Addr) (bs : List ByteArray) (xs : List (List Int)) (d c : Nat) (w : World) (hd : bs.length ≤ d) (hV : validT bs xs = 0) (hD : At kStr AnyB w D bs) (hA : At (kSlice kInt) AnyB w A xs) :
    Calls Tryd.prog 7 #[.agg #[.slice D bs.length d, .slice A xs.length c]] w fun e w' => CloseEnd bs xs w e w' := by
  obtain ⟨hn8, hB⟩ := validT_ok hV
  have hxn := hB.sq.1
  have hb0 : Below w.heap.size w ((w.alloc (.cells #[.slice D bs.length d, .slice A xs.length c] 25)).alloc (.cells #[.slice none 0 0, .slice none 0 0] 25)) := (by repeat (first | exact Below.refl _ _ | refine ext_alloc ?_ _ | refine ext_drewN ?_ _ | refine ext_drew ?_ | refine ext_trans ?_ (by assumption)))
  have p0 : TBox ((w.alloc (.cells #[.slice D bs.length d, .slice A xs.length c] 25)).alloc (.cells #[.slice none 0 0, .slice none 0 0] 25)) w.heap.size (.slice D bs.length d) (.slice A xs.length c) := block_after (heap_alloc_new _ _)
  have r0 : TBox ((w.alloc (.cells #[.slice D bs.length d, .slice A xs.length c] 25)).alloc (.cells #[.slice none 0 0, .slice none 0 0] 25)) (w.heap.size + 1) (.slice none 0 0) (.slice none 0 0) := heap_new2 _ _ _
  obtain ⟨W, hW⟩ : ∃ W, (w.alloc (.cells #[.slice D bs.length d, .slice A xs.length c] 25)).alloc (.cells #[.slice none 0 0, .slice none 0 0] 25) = W := ⟨_, rfl⟩
  rw [hW] at hb0 p0 r0
  have hDW := hD.later hb0
  have hAW := hA.later hb0
  have hval := tvalid_walk D A bs xs d c W (by omega) (by omega) hd hDW hAW
  rw [hV] at hval
  have hfin : Hid (∀ e w', CloseEnd bs xs w e w' = (∃ D' d' v hs, e = .returned (.tuple #[.agg #[.slice D' bs.length d', v], .int .i64 0]) ∧ Own kStr 9 [] 0 w.heap.size w' (.slice D' bs.length d') bs ∧ Mat bs.length w.heap.size w' v hs (closeF bs.length xs) ∧ Below w.heap.size w w')) := hide fun _ _ => rfl
  obtain ⟨p, hp⟩ : ∃ p, w.heap.size = p := ⟨_, rfl⟩
  obtain ⟨rg, hrg⟩ : ∃ rg, p + 1 = rg := ⟨_, rfl⟩
  rw [hp] at p0 r0
  rw [hrg] at r0
  rw [hxn] at p0 hval hW ⊢
  obtain ⟨n, hnn⟩ : ∃ n, bs.length = n := ⟨_, rfl⟩
  have hclone := fun (w1 : World) (h1 : At kStr AnyB w1 D bs) => clone_strs D bs d w1 (by omega) h1
  rw [hnn] at p0 hval hW hfin hn8 hB hxn hd hclone ⊢
  have hpl := blk_lt p0
  have hpr : w.heap.size ≤ rg := by omega
  replace hW := hide hW
  replace hp := hide hp
  replace hrg := hide hrg
  replace hnn := hide hnn
  replace hB := hide hB
  replace hclone := hide hclone
  clear hD hA hV hxn
  go_enter Tryd.func7, Tryd.ntmps7
  go_wp2_with fail
  rw [hW.out, hp.out, hrg.out]
  refine hval.mono ?_
  rintro e w1 ⟨rfl, hb1⟩
  replace p0 := tbox_later p0 hb1
  replace r0 := tbox_later r0 hb1
  replace hb0 := ext_trans hb0 hb1
  replace hDW := hDW.later hb1
  replace hAW := hAW.later hb1
  clear hval hW hpl hb1
  have hpl := blk_lt p0
  have hrl := blk_lt r0
  obtain ⟨e0, e1, -, -⟩ := tbox_cells p0
  go_wp2_with fail
  refine (hclone.out w1 hDW).mono ?_
  rintro e w2 ⟨v', rfl, hown, hb2⟩
  clear hclone hDW
  obtain ⟨D', d', rfl⟩ := hown.form
  rw [hnn.out] at hown
  have hbx3 : TBox (w2.alloc (.cells #[.slice D' n d', .slice none 0 0] 25)) w2.heap.size (.slice D' n d') (.slice none 0 0) := heap_alloc_new _ _
  have hT3 : TC w1 (.slice D' n d') (.slice none 0 0) bs n [] [] (w2.alloc (.cells #[.slice D' n d', .slice none 0 0] 25)) := ⟨hown.alloc _, Own.nil, World.ownsRow_nil _ _ _ _, Mat.nil, ext_alloc hb2 _⟩
  have hg1 : w1.heap.size ≤ w2.heap.size := hb2.size
  rw [hnn.out]
  obtain ⟨w3, hw3⟩ : ∃ w3, w2.alloc (.cells #[.slice D' n d', .slice none 0 0] 25) = w3 := ⟨_, rfl⟩
  obtain ⟨g, hg⟩ : ∃ g, w2.heap.size = g := ⟨_, rfl⟩
  rw [hw3] at hbx3 hT3
  rw [hg] at hbx3 hg1
  replace hw3 := hide hw3
  replace hg := hide hg
  clear hown hb2 e0 e1
  go_upto_region 5 with fail
  rw [hw3.out, hg.out]
  clear hw3
  have q0 := tbox_later p0 hT3.below
  obtain ⟨e0, e1, -, -⟩ := tbox_cells q0
  have hql := blk_lt q0
  go_wp2_with fail
  clear e0 e1 q0 hql
  go_loopw [31] (fun i wr => RowsLoop w1 g (.slice D' n d') bs n xs i wr) (fun i _ => n - (intOf i).toNat)
  case atStart => exact ⟨0, [], _, Nat.zero_le _, rfl, hbx3, hT3⟩
  case round =>
    clear hbx3 hT3
    obtain ⟨j, hs, v, hj, rfl, hbx, hT⟩ := hrel
    by_cases hlt : j < n
    · obtain ⟨x, hx, hxl⟩ := sq_row hB.out.sq hlt
      obtain ⟨ab, off, F, fc, rfl, -, hab, k0, -, hF⟩ := (hAW.later hT.below).slice hx
      rw [hxl] at k0
      obtain ⟨e0, e1, -, -⟩ := tbox_cells hbx
      have hgl := blk_lt hbx
      have hj0 : (0 : Int) ≤ (j : Int) := by omega
      have hj1 : (j : Int) < (n : Int) := by omega
      have hown := hT.mat.own
      have hlen : hs.length ≤ 4000000000 := by rw [hT.mat.len, List.length_take]; omega
      have hlt1 : Hid (∀ b, wr.heap.size ≤ b → ∀ q ∈ hs, q ≠ b) := hide fun b hb q hq => by have := (hT.mat.lt q hq).2; omega
      have hcl := hide (fun (V : World) (hV : Below wr.heap.size wr V) => (clone_row F x n fc V hxl (by omega) (by omega) (hF.later hV)).mono fun e w' ⟨h, c', he, hc', hh, hr, hb⟩ => (⟨h, c', he, hc', Nat.le_trans hV.size hh, hr.lower (Nat.le_trans hT.below.size hV.size), ext_trans hV hb, tbox_later hbx (ext_trans hV hb), hT.later (ext_trans hV hb)⟩ :
        ∃ h c', e = Ending.returned (.slice (some ⟨h, 0, none⟩) n c') ∧ n ≤ c' ∧ wr.heap.size ≤ h ∧ RowOwn w1.heap.size n w' h x ∧ Below wr.heap.size wr w' ∧ TBox w' g (.slice D' n d') v ∧ TC w1 (.slice D' n d') v bs n hs (xs.take j) w'))
      have htk : Hid (xs.take (j + 1) = xs.take j ++ [x]) := hide (by rw [List.take_add_one, hx]; rfl)
      have hrefl := Below.refl wr.heap.size wr
      clear hx hF hAW
      go_upto_region 8 with fail
      go_region_law (first | (go_simp; go_at_call 20; (with_reducible refine (hcl.out _ ?_).mono ?_); (repeat (first | (with_reducible assumption) | (with_reducible refine ext_alloc ?_ _) | (with_reducible refine ext_drew ?_))); rintro e w5 ⟨h, c', rfl, hc', hh, hr5, hb5, hbx5, hT5⟩; have hown5 := hT5.mat.own; obtain ⟨e05, e15, -, -⟩ := tbox_cells hbx5; have hgl5 := blk_lt hbx5) | (refine step_rows (W := _) (w1 := w1) (g := g) (n := n) (a0 := .slice D' n d') (v := v) (bs := bs) (hs := hs) (m := xs.take j) rfl (.tmp 36) (.tmp 39) rfl (by rfl) (by repeat (first | (with_reducible exact hT5) | (with_reducible refine TR.alloc ?_ _) | (with_reducible refine TR.drew ?_))) (by repeat (first | (with_reducible assumption) | (with_reducible refine tbox_alloc ?_ _) | (with_reducible refine tbox_drew ?_))) hlen _ _ (by rfl) h c' hc' x (by repeat (first | (with_reducible exact hr5) | (with_reducible refine RowOwn.alloc ?_ _) | (with_reducible refine RowOwn.drew ?_))) (hlt1.out h hh) (World.news_of_block (cs := #[.slice (some ⟨h, 0, none⟩) n c']) (t := 43) (fr := (0, 0)) (by first | exact heap_alloc_new _ _ | exact block_after (heap_alloc_new _ _) | exact block_after (block_after (heap_alloc_new _ _)))) ?_; intro g8 c8 w8 hT8 hbx8; obtain ⟨e08, e18, f08, f18⟩ := tbox_cells hbx8; have hgl8 := blk_lt hbx8))
      all_goals
        have hbx9 := tbox_set hbx8 (.slice (some ⟨g8, 0, none⟩) (hs.length + 1) c8)
        have hT9 := hT8.only apart_way (only_setCell (p := ⟨g, 1, none⟩) (Only.refl g w8) (Or.inl rfl) (.slice (some ⟨g8, 0, none⟩) (hs.length + 1) c8)) hbx8 hg1
        rw [← htk.out] at hT9
        clear hT8 hbx8 hT5 hbx5 hr5 hown5 hcl hbx hT hown htk e0 e1 e05 e15 k0
        go_wp2
        go_roundw
        case rel => exact ⟨j + 1, hs ++ [h], _, by omega, by go_num, hbx9, hT9⟩
        case measure => simp [intOf]; omega
    · obtain rfl : j = n := by omega
      rw [List.take_of_length_le (by rw [hB.out.sq.1]; exact Nat.le_refl _)] at hT
      have q0 := tbox_later p0 hT.below
      obtain ⟨e0, e1, -, -⟩ := tbox_cells q0
      have hql := blk_lt q0
      clear hlt hj hAW
      go_wp2_with fail
      clear e0 e1 q0 hql
      go_loopw [47] (fun i wr => CellLoop w1 g (.slice D' j d') v bs j hs (fun q => cloTo j q xs) i wr) (fun i _ => j - (intOf i).toNat)
      case atStart => exact ⟨0, Nat.zero_le _, rfl, hbx, hT⟩
      case round =>
        clear hbx hT
        obtain ⟨o, ho, rfl, hbx, hT⟩ := hrel
        dsimp only at hT
        by_cases hol : o < j
        · have hbn : Bnd j (big o) (cloTo j o xs) := hB.out.to o ho
          have hbg := big_le (j := o) (by omega)
          obtain ⟨M, hM⟩ : ∃ M, big o = M := ⟨_, rfl⟩
          rw [hM] at hbn hbg
          have hmid := hbn.mid hol hbg.1
          have hnx : Hid (cloTo j (o + 1) xs = cloOver o j j (cloTo j o xs)) := hide (cloTo_next _ _ _)
          obtain ⟨m0, hm0⟩ : ∃ m0, cloTo j o xs = m0 := ⟨_, rfl⟩
          rw [hm0] at hT hmid hnx
          replace hmid := hide hmid
          clear hM hm0 hbn
          go_wp2_with fail
          go_loopw [51] (fun i wr => CellLoop w1 g (.slice D' j d') v bs j hs (fun q => cloOver o j q m0) i wr) (fun i _ => j - (intOf i).toNat)
          case atStart => exact ⟨0, Nat.zero_le _, rfl, hbx, hT⟩
          case round =>
            clear hbx hT
            obtain ⟨i, hi, rfl, hbx, hT⟩ := hrel
            dsimp only at hT
            by_cases hil : i < j
            · have hmid2 := hide (Mid.overTo hol i hi hmid.out)
              have hnx2 : Hid (cloOver o j (i + 1) m0 = cloRow o i j (cloOver o j i m0)) := hide (cloOver_next _ _ _ _)
              obtain ⟨m1, hm1⟩ : ∃ m1, cloOver o j i m0 = m1 := ⟨_, rfl⟩
              rw [hm1] at hT hmid2 hnx2
              clear hm1
              go_wp2_with fail
              go_loopw [55] (fun i' wr => CellLoop w1 g (.slice D' j d') v bs j hs (fun q => cloRow o i q m1) i' wr) (fun i' _ => j - (intOf i').toNat)
              case atStart => exact ⟨0, Nat.zero_le _, rfl, hbx, hT⟩
              case round =>
                clear hbx hT
                obtain ⟨k, hk, rfl, hbx, hT⟩ := hrel
                dsimp only at hT
                by_cases hkl : k < j
                · have hmid3 := Mid.rowTo hol hil k hk hmid2.out
                  have hnx3 : Hid (cloRow o i (k + 1) m1 = clo1 o (cloRow o i k m1) i k) := hide (cloRow_next _ _ _ _)
                  obtain ⟨m, hm⟩ : ∃ m, cloRow o i k m1 = m := ⟨_, rfl⟩
                  rw [hm] at hT hmid3 hnx3
                  clear hm
                  obtain ⟨sb, cc, rfl⟩ := hT.slots hmid3.sq.1 (by omega)
                  obtain ⟨bi, ci, -, hsb, hbi, c1, c2, -⟩ := hT.look hmid3.sq hil hol
                  obtain ⟨bj, cj, -, -, hbj, c3, c4, -⟩ := hT.look hmid3.sq hol hkl
                  obtain ⟨e0, e1, -, -⟩ := tbox_cells hbx
                  have hgl := blk_lt hbx
                  have hx0 := hmid3.lo i o hil hol
                  have hx1 := hmid3.col i hil
                  have hy0 := hmid3.lo o k hol hkl
                  have hy1 := hmid3.row k hkl
                  have hz0 := hmid3.lo i k hil hkl
                  have hz1 := hmid3.hi i k hil hkl
                  have hsq := hmid3.sq
                  have hclo : clo1 o m i k = if atM m i o = -1 ∨ atM m o k = -1 then m else if atM m i k = -1 ∨ atM m i o + atM m o k < atM m i k then setM m i k (atM m i o + atM m o k) else m := rfl
                  rw [hclo] at hnx3
                  obtain ⟨x, hx⟩ : ∃ x, atM m i o = x := ⟨_, rfl⟩
                  obtain ⟨y, hy⟩ : ∃ y, atM m o k = y := ⟨_, rfl⟩
                  rw [hx] at hx0 hx1 c2 hnx3
                  rw [hy] at hy0 hy1 c4 hnx3
                  have hw : IntKind.i64.wrap (x + y) = x + y := by rw [IntKind.wrap_i64]; omega
                  have ho0 : (0 : Int) ≤ (o : Int) := by omega
                  have ho1 : (o : Int) < (j : Int) := by omega
                  have hi0 : (0 : Int) ≤ (i : Int) := by omega
                  have hi1 : (i : Int) < (j : Int) := by omega
                  have hk0 : (0 : Int) ≤ (k : Int) := by omega
                  have hk1 : (k : Int) < (j : Int) := by omega
                  clear hx hy hclo hmid3
                  go_upto_region 20 with fail
                  go_cut [12, 13] (fun s12 s13 V => s12 = .int .i64 x ∧ s13 = .int .i64 y ∧ TBox V g (.slice D' j d') (.slice (some ⟨sb, 0, none⟩) j cc) ∧ TC w1 (.slice D' j d') (.slice (some ⟨sb, 0, none⟩) j cc) bs j hs m V)
                  case first =>
                    have hTd := hT.drew
                    have hbd := tbox_drew hbx
                    go_region
                    all_goals
                      go_wp2_with fail
                      go_meet
                      exact ⟨rfl, rfl, by first | exact hbx | exact hbd, by first | exact hT | exact hTd⟩
                  case rest =>
                    clear hbx hT hsb hbi hbj c1 c2 c3 c4 e0 e1 hgl
                    obtain ⟨rfl, rfl, hbx, hT⟩ := hcut
                    have hbd := hbx
                    obtain ⟨bi, ci, hhi, hsb, hbi, c5, c6, f6⟩ := hT.look hsq hil hkl
                    obtain ⟨row, hrow, -⟩ := sq_row hsq hil
                    obtain ⟨e0, e1, -, -⟩ := tbox_cells hbx
                    have hgl := blk_lt hbx
                    have hTs := hide (hT.row apart_way hhi hrow (x + y) (k := k))
                    have hbs := hide (tbox_row (k := k) hbx hT.mat hhi hrow (.int .i64 (x + y)))
                    obtain ⟨z, hz⟩ : ∃ z, atM m i k = z := ⟨_, rfl⟩
                    rw [hz] at hz0 hz1 c6 hnx3
                    clear hz hrow hhi hsq
                    by_cases h1 : x = -1
                    · have hc : Hid (cloRow o i (k + 1) m1 = m) := hide (hnx3.out.trans (if_pos (Or.inl h1)))
                      clear hTs hbs hnx3 c5 c6 f6
                      subst h1
                      go_wp2_with fail
                      go_roundw
                      case rel => exact ⟨k + 1, by omega, by go_num, hbd, hT.sameBox hc.out.symm⟩
                      case measure => simp [intOf]; omega
                    · by_cases h2 : y = -1
                      · have hc : Hid (cloRow o i (k + 1) m1 = m) := hide (hnx3.out.trans (if_pos (Or.inr h2)))
                        clear hTs hbs hnx3 c5 c6 f6
                        subst h2
                        go_wp2_with fail
                        go_roundw
                        case rel => exact ⟨k + 1, by omega, by go_num, hbd, hT.sameBox hc.out.symm⟩
                        case measure => simp [intOf]; omega
                      · have hnx4 : Hid (cloRow o i (k + 1) m1 = if z = -1 ∨ x + y < z then setM m i k (x + y) else m) := hide (hnx3.out.trans (if_neg (fun h => h.elim h1 h2)))
                        clear hnx3
                        by_cases h3 : z = -1
                        · have hc : Hid (cloRow o i (k + 1) m1 = setM m i k (x + y)) := hide (hnx4.out.trans (if_pos (Or.inl h3)))
                          subst h3
                          clear hnx4 hT
                          go_wp2_with fail
                          go_roundw
                          case rel => exact ⟨k + 1, by omega, by go_num, hbs.out, hTs.out.sameBox hc.out.symm⟩
                          case measure => simp [intOf]; omega
                        · by_cases h4 : x + y < z
                          · have hc : Hid (cloRow o i (k + 1) m1 = setM m i k (x + y)) := hide (hnx4.out.trans (if_pos (Or.inr h4)))
                            clear hnx4 hT
                            go_wp2_with fail
                            go_roundw
                            case rel => exact ⟨k + 1, by omega, by go_num, hbs.out, hTs.out.sameBox hc.out.symm⟩
                            case measure => simp [intOf]; omega
                          · have hc : Hid (cloRow o i (k + 1) m1 = m) := hide (hnx4.out.trans (if_neg (fun h => h.elim h3 h4)))
                            clear hTs hbs hnx4
                            go_wp2_with fail
                            go_roundw
                            case rel => exact ⟨k + 1, by omega, by go_num, hbd, hT.sameBox hc.out.symm⟩
                            case measure => simp [intOf]; omega
                · obtain rfl : k = j := by omega
                  go_wp2_with fail
                  go_roundw
                  case rel => exact ⟨i + 1, by omega, by go_num, hbx, hT.sameBox hnx2.out.symm⟩
                  case measure => simp [intOf]; omega
            · obtain rfl : i = j := by omega
              go_wp2_with fail
              go_roundw
              case rel => exact ⟨o + 1, by omega, by go_num, hbx, hT.sameBox hnx.out.symm⟩
              case measure => simp [intOf]; omega
        · obtain rfl : o = j := by omega
          have hsqM : Sq o (cloTo o o xs) := (hB.out.to o (Nat.le_refl _)).sq
          have hcf : closeF o xs = capTo o o (cloTo o o xs) := rfl
          rw [hcf] at hfin
          obtain ⟨M0, hM0⟩ : ∃ M0, cloTo o o xs = M0 := ⟨_, rfl⟩
          rw [hM0] at hT hsqM hfin
          obtain ⟨Av, cv, hv⟩ := hT.mat.form
          rw [hsqM.1] at hv
          subst hv
          obtain ⟨e0, e1, -, -⟩ := tbox_cells hbx
          have hgl := blk_lt hbx
          clear hM0 hcf hB
          go_wp2_with fail
          clear e0 e1 hgl
          go_loopw [113] (fun i wr => CellLoop w1 g (.slice D' o d') (.slice Av o cv) bs o hs (fun q => capTo o q M0) i wr) (fun i _ => o - (intOf i).toNat)
          case atStart => exact ⟨0, Nat.zero_le _, rfl, hbx, hT⟩
          case round =>
            clear hbx hT
            obtain ⟨i, hi, rfl, hbx, hT⟩ := hrel
            dsimp only at hT
            by_cases hil : i < o
            · have hsq1 := sq_cap i hsqM
              have hnx : Hid (capTo o (i + 1) M0 = capRowTo i o (capTo o i M0)) := hide (capTo_next _ _ _)
              obtain ⟨m1, hm1⟩ : ∃ m1, capTo o i M0 = m1 := ⟨_, rfl⟩
              rw [hm1] at hT hsq1 hnx
              obtain ⟨sb, cc, hv⟩ := hT.slots hsq1.1 (by omega)
              injection hv with hv1 _ hv3
              subst hv1 hv3
              obtain ⟨bi, ci, hhi, hsb, hbi, c1, -, -⟩ := hT.look hsq1 hil hil
              have hi0 : (0 : Int) ≤ (i : Int) := by omega
              have hi1 : (i : Int) < (o : Int) := by omega
              clear hm1
              go_wp2_with fail
              clear c1 hsb hbi
              go_loopw [119] (fun i' wr => CellLoop w1 g (.slice D' o d') (.slice (some ⟨sb, 0, none⟩) o cv) bs o hs (fun q => capRowTo i q m1) i' wr) (fun i' _ => o - (intOf i').toNat)
              case atStart => exact ⟨0, Nat.zero_le _, rfl, hbx, hT⟩
              case round =>
                clear hbx hT
                obtain ⟨k, hk, rfl, hbx, hT⟩ := hrel
                dsimp only at hT
                by_cases hkl : k < o
                · have hsq2 := sq_capRow (i := i) k hsq1
                  have hnx2 : Hid (capRowTo i (k + 1) m1 = capE (capRowTo i k m1) i k) := hide (capRowTo_next _ _ _)
                  obtain ⟨m, hm⟩ : ∃ m, capRowTo i k m1 = m := ⟨_, rfl⟩
                  rw [hm] at hT hsq2 hnx2
                  obtain ⟨bi', ci', hhi', -, hbi, -, c6, f6⟩ := hT.look hsq2 hil hkl
                  obtain rfl : bi = bi' := Option.some.inj (hhi.symm.trans hhi')
                  obtain ⟨row, hrow, -⟩ := sq_row hsq2 hil
                  have hcap : capE m i k = setM m i k (min (atM m i k) 24) := rfl
                  rw [hcap] at hnx2
                  obtain ⟨z, hz⟩ : ∃ z, atM m i k = z := ⟨_, rfl⟩
                  rw [hz] at c6 hnx2
                  obtain ⟨u, hu⟩ : ∃ u, min z 24 = u := ⟨_, rfl⟩
                  rw [hu] at hnx2
                  have hTs := hide (hT.row apart_way hhi hrow u (k := k))
                  have hbs := hide (tbox_row (k := k) hbx hT.mat hhi hrow (.int .i64 u))
                  have hk0 : (0 : Int) ≤ (k : Int) := by omega
                  have hk1 : (k : Int) < (o : Int) := by omega
                  clear hm hz hrow hcap hsq2 hT hbx hhi'
                  subst hu
                  go_wp2_with fail
                  go_roundw
                  case rel => exact ⟨k + 1, by omega, by go_num, hbs.out, hTs.out.sameBox hnx2.out.symm⟩
                  case measure => simp [intOf]; omega
                · obtain rfl : k = o := by omega
                  go_wp2_with fail
                  go_roundw
                  case rel => exact ⟨i + 1, by omega, by go_num, hbx, hT.sameBox hnx.out.symm⟩
                  case measure => simp [intOf]; omega
            · obtain rfl : i = o := by omega
              obtain ⟨e0, e1, -, -⟩ := tbox_cells hbx
              have hgl := blk_lt hbx
              have hrr := tbox_later r0 hT.below
              obtain ⟨o0, o1, f0, f1⟩ := tbox_cells hrr
              have hrl2 := blk_lt hrr
              have ho2 : Only rg wr ((wr.setCell ⟨rg, 0, none⟩ (.slice D' i d')).setCell ⟨rg, 1, none⟩ (.slice Av i cv)) := only_setCell (only_setCell (Only.refl rg wr) (Or.inl rfl) _) (Or.inl rfl) _
              obtain ⟨d1, -, d3⟩ := hT.parts ho2 hrr
              have hbf : Below w.heap.size w ((wr.setCell ⟨rg, 0, none⟩ (.slice D' i d')).setCell ⟨rg, 1, none⟩ (.slice Av i cv)) := ext_set (ext_set (ext_trans hb0 hT.below) (p := ⟨rg, 0, none⟩) hpr _) (p := ⟨rg, 1, none⟩) hpr _
              obtain ⟨k0, k1⟩ := two_setT o0 o1 (x := .slice D' i d') (y := .slice Av i cv)
              have hz0 := hb0.size
              clear hT hbx hrr
              go_wp2
              refine end_trav2 rfl rg _ _ _ rfl rfl rfl k0 k1 ?_
              rw [hfin.out]
              exact ⟨D', d', _, hs, rfl, d1.lower hz0, d3.lower hz0, hbf⟩
end Go.Proofs.YtjcfkbichmlgmaaDoor

namespace Go.Proofs.YtjcfkbichmlgmaaDoor
open Go.RowKit
set_option maxRecDepth 100000

def betV (bs : List ByteArray) (xs : List (List Int)) (a b : ByteArray) : Int :=
  if sameS a b = true then 0 else if idxS a bs < 0 then 0 else if idxS b bs < 0 then 0 else
  match xs[(idxS a bs).toNat]? with
  | none => 0
  | some row => match row[(idxS b bs).toNat]? with
    | none => 0
    | some x => if x = -1 then 0 else x
theorem betV_same {bs : List ByteArray} {xs : List (List Int)} {a b : ByteArray} (h : sameS a b = true) : betV bs xs a b = 0 := if_pos h
theorem betV_i {bs : List ByteArray} {xs : List (List Int)} {a b : ByteArray} (h : sameS a b = false) (h1 : idxS a bs < 0) : betV bs xs a b = 0 := by unfold betV; rw [h, if_neg (by simp), if_pos h1]
theorem betV_k {bs : List ByteArray} {xs : List (List Int)} {a b : ByteArray} (h : sameS a b = false) (h1 : ¬ idxS a bs < 0) (h2 : idxS b bs < 0) : betV bs xs a b = 0 := by unfold betV; rw [h, if_neg (by simp), if_neg h1, if_pos h2]
theorem betV_ik {bs : List ByteArray} {xs : List (List Int)} {a b : ByteArray} {i k : Nat} (h : sameS a b = false) (h1 : idxS a bs = i) (h2 : idxS b bs = k) : betV bs xs a b = match xs[i]? with
  | none => 0
  | some row => match row[k]? with
    | none => 0
    | some x => if x = -1 then 0 else x := by unfold betV; rw [h, if_neg (by simp), if_neg (by omega), if_neg (by omega), h1, h2, Int.toNat_natCast, Int.toNat_natCast]
set_option maxHeartbeats 8000000 in
theorem tbetween_walk (D A : Option Addr) (bs : List ByteArray) (xs : List (List Int)) (d c : Nat) (a b : ByteArray) (w : World) (hbl : bs.length ≤ 9223372036854775807) (_hxl : xs.length ≤ 9223372036854775807) (hrl : ∀ x ∈ xs, x.length ≤ 9223372036854775807) (hD : At kStr AnyB w D bs) (hA : At (kSlice kInt) AnyB w A xs) :
    Calls Tryd.prog 13 #[.agg #[.slice D bs.length d, .slice A xs.length c], .string a, .string b] w fun e w' => e = .returned (.int .i64 (betV bs xs a b)) ∧ Below w.heap.size w w' := by
  have hb0 : Below w.heap.size w (w.alloc (.cells #[.slice D bs.length d, .slice A xs.length c] 25)) := (by repeat (first | exact Below.refl _ _ | refine ext_alloc ?_ _ | refine ext_drewN ?_ _ | refine ext_drew ?_ | refine ext_trans ?_ (by assumption)))
  have p0 : TBox (w.alloc (.cells #[.slice D bs.length d, .slice A xs.length c] 25)) w.heap.size (.slice D bs.length d) (.slice A xs.length c) := heap_alloc_new _ _
  obtain ⟨W, hW⟩ : ∃ W, w.alloc (.cells #[.slice D bs.length d, .slice A xs.length c] 25) = W := ⟨_, rfl⟩
  obtain ⟨p, hp⟩ : ∃ p, w.heap.size = p := ⟨_, rfl⟩
  rw [hW] at hb0 p0
  rw [hp] at p0
  have hDW := hD.later hb0
  have hAW := hA.later hb0
  obtain ⟨V, hV⟩ : ∃ V, betV bs xs a b = V := ⟨_, rfl⟩
  rw [hV]
  obtain ⟨x0, hx0⟩ : ∃ x, idxS a bs = x := ⟨_, rfl⟩
  obtain ⟨y0, hy0⟩ : ∃ y, idxS b bs = y := ⟨_, rfl⟩
  obtain ⟨e0, e1, -, -⟩ := tbox_cells p0
  have hpl := blk_lt p0
  have s1 := hide (fun (U : World) (hU : Below W.heap.size W U) => (sindex_walk D bs d a U hbl (hDW.later hU)).mono fun e w' ⟨he, hb⟩ => (⟨by rw [he, hx0], hb ▸ hU, tbox_later p0 (hb ▸ hU)⟩ : e = Ending.returned (.int .i64 x0) ∧ Below W.heap.size W w' ∧ TBox w' p (.slice D bs.length d) (.slice A xs.length c)))
  have s2 := hide (fun (U : World) (hU : Below W.heap.size W U) => (sindex_walk D bs d b U hbl (hDW.later hU)).mono fun e w' ⟨he, hb⟩ => (⟨by rw [he, hy0], hb ▸ hU, tbox_later p0 (hb ▸ hU)⟩ : e = Ending.returned (.int .i64 y0) ∧ Below W.heap.size W w' ∧ TBox w' p (.slice D bs.length d) (.slice A xs.length c)))
  have hrefl := Below.refl W.heap.size W
  replace hW := hide hW
  replace hp := hide hp
  replace hrl := hide hrl
  clear hD hA hDW
  go_enter Tryd.func13, Tryd.ntmps13
  go_upto_region 1 with fail
  rw [hW.out, hp.out]
  go_region_held3 (fun W' => W'.cell? ⟨p, 0, none⟩ = some (.slice D bs.length d)) (first | with_reducible assumption | exact (tbox_cells (by assumption)).1) (first | (go_at_call 30; (with_reducible refine (s1.out _ ?_).mono ?_); (repeat (first | (with_reducible assumption) | (with_reducible refine ext_alloc ?_ _) | (with_reducible refine ext_drew ?_))); rintro e w6 ⟨rfl, hb6, hx6⟩; have q6 := (tbox_cells hx6).1) | (go_at_call 30; (with_reducible refine (s2.out _ ?_).mono ?_); (repeat (first | (with_reducible assumption) | (with_reducible refine ext_alloc ?_ _) | (with_reducible refine ext_drew ?_))); rintro e w7 ⟨rfl, hb7, hx7⟩; have q7 := (tbox_cells hx7).1))
  have hbw := ext_trans hb0 hb7
  obtain ⟨-, e7, -, -⟩ := tbox_cells hx7
  have hpl7 := blk_lt hx7
  have hAw := hAW.later hb7
  clear hb0 hb6 hb7 hx6 hx7 q6 s1 s2 hrefl hW hp p0 e0 e1 hpl hAW
  cases hs : sameS a b with
  | true =>
    have hVV : Hid (V = 0) := hide (hV.symm.trans (betV_same hs))
    have hq : (a.toList == b.toList) = true := hs
    clear hV hx0 hy0 hAw hs
    go_wp2
    all_goals first | (exfalso; omega) | (go_ret; exact ⟨by rw [hVV.out]; rfl, hbw⟩)
  | false =>
    have hq : (a.toList == b.toList) = false := hs
    by_cases g0 : x0 < 0
    · have hVV : Hid (V = 0) := hide (hV.symm.trans (betV_i hs (by rw [hx0]; exact g0)))
      clear hV hx0 hy0 hAw hs
      go_wp2
      all_goals first | (exfalso; omega) | (go_ret; exact ⟨by rw [hVV.out]; rfl, hbw⟩)
    · by_cases g1 : y0 < 0
      · have hVV : Hid (V = 0) := hide (hV.symm.trans (betV_k hs (by rw [hx0]; exact g0) (by rw [hy0]; exact g1)))
        clear hV hx0 hy0 hAw hs
        go_wp2
        all_goals first | (exfalso; omega) | (go_ret; exact ⟨by rw [hVV.out]; rfl, hbw⟩)
      · obtain ⟨i, rfl⟩ := Int.eq_ofNat_of_zero_le (by omega : 0 ≤ x0)
        obtain ⟨k, rfl⟩ := Int.eq_ofNat_of_zero_le (by omega : 0 ≤ y0)
        have hbv := hV.symm.trans (betV_ik (xs := xs) hs hx0 hy0)
        have hi0 : (0 : Int) ≤ (i : Int) := by omega
        have hk0 : (0 : Int) ≤ (k : Int) := by omega
        clear hV hx0 hy0 hs
        by_cases hi : i < xs.length
        · obtain ⟨row, hrow⟩ : ∃ row, xs[i]? = some row := ⟨_, List.getElem?_eq_getElem hi⟩
          rw [hrow] at hbv
          dsimp only at hbv
          obtain ⟨ab, off, F, fc, rfl, -, hab, k0, -, hF⟩ := hAw.slice hrow
          have hi1 : (i : Int) < (xs.length : Int) := by omega
          have hrl2 := hrl.out row (List.mem_of_getElem? hrow)
          clear hrow hAw
          by_cases hk : k < row.length
          · obtain ⟨x, hx⟩ : ∃ x, row[k]? = some x := ⟨_, List.getElem?_eq_getElem hk⟩
            rw [hx] at hbv
            dsimp only at hbv
            obtain ⟨fb, fo, rfl, -, hfb, k1⟩ := hF.int hx
            have hk1 : (k : Int) < (row.length : Int) := by omega
            clear hx hF
            by_cases hx1 : x = -1
            · have hVV : Hid (V = 0) := hide (hbv.trans (if_pos hx1))
              subst hx1
              clear hbv
              go_wp2
              all_goals first | (exfalso; omega) | (go_ret; exact ⟨by rw [hVV.out]; rfl, hbw⟩)
            · have hVV : Hid (V = x) := hide (hbv.trans (if_neg hx1))
              clear hbv
              go_wp2
              all_goals first | (exfalso; omega) | (go_ret; exact ⟨by rw [hVV.out]; rfl, hbw⟩)
          · rw [List.getElem?_eq_none (by omega)] at hbv
            have hVV : Hid (V = 0) := hide hbv
            have hk1 : ¬ (k : Int) < (row.length : Int) := by omega
            clear hbv hF
            go_wp2
            all_goals first | (exfalso; omega) | (go_ret; exact ⟨by rw [hVV.out]; rfl, hbw⟩)
        · rw [List.getElem?_eq_none (by omega)] at hbv
          have hVV : Hid (V = 0) := hide hbv
          have hi1 : ¬ (i : Int) < (xs.length : Int) := by omega
          clear hbv hAw
          go_wp2
          all_goals first | (exfalso; omega) | (go_ret; exact ⟨by rw [hVV.out]; rfl, hbw⟩)
end Go.Proofs.YtjcfkbichmlgmaaDoor

namespace Go.Proofs.YtjcfkbichmlgmaaDoor
open Go.RowKit
set_option maxRecDepth 100000

def wA : ByteArray := ⟨#[65]⟩
def wB : ByteArray := ⟨#[66]⟩
def wC : ByteArray := ⟨#[67]⟩
def w1B : ByteArray := ⟨#[49]⟩
def w2B : ByteArray := ⟨#[50]⟩
def wRecs : List Rec := plainR 1 [[wA, wB, w1B], [wB, wC, w2B]]
theorem w8ps : (readWays wRecs).ps = [] := by kernel_rfl
theorem w8val : validT (bldV (readWays wRecs).ls) (tabM (bldV (readWays wRecs).ls) (readWays wRecs).ls) = 0 := by kernel_rfl
theorem w8a : betV (bldV (readWays wRecs).ls) (tabM (bldV (readWays wRecs).ls) (readWays wRecs).ls) wA wC = 0 := by kernel_rfl
theorem w8b : betV (bldV (readWays wRecs).ls) (closeF (bldV (readWays wRecs).ls).length (tabM (bldV (readWays wRecs).ls) (readWays wRecs).ls)) wA wC = 3 := by kernel_rfl
theorem w8c : betV (bldV (readWays wRecs).ls) (closeF (bldV (readWays wRecs).ls).length (tabM (bldV (readWays wRecs).ls) (readWays wRecs).ls)) wC wB = 2 := by kernel_rfl
theorem w8n : (bldV (readWays wRecs).ls).length = 3 := by kernel_rfl
theorem heap3 (w : World) (o1 o2 o3 : Obj) : (((w.alloc o1).alloc o2).alloc o3).heap[w.heap.size]? = some o1 ∧ (((w.alloc o1).alloc o2).alloc o3).heap[w.heap.size + 1]? = some o2 ∧ (((w.alloc o1).alloc o2).alloc o3).heap[w.heap.size + 2]? = some o3 :=
  ⟨block_after (block_after (heap_alloc_new _ _)), block_after (heap_new2 _ _ _), heap_new3 _ _ _ _⟩
set_option maxHeartbeats 8000000 in
theorem awake08_walk (w : World) :
    Calls Tryd.prog 4 #[] w fun e w' => e = .returned (.bool true) ∧ Below w.heap.size w w' := by
  have hh := heap3 w (.cells #[.string ⟨#[65]⟩, .string ⟨#[66]⟩, .string ⟨#[49]⟩] 9) (.cells #[.string ⟨#[66]⟩, .string ⟨#[67]⟩, .string ⟨#[50]⟩] 9) (.cells #[.slice (some ⟨w.heap.size, 0, none⟩) 3 3, .slice (some ⟨w.heap.size + 1, 0, none⟩) 3 3] 22)
  have hb0 : Below w.heap.size w (((w.alloc (.cells #[.string ⟨#[65]⟩, .string ⟨#[66]⟩, .string ⟨#[49]⟩] 9)).alloc (.cells #[.string ⟨#[66]⟩, .string ⟨#[67]⟩, .string ⟨#[50]⟩] 9)).alloc (.cells #[.slice (some ⟨w.heap.size, 0, none⟩) 3 3, .slice (some ⟨w.heap.size + 1, 0, none⟩) 3 3] 22)) := (by repeat (first | exact Below.refl _ _ | refine ext_alloc ?_ _ | refine ext_drewN ?_ _ | refine ext_drew ?_ | refine ext_trans ?_ (by assumption)))
  obtain ⟨W, hW⟩ : ∃ W, ((w.alloc (.cells #[.string ⟨#[65]⟩, .string ⟨#[66]⟩, .string ⟨#[49]⟩] 9)).alloc (.cells #[.string ⟨#[66]⟩, .string ⟨#[67]⟩, .string ⟨#[50]⟩] 9)).alloc (.cells #[.slice (some ⟨w.heap.size, 0, none⟩) 3 3, .slice (some ⟨w.heap.size + 1, 0, none⟩) 3 3] 22) = W := ⟨_, rfl⟩
  rw [hW] at hh hb0
  obtain ⟨h1, h2, h3⟩ := hh
  have l3 := blk_lt h3
  have hX : ListsIn W.heap.size W (some ⟨w.heap.size + 2, 0, none⟩) [[wA, wB, w1B], [wB, wC, w2B]] := by
    intro _
    refine ⟨w.heap.size + 2, 0, rfl, l3, fun j x hx => ?_⟩
    match j, hx with
    | 0, hx =>
      simp at hx
      subst hx
      refine ⟨some ⟨w.heap.size, 0, none⟩, 3, by rw [cell_of_row W _ _ _ _ _ h3]; rfl, fun _ => ⟨w.heap.size, 0, rfl, blk_lt h1, fun k z hz => ?_⟩⟩
      match k, hz with
      | 0, hz => simp at hz; subst hz; rw [cell_of_row W _ _ _ _ _ h1]; rfl
      | 1, hz => simp at hz; subst hz; rw [cell_of_row W _ _ _ _ _ h1]; rfl
      | 2, hz => simp at hz; subst hz; rw [cell_of_row W _ _ _ _ _ h1]; rfl
      | k + 3, hz => simp at hz
    | 1, hx =>
      simp at hx
      subst hx
      refine ⟨some ⟨w.heap.size + 1, 0, none⟩, 3, by rw [cell_of_row W _ _ _ _ _ h3]; rfl, fun _ => ⟨w.heap.size + 1, 0, rfl, blk_lt h2, fun k z hz => ?_⟩⟩
      match k, hz with
      | 0, hz => simp at hz; subst hz; rw [cell_of_row W _ _ _ _ _ h2]; rfl
      | 1, hz => simp at hz; subst hz; rw [cell_of_row W _ _ _ _ _ h2]; rfl
      | 2, hz => simp at hz; subst hz; rw [cell_of_row W _ _ _ _ _ h2]; rfl
      | k + 3, hz => simp at hz
    | j + 2, hx => simp at hx
  have hpl := plain_walk (some ⟨w.heap.size + 2, 0, none⟩) [[wA, wB, w1B], [wB, wC, w2B]] 2 W hX (by decide) (by decide)
  have hpl2 : Calls Tryd.prog 16 #[.slice (some ⟨w.heap.size + 2, 0, none⟩) 2 2] W fun e w' => ∃ v, e = .returned v ∧ RecsOwn W.heap.size w' v wRecs ∧ Below W.heap.size W w' := hpl
  have hn := w8n
  have hps := w8ps
  have hval := w8val
  have hba := w8a
  have hbb := w8b
  have hbc := w8c
  have hrl : wRecs.length = 2 := by kernel_rfl
  have hrs : ∀ r ∈ wRecs, ∀ f ∈ r.2, f.1.size < 1073741824 := by decide
  have hread := fun (A : Option Addr) (cap : Nat) (V : World) (hR : RecsAt V.heap.size V A wRecs) => tread_walk A wRecs cap V hR (by rw [hrl]; decide) hrs
  unfold TravGives at hread
  obtain ⟨nm, hnm⟩ : ∃ nm, bldV (readWays wRecs).ls = nm := ⟨_, rfl⟩
  obtain ⟨m, hm⟩ : ∃ m, tabM nm (readWays wRecs).ls = m := ⟨_, rfl⟩
  rw [hnm, hm, hps, hrl] at hread
  rw [hnm, hm] at hval hba
  rw [hnm] at hn
  rw [hnm, hm] at hbb hbc
  obtain ⟨m4, hm4⟩ : ∃ m4, closeF nm.length m = m4 := ⟨_, rfl⟩
  rw [hm4] at hbb hbc
  have hba : betV nm m ⟨#[65]⟩ ⟨#[67]⟩ = 0 := hba
  have hbb : betV nm m4 ⟨#[65]⟩ ⟨#[67]⟩ = 3 := hbb
  have hbc : betV nm m4 ⟨#[67]⟩ ⟨#[66]⟩ = 2 := hbc
  obtain ⟨R, hR⟩ : ∃ R, wRecs = R := ⟨_, rfl⟩
  rw [hR] at hpl2 hread hrl
  replace hrl := hide hrl
  replace hm4 := hide hm4
  replace hread := hide hread
  replace hW := hide hW
  replace hn := hide hn
  replace hval := hide hval
  replace hba := hide hba
  replace hbb := hide hbb
  replace hbc := hide hbc
  clear hpl hX h1 h2 h3 l3 hnm hm hps hrs hR
  go_enter Tryd.func4, Tryd.ntmps4
  go_wp2_with fail
  rw [hW.out]
  clear hW
  refine hpl2.mono ?_
  clear hpl2
  rintro e w1 ⟨v, rfl, hRo, hb1⟩
  obtain ⟨A1, c1, rfl⟩ : ∃ A1 c1, v = .slice A1 2 c1 := by obtain ⟨us, -, h, -⟩ := hRo; have := owns_form h; rw [hrl.out] at this; exact this
  have hR1 := recs_at hRo
  replace hb0 := ext_trans hb0 hb1
  clear hRo hb1
  go_wp2_with fail
  refine (hread.out A1 c1 w1 hR1).mono ?_
  clear hread hR1
  rintro e w2 ⟨A2, c2, v2, hs, u6, rfl, hN, hM, hP, hb2⟩
  obtain ⟨A8, c8, rfl⟩ : ∃ A8 c8, u6 = .slice A8 0 c8 := owns_form hP
  have hml : ∀ x ∈ m, x.length ≤ 9223372036854775807 := fun x hx => by
    obtain ⟨j, hj⟩ := List.getElem?_of_mem hx
    obtain ⟨h, -, hr⟩ := hM.at_ hj
    have h1 := row_len hr
    have h2 := hn.out
    omega
  obtain ⟨Am, cm, rfl, hcm, hAm⟩ := hM.any
  have hcap := hN.cap
  have hNa := hN.any'.any
  have hmm : m.length ≤ 9223372036854775807 := by have := hM.own.le; rw [hM.len] at this; exact this
  replace hb0 := ext_trans hb0 hb2
  clear hN hM hP hb2
  have hbx : TBox (w2.alloc (.cells #[.slice A2 nm.length c2, .slice Am m.length cm] 25)) w2.heap.size (.slice A2 nm.length c2) (.slice Am m.length cm) := heap_alloc_new _ _
  have hb3 : Below w2.heap.size w2 (w2.alloc (.cells #[.slice A2 nm.length c2, .slice Am m.length cm] 25)) := ext_alloc (Below.refl _ _) _
  obtain ⟨w3, hw3⟩ : ∃ w3, w2.alloc (.cells #[.slice A2 nm.length c2, .slice Am m.length cm] 25) = w3 := ⟨_, rfl⟩
  obtain ⟨g1, hg1⟩ : ∃ g, w2.heap.size = g := ⟨_, rfl⟩
  rw [hw3] at hbx hb3
  replace hNa := hNa.later hb3
  replace hAm := hAm.later hb3
  replace hb0 := ext_trans hb0 hb3
  rw [hg1] at hbx
  replace hw3 := hide hw3
  replace hg1 := hide hg1
  clear hb3
  have hcl := tclose_walk A2 Am nm m c2 cm w3 hcap hval.out hNa hAm
  go_upto_region 2 with fail
  rw [hw3.out, hg1.out]
  clear hw3 hg1
  obtain ⟨e0, e1, -, -⟩ := tbox_cells hbx
  have hgl := blk_lt hbx
  go_wp2_with fail
  refine hcl.mono ?_
  clear hcl e0 e1 hgl
  rintro e w4 ⟨D4, d4, v4, hs4, rfl, hN4, hM4, hb4⟩
  rw [hm4.out] at hM4
  have hml4 : ∀ x ∈ m4, x.length ≤ 9223372036854775807 := fun x hx => by
    obtain ⟨j, hj⟩ := List.getElem?_of_mem hx
    obtain ⟨h, -, hr⟩ := hM4.at_ hj
    have h1 := row_len hr
    have h2 := hn.out
    omega
  obtain ⟨A4, c4, rfl, hc4, hA4⟩ := hM4.any
  have hN4a := hN4.any'.any
  have hmm4 : m4.length ≤ 9223372036854775807 := by have := hM4.own.le; rw [hM4.len] at this; exact this
  replace hb0 := ext_trans hb0 hb4
  replace hNa := hNa.later hb4
  replace hAm := hAm.later hb4
  replace hbx := tbox_later hbx hb4
  clear hN4 hM4 hb4
  have hbx2 : TBox (w4.alloc (.cells #[.slice D4 nm.length d4, .slice A4 m4.length c4] 25)) w4.heap.size (.slice D4 nm.length d4) (.slice A4 m4.length c4) := heap_alloc_new _ _
  have hb5 : Below w4.heap.size w4 (w4.alloc (.cells #[.slice D4 nm.length d4, .slice A4 m4.length c4] 25)) := ext_alloc (Below.refl _ _) _
  obtain ⟨w5, hw5⟩ : ∃ w5, w4.alloc (.cells #[.slice D4 nm.length d4, .slice A4 m4.length c4] 25) = w5 := ⟨_, rfl⟩
  obtain ⟨g2, hg2⟩ : ∃ g, w4.heap.size = g := ⟨_, rfl⟩
  rw [hw5] at hbx2 hb5
  replace hNa := hNa.later hb5
  replace hAm := hAm.later hb5
  replace hN4a := hN4a.later hb5
  replace hA4 := hA4.later hb5
  replace hbx := tbox_later hbx hb5
  replace hb0 := ext_trans hb0 hb5
  rw [hg2] at hbx2
  replace hw5 := hide hw5
  replace hg2 := hide hg2
  clear hb5
  have hnl : nm.length ≤ 9223372036854775807 := by rw [hn.out]; decide
  go_upto_region 3 with fail
  rw [hw5.out, hg2.out]
  clear hw5 hg2
  have hc1 := tbetween_walk A2 Am nm m c2 cm ⟨#[65]⟩ ⟨#[67]⟩ w5 hnl hmm hml hNa hAm
  rw [hba.out] at hc1
  obtain ⟨e0, e1, -, -⟩ := tbox_cells hbx
  have hgl := blk_lt hbx
  go_wp2_with fail
  refine hc1.mono ?_
  clear hc1 e0 e1 hgl
  rintro e w6 ⟨rfl, hb6⟩
  replace hN4a := hN4a.later hb6
  replace hA4 := hA4.later hb6
  replace hbx2 := tbox_later hbx2 hb6
  replace hb0 := ext_trans hb0 hb6
  have hc2 := tbetween_walk D4 A4 nm m4 d4 c4 ⟨#[65]⟩ ⟨#[67]⟩ w6 hnl hmm4 hml4 hN4a hA4
  rw [hbb.out] at hc2
  obtain ⟨e0, e1, -, -⟩ := tbox_cells hbx2
  have hgl := blk_lt hbx2
  clear hb6 hNa hAm hbx
  go_wp2_with fail
  refine hc2.mono ?_
  clear hc2 e0 e1 hgl
  rintro e w7 ⟨rfl, hb7⟩
  replace hN4a := hN4a.later hb7
  replace hA4 := hA4.later hb7
  replace hbx2 := tbox_later hbx2 hb7
  replace hb0 := ext_trans hb0 hb7
  have hc3 := tbetween_walk D4 A4 nm m4 d4 c4 ⟨#[67]⟩ ⟨#[66]⟩ w7 hnl hmm4 hml4 hN4a hA4
  rw [hbc.out] at hc3
  obtain ⟨e0, e1, -, -⟩ := tbox_cells hbx2
  have hgl := blk_lt hbx2
  clear hb7
  go_wp2_with fail
  refine hc3.mono ?_
  clear hc3 e0 e1 hgl
  rintro e w8 ⟨rfl, hb8⟩
  clear hml hml4 hval hba hbb hbc hn
  go_wp2
  go_ret
  exact ⟨rfl, ext_trans hb0 hb8⟩
end Go.Proofs.YtjcfkbichmlgmaaDoor
