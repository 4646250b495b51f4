/- Walks of slices.Index and Contains at strings, and timetableref08.place. Conditions: the cells. Walks of package travel: ways, their buildings. Conditions: the cells. -/
import Derived.Test.YtjcfkbichmlgmaaDoorKOwnB
import Derived.Test.YtjcfkbichmlgmaaDoorKAwake9
import Derived.Maps.Range
namespace Go.Proofs.YtjcfkbichmlgmaaDoor
open Go.RowKit
set_option maxRecDepth 100000

/-- The first index of a string, -1 if there is none. -/
def idxFrom (z : ByteArray) : List ByteArray → Int → Int
  | [], _ => -1
  | x :: r, i => if x.toList == z.toList then i else idxFrom z r (i + 1)
def idxS (z : ByteArray) (xs : List ByteArray) : Int := idxFrom z xs 0
theorem idxFrom_miss (z : ByteArray) : ∀ (l r : List ByteArray) (i : Int), (∀ x ∈ l, (x.toList == z.toList) = false) → idxFrom z (l ++ r) i = idxFrom z r (i + l.length)
  | [], r, i, _ => by simp
  | x :: l, r, i, h => by
    rw [List.cons_append, idxFrom, if_neg (by simp [h x (by simp)]), idxFrom_miss z l r (i + 1) (fun y hy => h y (by simp [hy]))]
    congr 1
    simp only [List.length_cons]
    omega
theorem idxS_hit {z x : ByteArray} {xs : List ByteArray} {j : Nat} (hx : xs[j]? = some x) (h0 : ∀ y ∈ xs.take j, (y.toList == z.toList) = false) (h : (x.toList == z.toList) = true) : idxS z xs = j := by
  have hjl := (List.getElem?_eq_some_iff.1 hx).1
  have he : xs = xs.take j ++ x :: xs.drop (j + 1) := by
    conv => lhs; rw [← List.take_append_drop j xs]
    rw [List.drop_eq_getElem_cons hjl]
    congr 2
    have := List.getElem?_eq_getElem hjl
    rw [hx] at this
    exact (Option.some.inj this).symm
  unfold idxS
  rw [he, idxFrom_miss z _ _ _ h0, idxFrom, if_pos h, List.length_take]
  omega
theorem idxS_none {z : ByteArray} {xs : List ByteArray} (h0 : ∀ y ∈ xs, (y.toList == z.toList) = false) : idxS z xs = -1 := by
  have := idxFrom_miss z xs [] 0 h0
  rw [List.append_nil] at this
  exact this
theorem take_miss {z x : ByteArray} {xs : List ByteArray} {j : Nat} (hx : xs[j]? = some x) (h0 : ∀ y ∈ xs.take j, (y.toList == z.toList) = false) (h : (x.toList == z.toList) = false) : ∀ y ∈ xs.take (j + 1), (y.toList == z.toList) = false := by
  intro y hy
  rw [List.take_add_one, hx] at hy
  rcases List.mem_append.1 hy with h1 | h1
  · exact h0 y h1
  · simp at h1; subst h1; exact h
-- <index>
set_option maxHeartbeats 2000000 in
theorem sindex_walk (A : Option Addr) (xs : List ByteArray) (c : Nat) (z : ByteArray) (w : World) (hn : xs.length ≤ 9223372036854775807) (h : At kStr AnyB w A xs) :
    Calls Tryd.prog 30 #[.slice A xs.length c, .string z] w fun e w' => e = .returned (.int .i64 (idxS z xs)) ∧ w = w' := by
  obtain ⟨n, hnn⟩ : ∃ n, xs.length = n := ⟨_, rfl⟩
  rw [hnn] at hn ⊢
  replace hnn := hide hnn
  go_enter Tryd.func30, Tryd.ntmps30
  go_wp2
  go_loop [5, 8] (fun _ i => ∃ j : Nat, j ≤ n ∧ i = .int .i64 j ∧ Hid (∀ y ∈ xs.take j, (y.toList == z.toList) = false)) (fun _ i => n - (intOf i).toNat)
  case atStart => exact ⟨0, Nat.zero_le _, rfl, hide (fun y hy => by simp at hy)⟩
  case round =>
    obtain ⟨j, hj, rfl, ho⟩ := hrel
    by_cases hlt : j < n
    · obtain ⟨x, hx⟩ : ∃ x, xs[j]? = some x := ⟨_, List.getElem?_eq_getElem (by rw [hnn.out]; exact hlt)⟩
      obtain ⟨b, off, rfl, -, hb, k0⟩ := h.str hx
      have hj0 : (0 : Int) ≤ (j : Int) := by omega
      have hj1 : (j : Int) < (n : Int) := by omega
      cases hq : (x.toList == z.toList) with
      | true =>
        have hq' : (z.toList == x.toList) = true := by rw [beq_iff_eq] at hq ⊢; exact hq.symm
        have hit := hide (idxS_hit hx ho.out hq)
        clear hx h ho
        go_wp2
        go_ret
        exact ⟨by rw [hit.out]; rfl, rfl⟩
      | false =>
        have hq' : (z.toList == x.toList) = false := by rw [beq_eq_false_iff_ne] at hq ⊢; exact fun e => hq e.symm
        have miss := hide (take_miss hx ho.out hq)
        clear hx h ho
        go_wp2
        go_round
        case rel => exact ⟨j + 1, by omega, by go_num, miss⟩
        case measure => simp [intOf]; omega
    · obtain rfl : j = n := by omega
      have hall : Hid (idxS z xs = -1) := hide (idxS_none fun y hy => ho.out y (by rw [← hnn.out, List.take_length]; exact hy))
      go_wp2
      go_ret
      exact ⟨by rw [hall.out]; rfl, rfl⟩
-- </index>
theorem scontains_walk (A : Option Addr) (xs : List ByteArray) (c : Nat) (z : ByteArray) (w : World) (hn : xs.length ≤ 9223372036854775807) (h : At kStr AnyB w A xs) :
    Calls Tryd.prog 23 #[.slice A xs.length c, .string z] w fun e w' => e = .returned (.bool (decide (0 ≤ idxS z xs))) ∧ w = w' := by
  go_enter Tryd.func23, Tryd.ntmps23
  go_wp2_with fail
  refine (sindex_walk A xs c z w hn h).mono ?_
  rintro e w' ⟨rfl, rfl⟩
  go_wp2
  go_ret
  exact ⟨rfl, rfl⟩
set_option maxHeartbeats 2000000 in
theorem r8place_walk (A : Option Addr) (xs : List ByteArray) (c : Nat) (z : ByteArray) (w : World) (hn : xs.length ≤ 9223372036854775807) (h : At kStr AnyB w A xs) :
    Calls Tryd.prog 27 #[.slice A xs.length c, .string z] w fun e w' => e = .returned (.int .i64 (idxS z xs)) ∧ w = w' := by
  obtain ⟨n, hnn⟩ : ∃ n, xs.length = n := ⟨_, rfl⟩
  rw [hnn] at hn ⊢
  replace hnn := hide hnn
  go_enter Tryd.func27, Tryd.ntmps27
  go_wp2
  go_loop [5] (fun i => ∃ j : Nat, j ≤ n ∧ i = .int .i64 j ∧ Hid (∀ y ∈ xs.take j, (y.toList == z.toList) = false)) (fun i => n - (intOf i).toNat)
  case atStart => exact ⟨0, Nat.zero_le _, rfl, hide (fun y hy => by simp at hy)⟩
  case round =>
    obtain ⟨j, hj, rfl, ho⟩ := hrel
    by_cases hlt : j < n
    · obtain ⟨x, hx⟩ : ∃ x, xs[j]? = some x := ⟨_, List.getElem?_eq_getElem (by rw [hnn.out]; exact hlt)⟩
      obtain ⟨b, off, rfl, -, hb, k0⟩ := h.str hx
      have hj0 : (0 : Int) ≤ (j : Int) := by omega
      have hj1 : (j : Int) < (n : Int) := by omega
      cases hq : (x.toList == z.toList) with
      | true =>
        have hq' : (z.toList == x.toList) = true := by rw [beq_iff_eq] at hq ⊢; exact hq.symm
        have hit := hide (idxS_hit hx ho.out hq)
        clear hx h ho
        go_wp2
        go_ret
        exact ⟨by rw [hit.out]; rfl, rfl⟩
      | false =>
        have hq' : (z.toList == x.toList) = false := by rw [beq_eq_false_iff_ne] at hq ⊢; exact fun e => hq e.symm
        have miss := hide (take_miss hx ho.out hq)
        clear hx h ho
        go_wp2
        go_round
        case rel => exact ⟨j + 1, by omega, by go_num, miss⟩
        case measure => simp [intOf]; omega
    · obtain rfl : j = n := by omega
      have hall : Hid (idxS z xs = -1) := hide (idxS_none fun y hy => ho.out y (by rw [← hnn.out, List.take_length]; exact hy))
      go_wp2
      go_ret
      exact ⟨by rw [hall.out]; rfl, rfl⟩
end Go.Proofs.YtjcfkbichmlgmaaDoor

namespace Go.Proofs.YtjcfkbichmlgmaaDoor
open Go.RowKit
set_option maxRecDepth 100000

/-- A way: two buildings, slots. -/
abbrev Way := ByteArray × ByteArray × Int
def kWay : Kind Way := kPair kStr (kPair kStr kInt)
theorem way_get {S : Nat → Prop} {w : World} {A : Option Addr} {ls : List Way} (h : At kWay S w A ls) {j : Nat} {l : Way} (hj : ls[j]? = some l) :
    ∃ b off, A = some ⟨b, off, none⟩ ∧ S b ∧ b < w.heap.size ∧ w.cell? ⟨b, off + j * 3, none⟩ = some (.string l.1) ∧ w.cell? ⟨b, off + j * 3 + 1, none⟩ = some (.string l.2.1) ∧ w.cell? ⟨b, off + j * 3 + 2, none⟩ = some (.int .i64 l.2.2) := by
  obtain ⟨b, off, vs, e, hs, hlt, ⟨us, ts, rfl, h1, us2, ts2, rfl, h2, h3⟩, hcell⟩ := h.get hj
  rw [rep_str] at h1 h2
  rw [rep_int] at h3
  subst h1 h2 h3
  exact ⟨b, off, e, hs, hlt, hcell 0 _ rfl, hcell 1 _ rfl, hcell 2 _ rfl⟩
theorem apd_ways : Apd Tryd.prog 55 59 3 40 := apd Tryd.underlying55 (z := .agg #[.string ⟨#[]⟩, .string ⟨#[]⟩, .int .i64 0]) (by kernel_rfl) rfl
/-- Two ways are between the same buildings. -/
def sameW (x y : Way) : Bool := (sameS x.1 y.1 && sameS x.2.1 y.2.1) || (sameS x.1 y.2.1 && sameS x.2.1 y.1)
set_option maxHeartbeats 2000000 in
theorem same_walk (x y : Way) (w : World) :
    Calls Tryd.prog 38 #[.agg #[.string x.1, .string x.2.1, .int .i64 x.2.2], .agg #[.string y.1, .string y.2.1, .int .i64 y.2.2]] w fun e w' => e = .returned (.bool (sameW x y)) ∧ Below w.heap.size w w' := by
  obtain ⟨a, b, n⟩ := x
  obtain ⟨c, d, m⟩ := y
  dsimp only
  have h : sameW (a, b, n) (c, d, m) = ((sameS a c && sameS b d) || (sameS a d && sameS b c)) := rfl
  rw [h]
  clear h
  unfold sameS
  cases h1 : (a.toList == c.toList) <;> cases h2 : (b.toList == d.toList) <;> cases h3 : (a.toList == d.toList) <;> cases h4 : (b.toList == c.toList)
  all_goals
    go_enter Tryd.func38, Tryd.ntmps38
    go_wp2
    go_ret
    exact ⟨rfl, (by repeat (first | exact Below.refl _ _ | refine ext_alloc ?_ _ | refine ext_drewN ?_ _ | refine ext_drew ?_ | refine ext_trans ?_ (by assumption)))⟩
/-- A building among others. -/
def addS (l : List ByteArray) (z : ByteArray) : List ByteArray := if 0 ≤ idxS z l then l else l ++ [z]
def addV (l : List ByteArray) (x : Way) : List ByteArray := addS (addS l x.1) x.2.1
theorem addS_len (l : List ByteArray) (z : ByteArray) : (addS l z).length ≤ l.length + 1 := by unfold addS; split <;> simp
def AddEnd (B : Nat) (w : World) (v0 : Value) (l : List ByteArray) (x : Way) (e : Ending) (w' : World) : Prop :=
  ∃ A c, e = .returned (.slice A (addV l x).length c) ∧ Own kStr 9 [] 0 B w' (.slice A (addV l x).length c) (addV l x) ∧ w.grownBy w' v0.ownBlock ∧ ∀ y, (Value.slice A (addV l x).length c).ownBlock = some y → v0.ownBlock = some y ∨ w.heap.size ≤ y
/-- What was added of the two. -/
def addTo (l : List ByteArray) (x : Way) : Nat → List ByteArray
  | 0 => l
  | 1 => addS l x.1
  | _ => addV l x
def AddLoop (B gb : Nat) (w : World) (v0 : Value) (l : List ByteArray) (x : Way) (v i : Value) (wr : World) : Prop :=
  ∃ (j : Nat) (A : Option Addr) (c : Nat), j ≤ 2 ∧ i = .int .i64 j ∧ v = .slice A (addTo l x j).length c ∧ Own kStr 9 [] 0 B wr v (addTo l x j) ∧ w.grownBy wr v0.ownBlock ∧ (∀ y, v.ownBlock = some y → v0.ownBlock = some y ∨ gb < y) ∧ wr.cell? ⟨gb, 0, none⟩ = some (.string x.1) ∧ wr.cell? ⟨gb, 1, none⟩ = some (.string x.2.1) ∧ gb < wr.heap.size
theorem addTo_step {l : List ByteArray} {x : Way} {j : Nat} (hj : j < 2) : addTo l x (j + 1) = addS (addTo l x j) (if j = 0 then x.1 else x.2.1) := by
  match j, hj with
  | 0, _ => rfl
  | 1, _ => rfl
theorem addTo_len (l : List ByteArray) (x : Way) (j : Nat) : (addTo l x j).length ≤ l.length + 2 := by
  match j with
  | 0 => exact Nat.le_add_right _ _
  | 1 => have := addS_len l x.1; show (addS l x.1).length ≤ _; omega
  | j + 2 => have h1 := addS_len l x.1; have h2 := addS_len (addS l x.1) x.2.1; show (addS (addS l x.1) x.2.1).length ≤ _; omega
set_option maxHeartbeats 4000000 in
theorem add_walk (B : Nat) (A : Option Addr) (l : List ByteArray) (c : Nat) (x : Way) (w : World) (hown : Own kStr 9 [] 0 B w (.slice A l.length c) l) (hB : B ≤ w.heap.size) (hl : l.length ≤ 3000000000) :
    Calls Tryd.prog 39 #[.agg #[.string x.1, .string x.2.1, .int .i64 x.2.2], .slice A l.length c] w fun e w' => AddEnd B w (.slice A l.length c) l x e w' := by
  obtain ⟨a, b, n⟩ := x
  dsimp only
  have hb0 : Below w.heap.size w ((w.alloc (.cells #[.string a, .string b, .int .i64 n] 59)).alloc (.cells #[.string a, .string b] 9)) := (by repeat (first | exact Below.refl _ _ | refine ext_alloc ?_ _ | refine ext_drewN ?_ _ | refine ext_drew ?_ | refine ext_trans ?_ (by assumption)))
  have hown0 := hown.later hb0
  have k0 : ((w.alloc (.cells #[.string a, .string b, .int .i64 n] 59)).alloc (.cells #[.string a, .string b] 9)).cell? ⟨w.heap.size + 1, 0, none⟩ = some (.string a) := by rw [cell_of_row _ _ _ _ _ _ (heap_new2 _ _ _)]; rfl
  have k1 : ((w.alloc (.cells #[.string a, .string b, .int .i64 n] 59)).alloc (.cells #[.string a, .string b] 9)).cell? ⟨w.heap.size + 1, 1, none⟩ = some (.string b) := by rw [cell_of_row _ _ _ _ _ _ (heap_new2 _ _ _)]; rfl
  have hlow := hown.lt
  obtain ⟨W, hW⟩ : ∃ W, (w.alloc (.cells #[.string a, .string b, .int .i64 n] 59)).alloc (.cells #[.string a, .string b] 9) = W := ⟨_, rfl⟩
  obtain ⟨gb, hgb⟩ : ∃ gb, w.heap.size + 1 = gb := ⟨_, rfl⟩
  rw [hW] at hb0 hown0 k0 k1
  rw [hgb] at k0 k1
  have hgl := cell_lt k0
  have hgr0 : w.grownBy W (Value.slice A l.length c).ownBlock := only_of_below hb0 _
  have hgw : w.heap.size < gb := by omega
  replace hW := hide hW
  replace hgb := hide hgb
  clear hown
  go_enter Tryd.func39, Tryd.ntmps39
  go_wp2_with fail
  rw [hW.out, hgb.out]
  go_loopw [1, 13] (fun v i wr => AddLoop B gb w (.slice A l.length c) l (a, b, n) v i wr) (fun _ i _ => 2 - (intOf i).toNat)
  case atStart => exact ⟨0, A, c, by omega, rfl, rfl, hown0, hgr0, fun y hy => .inl hy, k0, k1, hgl⟩
  case round =>
    obtain ⟨j, A1, c1, hj, rfl, rfl, hown1, hgr1, hlies, q0, q1, hgl1⟩ := hrel
    by_cases hlt : j < 2
    · obtain ⟨z, hz⟩ : ∃ z, (if j = 0 then a else b) = z := ⟨_, rfl⟩
      have hq : wr.cell? ⟨gb, j, none⟩ = some (.string z) := by
        rw [← hz]
        match j, hlt with
        | 0, _ => exact q0
        | 1, _ => exact q1
      have hstep : Hid (addTo l (a, b, n) (j + 1) = addS (addTo l (a, b, n) j) z) := by rw [← hz]; exact hide (addTo_step hlt)
      have hll := addTo_len l (a, b, n) j
      obtain ⟨lj, hlj⟩ : ∃ lj, addTo l (a, b, n) j = lj := ⟨_, rfl⟩
      rw [hlj] at hown1 hstep hlies hll ⊢
      have hat := hown1.any'
      have hj0 : (0 : Int) ≤ (j : Int) := by omega
      have hj1 : (j : Int) < 2 := by omega
      have hcon := scontains_walk A1 lj c1 z wr (by omega) hat.any
      clear hz hlj k0 k1
      cases hc : decide (0 ≤ idxS z lj) with
      | true =>
        rw [hc] at hcon
        have hs2 : Hid (addTo l (a, b, n) (j + 1) = lj) := hide (hstep.out.trans (if_pos (of_decide_eq_true hc)))
        clear hc hstep hat
        go_wp2_with fail
        refine hcon.mono ?_
        rintro e w2 ⟨rfl, rfl⟩
        clear hcon
        go_wp2_with fail
        go_roundw
        case rel => exact ⟨j + 1, A1, c1, by omega, by go_num, by rw [hs2.out], by rw [hs2.out]; exact hown1, hgr1, hlies, q0, q1, hgl1⟩
        case measure => simp [intOf]; omega
      | false =>
        rw [hc] at hcon
        have hs2 : Hid (addTo l (a, b, n) (j + 1) = lj ++ [z]) := hide (hstep.out.trans (if_neg (of_decide_eq_false hc)))
        clear hc hstep hat
        have hBr : B ≤ wr.heap.size := Nat.le_trans hB hgr1.size
        go_wp2_with fail
        refine hcon.mono ?_
        rintro e w2 ⟨rfl, rfl⟩
        clear hcon
        go_wp2_with (at_builtin; refine wpList_own2 rfl _ _ rfl apd_strs (by decide) rfl (hown1.alloc _) ?d1 (by decide) ⟨wr.heap.size, 0, none⟩ 1 rfl z [.string z] rfl (World.news_of_block (cs := #[.string z]) (t := 9) (fr := (0, 0)) (heap_alloc_new _ _)) (by decide) (Nat.zero_le _) ?d2 ?_)
        case d1 => omega
        case d2 => rw [World.size_alloc]; omega
        intro g2 cap2 w4 hown4 hgrow hwhere
        have hne : some gb ≠ (Value.slice A1 lj.length c1).ownBlock := fun e => by
          rcases hlies gb e.symm with h | h
          · have := (hlow gb h).2; omega
          · omega
        have q0' := cell_grown (cell_alloc_of q0 (.cells #[.string z] 9)) hgrow hne
        have q1' := cell_grown (cell_alloc_of q1 (.cells #[.string z] 9)) hgrow hne
        have hgr4 : w.grownBy w4 (Value.slice A l.length c).ownBlock := (hgr1.trans (World.grownBy_alloc _ _ _)).andThen hgrow (fun y hy => by
          rcases hlies y hy with h | h
          · exact .inr h
          · exact .inl (by omega))
        have hlies4 : ∀ y, (Value.slice (some ⟨g2, 0, none⟩) (lj.length + 1) cap2).ownBlock = some y → (Value.slice A l.length c).ownBlock = some y ∨ gb < y := fun y hy => by
          have : g2 = y := by simpa [Value.ownBlock] using hy
          subst this
          rcases hwhere with h | h
          · exact hlies g2 h
          · exact .inr (by omega)
        have hll2 : (lj ++ [z]).length = lj.length + 1 := by simp
        clear hown1 hgr1 hlies q0 q1 hgrow hwhere hne
        go_wp2_with fail
        go_roundw
        case rel => exact ⟨j + 1, _, cap2, by omega, by go_num, by rw [hs2.out, hll2], by rw [hs2.out]; exact hown4, hgr4, hlies4, q0', q1', by have := hgr4.size; exact cell_lt q0'⟩
        case measure => simp [intOf]; omega
    · obtain rfl : j = 2 := by omega
      go_wp2
      go_ret
      exact ⟨A1, c1, rfl, hown1, hgr1, fun y hy => by rcases hlies y hy with h | h; exact .inl h; exact .inr (by omega)⟩
/-- The buildings of ways. -/
def bldV (ws : List Way) : List ByteArray := ws.foldl addV []
theorem bldV_snoc (ws : List Way) (x : Way) : bldV (ws ++ [x]) = addV (bldV ws) x := by unfold bldV; rw [List.foldl_append]; rfl
theorem addV_len (l : List ByteArray) (x : Way) : (addV l x).length ≤ l.length + 2 := addTo_len l x 2
theorem bldV_len : ∀ (n : Nat) (ws : List Way), ws.length = n → (bldV ws).length ≤ 2 * n
  | 0, ws, h => by obtain rfl := List.eq_nil_of_length_eq_zero h; simp [bldV]
  | n + 1, ws, h => by
    have hne : ws ≠ [] := fun e => by subst e; simp at h
    obtain ⟨l, x, rfl⟩ : ∃ l x, ws = l ++ [x] := ⟨ws.dropLast, ws.getLast hne, (List.dropLast_concat_getLast hne).symm⟩
    have ih := bldV_len n l (by simpa using h)
    rw [bldV_snoc]
    have := addV_len (bldV l) x
    omega
def BldEnd (w : World) (ws : List Way) (e : Ending) (w' : World) : Prop :=
  ∃ A c, e = .returned (.slice A (bldV ws).length c) ∧ Own kStr 9 [] 0 w.heap.size w' (.slice A (bldV ws).length c) (bldV ws) ∧ Below w.heap.size w w'
def BldLoop (w : World) (ws : List Way) (v i : Value) (wr : World) : Prop :=
  ∃ (j : Nat) (A : Option Addr) (c : Nat), j ≤ ws.length ∧ i = .int .i64 j ∧ v = .slice A (bldV (ws.take j)).length c ∧ Own kStr 9 [] 0 w.heap.size wr v (bldV (ws.take j)) ∧ Below w.heap.size w wr
set_option maxHeartbeats 4000000 in
theorem bld_walk (A : Option Addr) (ws : List Way) (c : Nat) (w : World) (hn : ws.length ≤ 1000000000) (h : At kWay (· < w.heap.size) w A ws) :
    Calls Tryd.prog 40 #[.slice A ws.length c] w fun e w' => BldEnd w ws e w' := by
  obtain ⟨n, hnn⟩ : ∃ n, ws.length = n := ⟨_, rfl⟩
  rw [hnn] at hn ⊢
  replace hnn := hide hnn
  go_enter Tryd.func40, Tryd.ntmps40
  go_wp2
  go_loopw [3, 8] (fun v i wr => BldLoop w ws v i wr) (fun _ i _ => n - (intOf i).toNat)
  case atStart => exact ⟨0, none, 0, Nat.zero_le _, rfl, rfl, Own.nil, Below.refl _ _⟩
  case round =>
    obtain ⟨j, A1, c1, hj, rfl, rfl, hown, hb⟩ := hrel
    rw [hnn.out] at hj
    by_cases hlt : j < n
    · obtain ⟨x, hx⟩ : ∃ x, ws[j]? = some x := ⟨_, List.getElem?_eq_getElem (by rw [hnn.out]; exact hlt)⟩
      obtain ⟨wb, off, rfl, -, hwb, q0, q1, q2⟩ := way_get (h.below hb) hx
      have hsn : Hid (bldV (ws.take (j + 1)) = addV (bldV (ws.take j)) x) := by
        refine hide ?_
        rw [List.take_add_one, hx]
        exact bldV_snoc _ x
      have hll := bldV_len j (ws.take j) (by rw [List.length_take, hnn.out]; omega)
      obtain ⟨l, hl⟩ : ∃ l, bldV (ws.take j) = l := ⟨_, rfl⟩
      rw [hl] at hown hsn hll ⊢
      obtain ⟨a, b, m⟩ := x
      dsimp only at q0 q1 q2
      have hj0 : (0 : Int) ≤ (j : Int) := by omega
      have hj1 : (j : Int) < (n : Int) := by omega
      have hxx : Below wr.heap.size wr (wr.alloc (.cells #[.string a, .string b, .int .i64 m] 59)) := ext_alloc (Below.refl _ _) _
      have hcall := add_walk w.heap.size A1 l c1 (a, b, m) _ (hown.later hxx) (by rw [World.size_alloc]; have := hb.size; omega) (by omega)
      have hlow := hown.lt
      have hbx := ext_trans hb hxx
      clear h hx hl hown
      go_wp2_with fail
      refine hcall.mono ?_
      rintro e w2 ⟨A2, c2, rfl, hown2, hgr2, -⟩
      have hb2 : Below w.heap.size w w2 := below_grown hbx hgr2 (fun y hy => (hlow y hy).1)
      clear hcall hgr2 hlow hbx hxx q0 q1 q2
      go_wp2
      go_roundw
      case rel => exact ⟨j + 1, A2, c2, by rw [hnn.out]; omega, by go_num, by rw [hsn.out], by rw [hsn.out]; exact hown2, hb2⟩
      case measure => simp [intOf]; omega
    · obtain rfl : j = n := by omega
      have hall : Hid (ws.take j = ws) := hide (by rw [← hnn.out]; exact List.take_length)
      rw [hall.out] at hown ⊢
      go_wp2
      go_ret
      exact ⟨A1, c1, rfl, hown, hb⟩
end Go.Proofs.YtjcfkbichmlgmaaDoor
