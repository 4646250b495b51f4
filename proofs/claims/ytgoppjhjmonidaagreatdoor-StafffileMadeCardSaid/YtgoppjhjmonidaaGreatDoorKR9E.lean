/- Walks of timetableref03.split and Parts. Condition: texts shorter than 2^30 bytes. Walk of timetableref07.Times. Conditions: texts shorter than 2^30 bytes; what the program's variables hold. Walks of timetableref09.Index and one. Conditions: texts shorter than 2^30 bytes; what the program's variables hold. Walks of timetableref07.Found, timetableref02.Whole, At. Conditions: the record's cells. Walk of timetableref09.Read. Conditions: texts shorter than 2^30 bytes; what the program's variables hold. -/
import Derived.Test.YtgoppjhjmonidaaGreatDoorKAwake9
import Derived.Test.YtgoppjhjmonidaaGreatDoorKWsF
import Derived.Test.YtgoppjhjmonidaaGreatDoorKTgN
namespace Go.Proofs.YtgoppjhjmonidaaGreatDoor
open Go.RowKit
set_option maxRecDepth 100000

theorem splitOn1_hit {c : UInt8} : ∀ (a b : List UInt8), c ∉ a → splitOn1 c (a ++ c :: b) = a :: splitOn1 c b
  | [], b, _ => by simp [splitOn1]
  | x :: a, b, h => by
    have hx : ¬ x = c := fun e => h (by simp [e])
    have ha : c ∉ a := fun e => h (by simp [e])
    simp only [List.cons_append, splitOn1, if_neg hx]
    rw [splitOn1_hit a b ha]
theorem splitOn1_end {c : UInt8} : ∀ (a : List UInt8), c ∉ a → splitOn1 c a = [a]
  | [], _ => rfl
  | x :: a, h => by
    have hx : ¬ x = c := fun e => h (by simp [e])
    have ha : c ∉ a := fun e => h (by simp [e])
    simp only [splitOn1, if_neg hx]
    rw [splitOn1_end a ha]
/-- Where the splitting of a text stands: what is cut off, from where it goes on, how far it has looked. -/
structure Cutting (L : List UInt8) (dn : List (List UInt8)) (f j : Nat) : Prop where
  le : f ≤ j
  eq : dn ++ splitOn1 59 (L.drop f) = splitOn1 59 L
  no : ∀ k, f ≤ k → k < j → L[k]? ≠ some 59
theorem piece_free {L : List UInt8} {dn : List (List UInt8)} {f j : Nat} (h : Cutting L dn f j) : (59 : UInt8) ∉ (L.drop f).take (j - f) := by
  intro hm
  obtain ⟨i, hi⟩ := List.getElem?_of_mem hm
  rw [List.getElem?_take] at hi
  split at hi
  · rw [List.getElem?_drop] at hi
    exact h.no (f + i) (by omega) (by omega) hi
  · cases hi
theorem Cutting.hit {L : List UInt8} {dn : List (List UInt8)} {f j : Nat} (h : Cutting L dn f j) (hj : L[j]? = some 59) : Cutting L (dn ++ [(L.drop f).take (j - f)]) (j + 1) (j + 1) := by
  have hl := (List.getElem?_eq_some_iff.1 hj).1
  have e : L.drop f = (L.drop f).take (j - f) ++ 59 :: L.drop (j + 1) := by
    have e1 : (L.drop f).drop (j - f) = 59 :: L.drop (j + 1) := by
      rw [List.drop_drop, show f + (j - f) = j from by have := h.le; omega, List.drop_eq_getElem_cons hl]
      congr 1
      have := List.getElem?_eq_getElem hl
      rw [this] at hj
      exact Option.some.inj hj
    rw [← e1, List.take_append_drop]
  refine ⟨Nat.le_refl _, ?_, fun k h1 h2 => by omega⟩
  have h2 := h.eq
  rw [e, splitOn1_hit _ _ (piece_free h)] at h2
  rw [← h2]
  simp
theorem Cutting.miss {L : List UInt8} {dn : List (List UInt8)} {f j : Nat} (h : Cutting L dn f j) (hj : L[j]? ≠ some 59) : Cutting L dn f (j + 1) :=
  ⟨by have := h.le; omega, h.eq, fun k h1 h2 => by
    by_cases e : k = j
    · subst e; exact hj
    · exact h.no k h1 (by omega)⟩
theorem Cutting.done {L : List UInt8} {dn : List (List UInt8)} {f : Nat} (h : Cutting L dn f L.length) : dn ++ [L.drop f] = splitOn1 59 L := by
  have h1 := piece_free h
  rw [List.take_of_length_le (by rw [List.length_drop]; omega)] at h1
  have h2 := h.eq
  rw [splitOn1_end _ h1] at h2
  exact h2
theorem extract_list (s : ByteArray) (f j : Nat) : (s.extract f j).data.toList = (s.data.toList.drop f).take (j - f) := by
  simp
def SplitLoop (s : ByteArray) (w : World) (v f i : Value) (wr : World) : Prop :=
  ∃ (dn : List (List UInt8)) (fn j : Nat), f = .int .i64 fn ∧ i = .int .i64 j ∧ dn.length ≤ j ∧ StrsAt w.heap.size wr v dn ∧ Below w.heap.size w wr ∧ ((j ≤ s.size ∧ Cutting s.data.toList dn fn j) ∨ (j = s.size + 1 ∧ dn = splitOn1 59 s.data.toList))
def SplitGives (s : ByteArray) (w : World) (e : Ending) (w' : World) : Prop := ∃ v, e = .returned v ∧ StrsAt w.heap.size w' v (splitOn1 59 s.data.toList) ∧ Below w.heap.size w w'
theorem strs_snoc {B : Nat} {W : World} {v : Value} {dn : List (List UInt8)} {x : List UInt8} {z : ByteArray} (hz : z.data.toList = x) (h : W.ownsRow B 9 1 v (dn.length + 1) ((dn.map fun x => Value.string ⟨x.toArray⟩) ++ [.string z])) : StrsAt B W v (dn ++ [x]) := by
  unfold StrsAt
  rw [List.length_append, List.map_append]
  have e : (⟨x.toArray⟩ : ByteArray) = z := by subst hz; rfl
  simp only [List.map_cons, List.map_nil, List.length_cons, List.length_nil, e]
  exact h
set_option maxHeartbeats 4000000 in
theorem r3split_walk (s : ByteArray) (hs : s.size < 1073741824) (w : World) :
    Calls Tryz.prog 169 #[.string s] w fun e w' => SplitGives s w e w' := by
  obtain ⟨i0, hi, hz0, hz1, hz2⟩ := info_parts infoStr
  have hls := ba_len s
  replace hls := hide hls
  go_enter Tryz.func169, Tryz.ntmps169
  go_wp2
  go_loopw [3, 4, 5] (fun v f i wr => SplitLoop s w v f i wr) (fun _ _ i _ => s.size + 1 - (intOf i).toNat)
  case atStart => exact ⟨[], 0, 0, rfl, rfl, Nat.le_refl _, StrsAt.nil _ _, Below.refl _ _, .inl ⟨Nat.zero_le _, ⟨Nat.le_refl _, rfl, fun k h1 h2 => by omega⟩⟩⟩
  case round =>
    obtain ⟨dn, fn, j, rfl, rfl, hdl, hown, hb, hst⟩ := hrel
    have hz := hb.size
    rcases hst with ⟨hj, hc⟩ | ⟨rfl, rfl⟩
    · by_cases hlt : j < s.size
      · have hfl := hc.le
        have e1 : ((j : Int) == (s.size : Int)) = false := by simp; omega
        by_cases h59 : s[j].toNat = 59
        · have hat : s.data.toList[j]? = some 59 := by
            rw [List.getElem?_eq_getElem (by rw [hls.out]; exact hlt)]
            congr 1
            exact UInt8.toNat_inj.1 h59
          have hcn := hide (hc.hit hat)
          have hx := extract_list s fn j
          replace hx := hide hx
          clear hat hc
          go_wp2_with (at_builtin; refine wpList_append_own _ rfl _ _ 27 rfl w.heap.size 9 i0 (.string ⟨#[]⟩) 1 16 Tryz.underlying27 hi hz0 hz1 hz2 rfl (by decide) _ _ _ rfl (World.ownsRow.alloc hown _) ⟨wr.heap.size, 0, none⟩ 1 1 [.string (s.extract fn j)] rfl rfl (new_one _ _ _) one_str ?c3 ?c4 ?c5 ?_)
          case c3 => unfold maxLen; omega
          case c4 => omega
          case c5 => rw [World.size_alloc]; omega
          intro v' w4 hown4 hgrow _
          have hb4 : Below w.heap.size w w4 := Below.grown (ext_alloc hb _) hgrow (by rw [World.size_alloc]; omega) (fun y hy => (World.ownsRow.lt hown y hy).1)
          have hO := strs_snoc hx.out hown4
          clear hown hown4 hb
          go_wp2
          go_roundw
          case rel => exact ⟨_, j + 1, j + 1, by go_num, by go_num, by rw [List.length_append]; simp; omega, hO, hb4, .inl ⟨by omega, hcn.out⟩⟩
          case measure => simp [intOf]; omega
        · have hat : s.data.toList[j]? ≠ some 59 := by
            rw [List.getElem?_eq_getElem (by rw [hls.out]; exact hlt)]
            intro e
            injection e with e
            exact h59 (by have : s[j] = 59 := e; rw [this]; rfl)
          have hcn := hide (hc.miss hat)
          obtain ⟨c, hcc⟩ : ∃ c, s[j].toNat = c := ⟨_, rfl⟩
          rw [hcc] at h59
          have e2 : ((c : Int) == 59) = false := by simp; omega
          clear hat hc h59
          go_wp2
          go_roundw
          case rel => exact ⟨dn, fn, j + 1, rfl, by go_num, by omega, hown, hb, .inl ⟨by omega, hcn.out⟩⟩
          case measure => simp [intOf]; omega
      · obtain rfl : j = s.size := by omega
        have hfl := hc.le
        have e1 : ((s.size : Int) == (s.size : Int)) = true := by simp
        have hd := hide (show dn ++ [(s.extract fn s.size).data.toList] = splitOn1 59 s.data.toList by
          rw [extract_list, List.take_of_length_le (by rw [List.length_drop, hls.out]; omega)]
          have hc' := hc
          rw [← hls.out] at hc'
          exact hc'.done)
        clear hc
        go_wp2_with (at_builtin; refine wpList_append_own _ rfl _ _ 27 rfl w.heap.size 9 i0 (.string ⟨#[]⟩) 1 16 Tryz.underlying27 hi hz0 hz1 hz2 rfl (by decide) _ _ _ rfl (World.ownsRow.alloc hown _) ⟨wr.heap.size, 0, none⟩ 1 1 [.string (s.extract fn s.size)] rfl rfl (new_one _ _ _) one_str ?c3 ?c4 ?c5 ?_)
        case c3 => unfold maxLen; omega
        case c4 => omega
        case c5 => rw [World.size_alloc]; omega
        intro v' w4 hown4 hgrow _
        have hb4 : Below w.heap.size w w4 := Below.grown (ext_alloc hb _) hgrow (by rw [World.size_alloc]; omega) (fun y hy => (World.ownsRow.lt hown y hy).1)
        have hO := strs_snoc rfl hown4
        rw [hd.out] at hO
        have hdl2 : (splitOn1 59 s.data.toList).length ≤ s.size + 1 := by rw [← hd.out, List.length_append]; simp; omega
        clear hown hown4 hb
        go_wp2
        go_roundw
        case rel => exact ⟨_, s.size + 1, s.size + 1, by go_num, by go_num, hdl2, hO, hb4, .inr ⟨rfl, rfl⟩⟩
        case measure => simp [intOf]
    · go_wp2
      go_ret
      exact ⟨_, rfl, hown, hb⟩
/-- The pieces, as they are told of strings.Split. -/
theorem parts_split {s : ByteArray} (h : s.size ≠ 0) : (partsOf s).map (·.data.toList) = splitOn1 59 s.data.toList := by
  unfold partsOf
  rw [if_neg h]
  exact splitB_one 59 s
theorem StrsAt.pieces {B : Nat} {W : World} {v : Value} {zs : List ByteArray} (h : StrsAt B W v (zs.map (·.data.toList))) : W.ownsRow B 9 1 v zs.length (zs.map Value.string) := by
  unfold StrsAt at h
  rw [List.length_map, List.map_map] at h
  exact h
def PartsOwn (B : Nat) (W : World) (v : Value) (zs : List ByteArray) : Prop := W.ownsRow B 9 1 v zs.length (zs.map Value.string)
def PartsG (s : ByteArray) (w : World) (e : Ending) (w' : World) : Prop := ∃ v, e = .returned v ∧ PartsOwn w.heap.size w' v (partsOf s) ∧ Below w.heap.size w w'
theorem r3parts_walk (s : ByteArray) (hs : s.size < 1073741824) (h0 : s.size ≠ 0) (w : World) :
    Calls Tryz.prog 149 #[.string s] w fun e w' => PartsG s w e w' := by
  have hcall := r3split_walk s hs w
  go_enter Tryz.func149, Tryz.ntmps149
  go_wp2_with fail
  refine hcall.mono ?_
  rintro e w1 ⟨v, rfl, hv, hb⟩
  rw [← parts_split h0] at hv
  go_wp2
  go_ret
  exact ⟨_, rfl, hv.pieces, hb⟩
end Go.Proofs.YtgoppjhjmonidaaGreatDoor

namespace Go.Proofs.YtgoppjhjmonidaaGreatDoor
open Go.RowKit
set_option maxRecDepth 100000

theorem r6Parse_at {d sl b m n : Int} {z : ByteArray} {x1 x2 x3 x4 er : Int} (hT : pieceT d sl b m n z = (x1, x2, x3, x4, er)) (hs : z.size < 1073741824) (w : World) (hS : Std w) (hW : Wds w) (hD : Dys w) :
    Calls Tryz.prog 150 #[.agg #[.int .i64 d, .int .i64 sl, .int .i64 b, .int .i64 m], .int .i64 n, .string z] w fun e w' => e = .returned (.tuple #[.agg #[.int .i64 x1, .int .i64 x2, .int .i64 x3, .int .i64 x4], .int .i64 er]) ∧ Below w.heap.size w w' := by
  have := r6Parse_walk d sl b m n z hs w hS hW hD
  unfold pieceT at hT
  rw [hT] at this
  exact this
/-- What the region of Times loads, and what the program's variables hold. -/
structure TSt (gb bs j : Nat) (d sl b m : Int) (z : ByteArray) (W : World) : Prop where
  g0 : W.cell? ⟨gb, 0, none⟩ = some (.int .i64 d)
  g1 : W.cell? ⟨gb, 1, none⟩ = some (.int .i64 sl)
  g2 : W.cell? ⟨gb, 2, none⟩ = some (.int .i64 b)
  g3 : W.cell? ⟨gb, 3, none⟩ = some (.int .i64 m)
  s : W.cell? ⟨bs, j, none⟩ = some (.string z)
  std : Std W
  wds : Wds W
  dys : Dys W
abbrev TS (gb bs j : Nat) (d sl b m : Int) (z : ByteArray) (W : World) : Prop := W.cell? ⟨gb, 0, none⟩ = some (.int .i64 d) ∧ W.cell? ⟨gb, 1, none⟩ = some (.int .i64 sl) ∧ W.cell? ⟨gb, 2, none⟩ = some (.int .i64 b) ∧ W.cell? ⟨gb, 3, none⟩ = some (.int .i64 m) ∧ W.cell? ⟨bs, j, none⟩ = some (.string z)
section
variable {gb bs j : Nat} {d sl b m : Int} {z : ByteArray} {W W' : World}
theorem TSt.cells (h : TSt gb bs j d sl b m z W) : TS gb bs j d sl b m z W := ⟨h.g0, h.g1, h.g2, h.g3, h.s⟩
theorem TSt.later (h : TSt gb bs j d sl b m z W) (hb : Below W.heap.size W W') : TSt gb bs j d sl b m z W' :=
  ⟨cell_later hb h.g0, cell_later hb h.g1, cell_later hb h.g2, cell_later hb h.g3, cell_later hb h.s, h.std.after hb, h.wds.after hb h.std, h.dys.after hb h.std⟩
theorem TSt.alloc (h : TSt gb bs j d sl b m z W) (o : Obj) : TSt gb bs j d sl b m z (W.alloc o) := h.later (ext_alloc (Below.refl _ _) _)
theorem TSt.drew (h : TSt gb bs j d sl b m z W) : TSt gb bs j d sl b m z W.drew := h.later (ext_drew (Below.refl _ _))
theorem TS.alloc (h : TS gb bs j d sl b m z W) (o : Obj) : TS gb bs j d sl b m z (W.alloc o) := ⟨cell_alloc_of h.1 o, cell_alloc_of h.2.1 o, cell_alloc_of h.2.2.1 o, cell_alloc_of h.2.2.2.1 o, cell_alloc_of h.2.2.2.2 o⟩
theorem TS.drew (h : TS gb bs j d sl b m z W) : TS gb bs j d sl b m z W.drew := h
theorem TS.set {c i : Nat} (h : TS gb bs j d sl b m z W) (h1 : gb ≠ c) (h2 : bs ≠ c) (u : Value) : TS gb bs j d sl b m z (W.setCell ⟨c, i, none⟩ u) := by
  have ho : ∀ (x y : Nat), x ≠ c → (W.setCell ⟨c, i, none⟩ u).cell? ⟨x, y, none⟩ = W.cell? ⟨x, y, none⟩ := fun x y hx => World.cell?_setCell_other _ _ _ _ (fun e => hx (by injection e with e1; exact e1.symm))
  exact ⟨(ho _ _ h1).trans h.1, (ho _ _ h1).trans h.2.1, (ho _ _ h1).trans h.2.2.1, (ho _ _ h1).trans h.2.2.2.1, (ho _ _ h2).trans h.2.2.2.2⟩
end
def PieceCut (gb bs j : Nat) (d sl b m n : Int) (z : ByteArray) (W : World) (e : Ending) (w' : World) : Prop :=
  ∃ x1 x2 x3 x4 er, pieceT d sl b m n z = (x1, x2, x3, x4, er) ∧ e = .returned (.tuple #[.agg #[.int .i64 x1, .int .i64 x2, .int .i64 x3, .int .i64 x4], .int .i64 er]) ∧ Below W.heap.size W w' ∧ TS gb bs j d sl b m z w' ∧ TSt gb bs j d sl b m z w'
theorem piece_cut {gb bs j : Nat} {d sl b m n : Int} {z : ByteArray} {W : World} {x1 x2 x3 x4 er : Int} (hT : pieceT d sl b m n z = (x1, x2, x3, x4, er)) (hs : z.size < 1073741824) (h : TSt gb bs j d sl b m z W) :
    Calls Tryz.prog 150 #[.agg #[.int .i64 d, .int .i64 sl, .int .i64 b, .int .i64 m], .int .i64 n, .string z] W fun e w' => e = .returned (.tuple #[.agg #[.int .i64 x1, .int .i64 x2, .int .i64 x3, .int .i64 x4], .int .i64 er]) ∧ Below W.heap.size W w' ∧ TS gb bs j d sl b m z w' ∧ TSt gb bs j d sl b m z w' ∧ W.heap.size ≤ w'.heap.size :=
  (r6Parse_at hT hs W h.std h.wds h.dys).mono fun _ _ ⟨he, hb⟩ => ⟨he, hb, (h.later hb).cells, h.later hb, hb.size⟩
/-- What reading a piece leaves. -/
def PieceBox (wr : World) (x1 x2 x3 x4 er : Int) (s11 s12 : Value) (wx : World) : Prop :=
  ∃ tb, s11 = .pointer (some ⟨tb, 0, none⟩) ∧ s12 = .int .i64 er ∧ Box4 wx tb (.int .i64 x1) (.int .i64 x2) (.int .i64 x3) (.int .i64 x4) ∧ Below wr.heap.size wr wx
theorem below_drewA {W w2 : World} (h : Below W.drew.heap.size W.drew w2) : Below W.heap.size W w2 := (ext_drew (Below.refl _ _)).trans h
theorem below_drewB {W w2 : World} {o : Obj} (h : Below (W.alloc o).drew.heap.size (W.alloc o).drew w2) : Below W.heap.size W w2 := (ext_drew (ext_alloc (Below.refl _ _) o)).trans (h.mono (by show W.heap.size ≤ (W.alloc o).heap.size; rw [World.size_alloc]; omega))
def R7Gives (d sl b m n : Int) (s : ByteArray) (w : World) (e : Ending) (w' : World) : Prop :=
  ∃ v, e = .returned (.tuple #[v, .int .i64 (timesE d sl b m n (partsOf s))]) ∧ TimesOwn w.heap.size w' v (if timesE d sl b m n (partsOf s) = 0 then (partsOf s).map (pieceV d sl b m n) else []) ∧ Below w.heap.size w w'
def R7Loop (d sl b m n : Int) (zs : List ByteArray) (w1 : World) (v i : Value) (wr : World) : Prop :=
  ∃ j : Nat, j ≤ zs.length ∧ i = .int .i64 j ∧ TimesOwn w1.heap.size wr v ((zs.take j).map (pieceV d sl b m n)) ∧ firstE (pieceE d sl b m n) (zs.take j) = 0 ∧ Below w1.heap.size w1 wr
theorem firstE_take {f : ByteArray → Int} {zs : List ByteArray} {j : Nat} (h : firstE f (zs.take j) ≠ 0) : firstE f zs = firstE f (zs.take j) := by
  have e : ∀ (l r : List ByteArray), firstE f l ≠ 0 → firstE f (l ++ r) = firstE f l := by
    intro l
    induction l with
    | nil => intro r h; exact absurd rfl h
    | cons x l ih =>
      intro r h
      simp only [List.cons_append, firstE] at h ⊢
      by_cases hx : f x = 0
      · simp only [hx, if_true] at h ⊢; exact ih r h
      · simp only [hx, if_false]
  have := e (zs.take j) (zs.drop j) h
  rw [List.take_append_drop] at this
  exact this
set_option maxHeartbeats 8000000 in
theorem r7Times_walk (d sl b m n : Int) (s : ByteArray) (hs : s.size < 1073741824) (w : World) (hS : Std w) (hW : Wds w) (hD : Dys w) :
    Calls Tryz.prog 129 #[.string s, .agg #[.int .i64 d, .int .i64 sl, .int .i64 b, .int .i64 m], .int .i64 n] w fun e w' => R7Gives d sl b m n s w e w' := by
  obtain ⟨zs, hz⟩ : ∃ zs, partsOf s = zs := ⟨_, rfl⟩
  have hb0 : Below w.heap.size w (w.alloc (.cells #[.int .i64 d, .int .i64 sl, .int .i64 b, .int .i64 m] 39)) := ext_alloc (Below.refl _ _) _
  by_cases h0 : s.size = 0
  · have e0 := isEmpty_true _ h0
    have e1 : s.toList = [] := List.isEmpty_iff.1 e0
    have hp : partsOf s = [] := by unfold partsOf; rw [if_pos h0]
    clear hS hW hD
    go_enter Tryz.func129, Tryz.ntmps129
    go_wp2
    go_ret2
    exact ⟨_, by rw [hp]; rfl, by rw [hp]; exact World.ownsRow_nil _ _ _ _, hb0⟩
  · have e0 := isEmpty_false _ h0
    have e1 : s.toList ≠ [] := fun e => by rw [e] at e0; cases e0
    obtain ⟨i0, hi, hz0, hz1, hz2⟩ := info_parts infoTime
    have hzl : zs.length ≤ 1073741825 := by have := partsOf_len s; rw [hz] at this; omega
    have hzm : ∀ z ∈ zs, z.size < 1073741824 := by have := partsOf_mem s; rw [hz] at this; intro z h; have := this z h; omega
    have hpar := r3parts_walk s hs h0 (w.alloc (.cells #[.int .i64 d, .int .i64 sl, .int .i64 b, .int .i64 m] 39))
    have bG := Box4.new w 39 (.int .i64 d) (.int .i64 sl) (.int .i64 b) (.int .i64 m)
    replace hzm := hide hzm
    replace hz := hide hz
    go_enter Tryz.func129, Tryz.ntmps129
    go_wp2_with fail
    refine hpar.mono ?_
    clear hpar
    rintro e w1 ⟨v8, rfl, hpo, hb1⟩
    rw [hz.out] at hpo
    obtain ⟨A8, c8, rfl⟩ := owns_form hpo
    have bG1 := bG.later hb1
    have hS1 := (hS.alloc (.cells #[.int .i64 d, .int .i64 sl, .int .i64 b, .int .i64 m] 39)).after hb1
    have hW1 := hW.after (ext_trans hb0 hb1) hS
    have hD1 := hD.after (ext_trans hb0 hb1) hS
    replace hb0 := ext_trans hb0 hb1
    have hz1w := hb0.size
    have hgl := bG1.lt
    obtain ⟨gb, hgb⟩ : ∃ gb, w.heap.size = gb := ⟨_, rfl⟩
    rw [hgb] at bG1 hgl ⊢
    obtain ⟨len, hlen⟩ : ∃ len, zs.length = len := ⟨_, rfl⟩
    rw [hlen] at hzl ⊢
    replace hlen := hide hlen
    replace hgb := hide hgb
    clear bG hb1
    go_wp2
    go_loopw [9, 10] (fun v i wr => R7Loop d sl b m n zs w1 v i wr) (fun _ i _ => len - (intOf i).toNat)
    case atStart => exact ⟨0, Nat.zero_le _, rfl, World.ownsRow_nil _ _ _ _, rfl, Below.refl _ _⟩
    case round =>
      obtain ⟨j, hj, rfl, hown, hfe, hbr⟩ := hrel
      rw [hlen.out] at hj
      by_cases hlt : j < len
      · obtain ⟨z, hzj⟩ : ∃ z, zs[j]? = some z := ⟨_, List.getElem?_eq_getElem (by rw [hlen.out]; exact hlt)⟩
        have hzz := hzm.out z (List.mem_of_getElem? hzj)
        obtain ⟨bs, rfl, hbs, hcl⟩ := own_at hpo (by rw [hlen.out]; omega)
        have hcj := hcl j (.string z) (by rw [List.getElem?_map, hzj]; rfl)
        obtain ⟨x1, x2, x3, x4, er, hT⟩ : ∃ x1 x2 x3 x4 er, pieceT d sl b m n z = (x1, x2, x3, x4, er) := ⟨_, _, _, _, _, rfl⟩
        have hts : Hid ((zs.take (j + 1)).map (pieceV d sl b m n) = (zs.take j).map (pieceV d sl b m n) ++ [(x1, x2, x3, x4)]) := by
          refine hide ((take_map _ zs j z hzj).trans ?_); unfold pieceV; rw [hT]
        have hes : Hid (firstE (pieceE d sl b m n) (zs.take (j + 1)) = er) := by
          refine hide ((take_first _ zs j z hzj).trans ?_); rw [if_pos hfe]; unfold pieceE; rw [hT]
        have hst : TSt gb bs j d sl b m z wr :=
          ⟨cell_later hbr bG1.c0, cell_later hbr bG1.c1, cell_later hbr bG1.c2, cell_later hbr bG1.c3, cell_later hbr hcj, hS1.after hbr, hW1.after hbr hS1, hD1.after hbr hS1⟩
        obtain ⟨ts, hts0⟩ : ∃ ts, (zs.take j).map (pieceV d sl b m n) = ts := ⟨_, rfl⟩
        have htl : ts.length ≤ j := by rw [← hts0, List.length_map]; exact List.length_take_le _ _
        rw [hts0] at hown hts
        have hrw := hbr.size
        have hgr : gb < wr.heap.size := by omega
        have hbsr : bs < wr.heap.size := by omega
        replace hT := hide hT
        replace hfe := hide hfe
        clear hts0 hzj hcl hcj
        go_upto_region 8 with fail
        have hsc := hst.cells
        have hsd := TSt.drew hst
        have hscd := TS.drew hsc
        go_cut [11, 12] (fun s11 s12 wx => PieceBox wr x1 x2 x3 x4 er s11 s12 wx)
        case first =>
          go_region_held3 (fun W' => W'.cell? ⟨gb, 0, none⟩ = some (.int .i64 d) ∧ W'.cell? ⟨gb, 1, none⟩ = some (.int .i64 sl) ∧ W'.cell? ⟨gb, 2, none⟩ = some (.int .i64 b) ∧ W'.cell? ⟨gb, 3, none⟩ = some (.int .i64 m) ∧ W'.cell? ⟨bs, j, none⟩ = some (.string z)) (first | ((repeat (first | (with_reducible assumption) | (with_reducible refine TS.alloc ?_ _) | (with_reducible refine TS.drew ?_) | (with_reducible refine TS.set ?_ ?_ ?_ _) | omega)); done)) (first | (go_at_call 150; refine (piece_cut (gb := gb) (bs := bs) (j := j) hT.out hzz (by repeat (first | (with_reducible assumption) | (with_reducible refine TSt.alloc ?_ _) | (with_reducible refine TSt.drew ?_)))).mono ?_; rintro e w2 ⟨rfl, hb2, hs2, hst2, hz2⟩; (try simp only [World.size_alloc, size_drew'] at hz2); (try have c0 : w2.cell? ⟨wr.heap.size, 0, none⟩ = some (.int .i64 0) := cell_later hb2 (by first | (simp; done) | omega)); (try have c1 : w2.cell? ⟨wr.heap.size, 1, none⟩ = some (.int .i64 0) := cell_later hb2 (by first | (simp; done) | omega)); (try have c2 : w2.cell? ⟨wr.heap.size, 2, none⟩ = some (.int .i64 0) := cell_later hb2 (by first | (simp; done) | omega)); (try have c3 : w2.cell? ⟨wr.heap.size, 3, none⟩ = some (.int .i64 0) := cell_later hb2 (by first | (simp; done) | omega)); (try have qq0 : w2.frozen? ⟨wr.heap.size, 0, none⟩ = false := (hb2.frozen (p := ⟨wr.heap.size, 0, none⟩) (by first | (simp; done) | omega)).trans (by first | (simp; done) | assumption)); (try have qq1 : w2.frozen? ⟨wr.heap.size, 1, none⟩ = false := (hb2.frozen (p := ⟨wr.heap.size, 1, none⟩) (by first | (simp; done) | omega)).trans (by first | (simp; done) | assumption)); (try have qq2 : w2.frozen? ⟨wr.heap.size, 2, none⟩ = false := (hb2.frozen (p := ⟨wr.heap.size, 2, none⟩) (by first | (simp; done) | omega)).trans (by first | (simp; done) | assumption)); (try have qq3 : w2.frozen? ⟨wr.heap.size, 3, none⟩ = false := (hb2.frozen (p := ⟨wr.heap.size, 3, none⟩) (by first | (simp; done) | omega)).trans (by first | (simp; done) | assumption))))
          all_goals
            go_wp2_with fail
            go_meet
            first
              | exact ⟨_, rfl, rfl, Box4.new _ _ _ _ _ _, ext_alloc (below_drewA hb2) _⟩
              | exact ⟨_, rfl, rfl, box_same (fun i hi => by match i, hi with | 0, _ => exact ⟨_, c0⟩ | 1, _ => exact ⟨_, c1⟩ | 2, _ => exact ⟨_, c2⟩ | 3, _ => exact ⟨_, c3⟩) _ _ _ _, ext_set4 (below_drewB hb2) (Nat.le_refl _) _ _ _ _⟩
        case rest =>
          obtain ⟨tb, rfl, rfl, bT, hbx⟩ := hcut
          have hbw : Below w.heap.size w wc := ext_trans (ext_trans hb0 hbr) hbx
          by_cases he : er = 0
          · subst he
            have hown2 := owns_later hown hbx
            have hb2 : Below w1.heap.size w1 wc := ext_trans hbr hbx
            have hzc := hb2.size
            obtain ⟨t0, t1, t2, t3⟩ := bT
            clear hown hsc hsd hscd hst
            go_wp2_with (at_builtin; refine wpList_append_own _ rfl _ _ 47 rfl w1.heap.size 41 i0 (.agg #[.int .i64 0, .int .i64 0, .int .i64 0, .int .i64 0]) 4 32 Tryz.underlying47 hi hz0 hz1 hz2 rfl (by decide) _ _ _ rfl (hown2.alloc _) ⟨wc.heap.size, 0, none⟩ 1 1 (encT (x1, x2, x3, x4)) rfl rfl (new_four _ _ _ _ _ _) (one_times _) ?c3 ?c4 ?c5 ?_)
            case c3 => unfold maxLen; omega
            case c4 => omega
            case c5 => rw [World.size_alloc]; omega
            intro v' w4 hown4 hgrow _
            have hb4 : Below w1.heap.size w1 w4 := Below.grown (ext_alloc hb2 _) hgrow (by rw [World.size_alloc]; omega) (fun y hy => (hown2.lt y hy).1)
            clear hown2 hb2
            go_wp2
            go_roundw
            case rel => exact ⟨j + 1, by rw [hlen.out]; omega, by go_num, by rw [hts.out]; unfold TimesOwn; rw [List.length_append, flatT_snoc]; exact hown4, hes.out, hb4⟩
            case measure => simp [intOf]; omega
          · have he2 : (er != 0) = true := by simpa using he
            have htE : Hid (timesE d sl b m n (partsOf s) = er) := by
              have h1 : firstE (pieceE d sl b m n) zs = er := (firstE_take (j := j + 1) (by rw [hes.out]; exact he)).trans hes.out
              unfold timesE
              rw [hz.out, h1, if_neg he]
              exact hide rfl
            replace he := hide he
            clear hown hsc hsd hscd hst bT
            go_wp2
            go_ret2
            exact ⟨_, by rw [htE.out]; rfl, by rw [htE.out, if_neg he.out]; exact World.ownsRow_nil _ _ _ _, hbw⟩
      · obtain rfl : j = len := by omega
        have hall : Hid (zs.take j = zs) := hide (by rw [← hlen.out]; exact List.take_length)
        rw [hall.out] at hown hfe
        have hbw : Below w.heap.size w wr := ext_trans hb0 hbr
        have hlm : (zs.map (pieceV d sl b m n)).length = j := by rw [List.length_map]; exact hlen.out
        obtain ⟨A', c', rfl⟩ := owns_form hown
        rw [hlm] at hown ⊢
        replace hlm := hide hlm
        replace hfe := hide hfe
        clear hall hpo
        by_cases h24 : 24 < j
        · have htE : Hid (timesE d sl b m n (partsOf s) = 2) := by
            unfold timesE
            rw [hz.out, hfe.out, if_pos rfl, hlen.out, if_pos h24]
            exact hide rfl
          go_wp2
          go_ret2
          exact ⟨_, by rw [htE.out]; rfl, by rw [htE.out]; exact World.ownsRow_nil _ _ _ _, hbw⟩
        · have htE : Hid (timesE d sl b m n (partsOf s) = 0) := by
            unfold timesE
            rw [hz.out, hfe.out, if_pos rfl, hlen.out, if_neg h24]
            exact hide rfl
          have hfin : Hid (TimesOwn w.heap.size wr (.slice A' j c') (zs.map (pieceV d sl b m n))) := hide (owns_lower hown hz1w)
          clear hown
          go_wp2
          go_ret2
          exact ⟨_, by rw [htE.out]; rfl, by rw [htE.out, if_pos rfl, hz.out]; exact hfin.out, hbw⟩
end Go.Proofs.YtgoppjhjmonidaaGreatDoor

namespace Go.Proofs.YtgoppjhjmonidaaGreatDoor
open Go.RowKit
set_option maxRecDepth 100000

set_option maxHeartbeats 2000000 in
theorem r9Index_walk (A : Option Addr) (n c : Nat) (code : ByteArray) (codes : Nat → ByteArray) (X1 : Nat → Value) (w : World) (hn : n ≤ 1000000)
    (hX : CellsAt w.heap.size w A 2 n fun j => [.string (codes j), X1 j]) :
    Calls Tryz.prog 65 #[.slice A n c, .string code] w fun e w' => IdxGives (fun j => sameS (codes j) code) n w e w' := by
  go_enter Tryz.func65, Tryz.ntmps65
  go_wp2
  go_loopw [5] (fun i wr => ∃ j : Nat, j ≤ n ∧ i = .int .i64 j ∧ Hid (orTo (fun j => sameS (codes j) code) j = false) ∧ Below w.heap.size w wr) (fun i _ => n - (intOf i).toNat)
  case atStart => exact ⟨0, Nat.zero_le _, rfl, rfl, Below.refl _ _⟩
  case round =>
    obtain ⟨j, hj, rfl, ho, hb⟩ := hrel
    by_cases hlt : j < n
    · obtain ⟨b, off, rfl, hbB, hc⟩ := (hX.below hb) (by omega)
      have k0 := hc j hlt 0 _ rfl
      rw [Nat.add_zero] at k0
      clear hc hX
      cases hq : sameS (codes j) code with
      | true =>
        have hit := hide (orTo_hit (p := fun j => sameS (codes j) code) hq n hlt)
        obtain ⟨x0, hx0⟩ : ∃ x, codes j = x := ⟨_, rfl⟩
        rw [hx0] at k0 hq
        have hq2 : (x0.toList == code.toList) = true := hq
        clear hx0 hq
        go_wp2
        go_ret
        exact ⟨j, rfl, by rw [hit.out]; simp, hb⟩
      | false =>
        have miss : Hid (orTo (fun j => sameS (codes j) code) (j + 1) = false) := by show orTo _ (j + 1) = false; unfold orTo; rw [ho.out, hq]; rfl
        obtain ⟨x0, hx0⟩ : ∃ x, codes j = x := ⟨_, rfl⟩
        rw [hx0] at k0 hq
        have hq2 : (x0.toList == code.toList) = false := hq
        clear hx0 hq ho
        go_wp2
        go_roundw
        case rel => exact ⟨j + 1, by omega, by go_num, miss, hb⟩
        case measure => simp [intOf]; omega
    · obtain rfl : j = n := by omega
      go_wp2
      go_ret
      exact ⟨-1, rfl, by rw [ho.out]; rfl, hb⟩
/-- Which field is wrong (-1: the record), and why. -/
def oneKE (d sl b m n : Int) (fs : List Fld) (codes : Nat → ByteArray) (q : Nat) : Int × Int :=
  if fs.length ≠ 2 then (-1, 9) else
  if codeB (textAt fs 0) = false then (0, 10) else
  if timesE d sl b m n (partsOf (textAt fs 1)) ≠ 0 then (1, timesE d sl b m n (partsOf (textAt fs 1))) else
  if orTo (fun j => sameS (codes j) (textAt fs 0)) q then (-1, 11) else
  if q = 32 then (-1, 2) else (0, 0)
theorem end_lect3 {fn : Func} {p u v : Tmp} (hr : fn.results = #[.cell p 49, .tmp u, .tmp v]) {Q : Ending → World → Prop} {act : Act} {w : World} (g : Nat) (a b x y : Value) (hd : act.defers = [])
    (hp : act.tmps.getD p undef = .pointer (some ⟨g, 0, none⟩)) (hx : act.tmps.getD u undef = x) (hy : act.tmps.getD v undef = y)
    (h0 : w.cell? ⟨g, 0, none⟩ = some a) (h1 : w.cell? ⟨g, 1, none⟩ = some b)
    (hQ : Q (.returned (.tuple #[.agg #[a, b], x, y])) w) : bodyPost Tryz.prog fn Q .ret act w := by
  refine bodyPost_ret (v := .tuple #[.agg #[a, b], x, y]) ?_ hd hQ
  simp only [results, hr]
  simp [Sem.run_bind, Result.andThen, -Array.getD_eq_getD_getElem?]
  rw [hp, hx, hy]
  simp only [asAddr, Sem.run_pure]
  rw [load2 w g a b h0 h1]
def OneRGives (d sl b m n : Int) (fs : List Fld) (codes : Nat → ByteArray) (q : Nat) (w : World) (e : Ending) (w' : World) : Prop :=
  ∃ (code : ByteArray) (A' : Option Addr) (q' c' : Nat), e = .returned (.tuple #[.agg #[.string code, .slice A' q' c'], .int .i64 (oneKE d sl b m n fs codes q).1, .int .i64 (oneKE d sl b m n fs codes q).2]) ∧
    ((oneKE d sl b m n fs codes q).2 = 0 → code = textAt fs 0 ∧ TimesOwn w.heap.size w' (.slice A' q' c') (staffT d sl b m n fs)) ∧ Below w.heap.size w w'
theorem heap4 (w : World) (o1 o2 o3 o4 : Obj) : ((((w.alloc o1).alloc o2).alloc o3).alloc o4).heap[w.heap.size]? = some o1 ∧ ((((w.alloc o1).alloc o2).alloc o3).alloc o4).heap[w.heap.size + 1]? = some o2 ∧
    ((((w.alloc o1).alloc o2).alloc o3).alloc o4).heap[w.heap.size + 2]? = some o3 ∧ ((((w.alloc o1).alloc o2).alloc o3).alloc o4).heap[w.heap.size + 3]? = some o4 := by
  have s1 : (w.alloc o1).heap.size = w.heap.size + 1 := World.size_alloc _ _
  have s2 : ((w.alloc o1).alloc o2).heap.size = w.heap.size + 2 := by rw [World.size_alloc, s1]
  have s3 : (((w.alloc o1).alloc o2).alloc o3).heap.size = w.heap.size + 3 := by rw [World.size_alloc, s2]
  refine ⟨?_, ?_, ?_, ?_⟩
  · rw [Below.heap_alloc _ _ _ (by omega), Below.heap_alloc _ _ _ (by omega), Below.heap_alloc _ _ _ (by omega)]; exact heap_alloc_new _ _
  · rw [Below.heap_alloc _ _ _ (by omega), Below.heap_alloc _ _ _ (by omega)]; exact heap_new2 _ _ _
  · rw [Below.heap_alloc _ _ _ (by omega)]; exact heap_new3 _ _ _ _
  · have := heap_alloc_new (((w.alloc o1).alloc o2).alloc o3) o4
    rw [s3] at this
    exact this
theorem two_cells {w : World} {g : Nat} {a b : Value} {t : TypeId} (h : w.heap[g]? = some (.cells #[a, b] t (0, 0))) : w.cell? ⟨g, 0, none⟩ = some a ∧ w.cell? ⟨g, 1, none⟩ = some b ∧ w.frozen? ⟨g, 0, none⟩ = false ∧ w.frozen? ⟨g, 1, none⟩ = false := by
  refine ⟨?_, ?_, by simp [World.frozen?, h], by simp [World.frozen?, h]⟩ <;> rw [cell_of_row w g _ _ _ _ h] <;> rfl
theorem two_set {W : World} {g : Nat} {a b x y : Value} (h0 : W.cell? ⟨g, 0, none⟩ = some a) (h1 : W.cell? ⟨g, 1, none⟩ = some b) :
    ((W.setCell ⟨g, 0, none⟩ x).setCell ⟨g, 1, none⟩ y).cell? ⟨g, 0, none⟩ = some x ∧ ((W.setCell ⟨g, 0, none⟩ x).setCell ⟨g, 1, none⟩ y).cell? ⟨g, 1, none⟩ = some y :=
  ⟨(World.cell?_setCell_other _ _ _ _ (by simp)).trans (World.cell?_setCell_same _ _ _ h0), World.cell?_setCell_same _ _ _ ((World.cell?_setCell_other _ _ _ _ (by simp)).trans h1)⟩
theorem text_at {fs : List Fld} {k : Nat} (h : k < fs.length) : (fs[k]'h).1 = textAt fs k := by
  unfold textAt; rw [List.getD_eq_getElem?_getD, List.getElem?_eq_getElem h]; rfl
/-- What the region of one loads. -/
abbrev OS (rb gb fb fo : Nat) (F : Value) (d sl b m : Int) (t1 : ByteArray) (W : World) : Prop := W.cell? ⟨rb, 1, none⟩ = some F ∧ W.cell? ⟨fb, fo, none⟩ = some (.string t1) ∧ W.cell? ⟨gb, 0, none⟩ = some (.int .i64 d) ∧ W.cell? ⟨gb, 1, none⟩ = some (.int .i64 sl) ∧ W.cell? ⟨gb, 2, none⟩ = some (.int .i64 b) ∧ W.cell? ⟨gb, 3, none⟩ = some (.int .i64 m)
theorem OS.later {rb gb fb fo : Nat} {F : Value} {d sl b m : Int} {t1 : ByteArray} {W W' : World} (h : OS rb gb fb fo F d sl b m t1 W) (hb : Below W.heap.size W W') : OS rb gb fb fo F d sl b m t1 W' :=
  ⟨cell_later hb h.1, cell_later hb h.2.1, cell_later hb h.2.2.1, cell_later hb h.2.2.2.1, cell_later hb h.2.2.2.2.1, cell_later hb h.2.2.2.2.2⟩
theorem r7_cut {d sl b m n : Int} {t1 : ByteArray} {U W : World} {rb gb fb fo : Nat} {F : Value} (hs : t1.size < 1073741824) (hS : Std U) (hW : Wds U) (hD : Dys U) (h : OS rb gb fb fo F d sl b m t1 U) (hb : Below U.heap.size U W) :
    Calls Tryz.prog 129 #[.string t1, .agg #[.int .i64 d, .int .i64 sl, .int .i64 b, .int .i64 m], .int .i64 n] W fun e w' =>
      ∃ v, e = .returned (.tuple #[v, .int .i64 (timesE d sl b m n (partsOf t1))]) ∧ TimesOwn U.heap.size w' v (if timesE d sl b m n (partsOf t1) = 0 then (partsOf t1).map (pieceV d sl b m n) else []) ∧ Below U.heap.size U w' ∧ OS rb gb fb fo F d sl b m t1 w' :=
  (r7Times_walk d sl b m n t1 hs W (hS.after hb) (hW.after hb hS) (hD.after hb hS)).mono fun _ _ ⟨v, he, ht, hb'⟩ => ⟨v, he, owns_lower ht hb.size, ext_trans hb hb', h.later (ext_trans hb hb')⟩
set_option maxHeartbeats 8000000 in
theorem r9one_walk (d sl b m n line : Int) (F : Option Addr) (fs : List Fld) (c : Nat) (A : Option Addr) (q cr : Nat) (codes : Nat → ByteArray) (X1 : Nat → Value) (w : World) (hS : Std w) (hW : Wds w) (hD : Dys w)
    (hF : FieldsAt w.heap.size w F fs) (hq : q ≤ 32) (hs : ∀ f ∈ fs, f.1.size < 1073741824) (hX : CellsAt w.heap.size w A 2 q fun j => [.string (codes j), X1 j]) :
    Calls Tryz.prog 103 #[.agg #[.int .i64 line, .slice F fs.length c], .agg #[.int .i64 d, .int .i64 sl, .int .i64 b, .int .i64 m], .int .i64 n, .slice A q cr] w fun e w' => OneRGives d sl b m n fs codes q w e w' := by
  by_cases hm : fs.length = 2
  · obtain ⟨fb, fo, rfl, hfb, hfc⟩ := hF (by omega)
    obtain ⟨f0, -, -⟩ := hfc 0 (by omega)
    obtain ⟨f1, -, -⟩ := hfc 1 (by omega)
    rw [text_at] at f0 f1
    rw [Nat.zero_mul, Nat.add_zero] at f0
    rw [Nat.one_mul] at f1
    have hs1 : (textAt fs 1).size < 1073741824 := by rw [← text_at (by omega)]; exact hs _ (List.getElem_mem _)
    have hm2 : ((fs.length : Int) != 2) = false := by simp; omega
    obtain ⟨t0, ht0⟩ : ∃ t0, textAt fs 0 = t0 := ⟨_, rfl⟩
    obtain ⟨t1, ht1⟩ : ∃ t1, textAt fs 1 = t1 := ⟨_, rfl⟩
    have hKE : oneKE d sl b m n fs codes q = (if codeB t0 = false then (0, 10) else if timesE d sl b m n (partsOf t1) ≠ 0 then (1, timesE d sl b m n (partsOf t1)) else if orTo (fun j => sameS (codes j) t0) q then (-1, 11) else if q = 32 then (-1, 2) else (0, 0)) := by
      unfold oneKE; rw [if_neg (by simp [hm]), ht0, ht1]
    have hST : staffT d sl b m n fs = if codeB t0 then (partsOf t1).map (pieceV d sl b m n) else [] := by unfold staffT; rw [ht0, ht1]
    rw [ht0] at f0
    rw [ht1] at f1 hs1
    have hc0 : textAt fs 0 = t0 := ht0
    replace hc0 := hide hc0
    clear ht0 ht1 hfc hF hs
    have hU4 := heap4 w (.cells #[.int .i64 line, .slice (some ⟨fb, fo, none⟩) fs.length c] 25) (.cells #[.int .i64 d, .int .i64 sl, .int .i64 b, .int .i64 m] 39) (.cells #[.string ⟨#[]⟩, .slice none 0 0] 49) (.cells #[.string t0, .slice none 0 0] 49)
    have hbU : Below w.heap.size w ((((w.alloc (.cells #[.int .i64 line, .slice (some ⟨fb, fo, none⟩) fs.length c] 25)).alloc (.cells #[.int .i64 d, .int .i64 sl, .int .i64 b, .int .i64 m] 39)).alloc (.cells #[.string ⟨#[]⟩, .slice none 0 0] 49)).alloc (.cells #[.string t0, .slice none 0 0] 49)) := (by repeat (first | exact Below.refl _ _ | refine ext_alloc ?_ _ | refine ext_drewN ?_ _ | refine ext_drew ?_ | refine ext_trans ?_ (by assumption)))
    obtain ⟨U, hU⟩ : ∃ U, (((w.alloc (.cells #[.int .i64 line, .slice (some ⟨fb, fo, none⟩) fs.length c] 25)).alloc (.cells #[.int .i64 d, .int .i64 sl, .int .i64 b, .int .i64 m] 39)).alloc (.cells #[.string ⟨#[]⟩, .slice none 0 0] 49)).alloc (.cells #[.string t0, .slice none 0 0] 49) = U := ⟨_, rfl⟩
    rw [hU] at hU4 hbU
    obtain ⟨u1, u2, u3, u4⟩ := hU4
    replace hU := hide hU
    replace hm := hide hm
    have hfb1 : fb < w.heap.size + 1 := by omega
    have hl0 : 0 < fs.length := by rw [hm.out]; omega
    have hl1 : 1 < fs.length := by rw [hm.out]; omega
    have hl2 : (1 : Int) < (fs.length : Int) := by omega
    have hl3 : (0 : Int) ≤ 1 := by omega
    have hfb2 : fb < w.heap.size + 1 + 1 := by omega
    go_enter Tryz.func103, Tryz.ntmps103
    go_wp2_with fail
    rw [hU.out]
    refine (r3valid_walk _ _).mono ?_
    rintro e W ⟨rfl, rfl⟩
    obtain ⟨-, o1, -, -⟩ := two_cells u1
    obtain ⟨g0, g1, g2, g3, -⟩ := scan_cells u2
    obtain ⟨r0, r1, rf0, rf1⟩ := two_cells u3
    obtain ⟨b0, b1, bf0, bf1⟩ := two_cells u4
    have f1U : U.cell? ⟨fb, fo + 3, none⟩ = some (.string t1) := (hbU.cell (p := ⟨fb, fo + 3, none⟩) hfb).trans f1
    have l3 : w.heap.size + 3 < U.heap.size := blk_lt u4
    have hSU := hS.after hbU
    have hWU := hW.after hbU hS
    have hDU := hD.after hbU hS
    have hXU := (hX.below hbU).more hbU.size
    have hOS : OS w.heap.size (w.heap.size + 1) fb (fo + 3) (.slice (some ⟨fb, fo, none⟩) fs.length c) d sl b m t1 U := ⟨o1, f1U, g0, g1, g2, g3⟩
    clear hS hW hD u1 u2 u3 u4 hU f0 f1
    cases hv : codeB t0
    · rw [hv, if_pos rfl] at hKE
      clear hOS hSU hWU hDU hX hXU hST
      go_wp2
      refine end_lect3 rfl (w.heap.size + 1 + 1) (.string t0) (.slice none 0 0) _ _ rfl rfl rfl rfl (two_set r0 r1).1 (two_set r0 r1).2 ⟨_, _, _, _, by rw [hKE]; rfl, (fun h => by rw [hKE] at h; cases h), ?_⟩
      exact (hbU.setCell (p := ⟨w.heap.size + 1 + 1, 0, none⟩) (by show w.heap.size ≤ w.heap.size + 1 + 1; omega) _).setCell (p := ⟨w.heap.size + 1 + 1, 1, none⟩) (by show w.heap.size ≤ w.heap.size + 1 + 1; omega) _
    · rw [hv, if_neg (by simp)] at hKE
      rw [hv, if_pos rfl] at hST
      obtain ⟨er, her⟩ : ∃ er, timesE d sl b m n (partsOf t1) = er := ⟨_, rfl⟩
      have hr7 := fun W hb => r7_cut (n := n) (W := W) hs1 hSU hWU hDU hOS hb
      rw [her] at hr7 hKE
      replace hr7 := hide hr7
      replace her := hide her
      replace hKE := hide hKE
      replace hST := hide hST
      go_upto_region 6 with fail
      have hOd : OS w.heap.size (w.heap.size + 1) fb (fo + 3) (.slice (some ⟨fb, fo, none⟩) fs.length c) d sl b m t1 U.drew := hOS
      go_region_held3 (fun W' => W'.cell? ⟨w.heap.size, 1, none⟩ = some (.slice (some ⟨fb, fo, none⟩) fs.length c) ∧ W'.cell? ⟨fb, fo + 3, none⟩ = some (.string t1) ∧ W'.cell? ⟨w.heap.size + 1, 0, none⟩ = some (.int .i64 d) ∧ W'.cell? ⟨w.heap.size + 1, 1, none⟩ = some (.int .i64 sl) ∧ W'.cell? ⟨w.heap.size + 1, 2, none⟩ = some (.int .i64 b) ∧ W'.cell? ⟨w.heap.size + 1, 3, none⟩ = some (.int .i64 m)) (first | (with_reducible assumption)) (first | (go_at_call 129; refine (hr7.out _ (by repeat (first | exact Below.refl _ _ | refine ext_drew ?_))).mono ?_; rintro e w2 ⟨v, rfl, ht, hb2, hs2⟩))
      all_goals
        have b0' := cell_later hb2 b0
        have b1' := cell_later hb2 b1
        have r0' := cell_later hb2 r0
        have r1' := cell_later hb2 r1
        have bf1' := (hb2.frozen (p := ⟨w.heap.size + 3, 1, none⟩) l3).trans bf1
        have rf0' := (hb2.frozen (p := ⟨w.heap.size + 2, 0, none⟩) (by show w.heap.size + 2 < _; omega)).trans rf0
        have rf1' := (hb2.frozen (p := ⟨w.heap.size + 2, 1, none⟩) (by show w.heap.size + 2 < _; omega)).trans rf1
        have hbw := hbU.trans (hb2.mono hbU.size)
        clear hs2 hOd hOS hXU hr7 b0 b1 r0 r1 bf0 bf1 rf0 rf1 g0 g1 g2 g3 o1 f1U
        by_cases he : er = 0
        · rw [if_pos he] at ht
          have hKE2 : Hid (oneKE d sl b m n fs codes q = (if orTo (fun j => sameS (codes j) t0) q then (-1, 11) else if q = 32 then (-1, 2) else (0, 0))) := by
            have := hKE.out; rw [if_neg (by simp [he])] at this; exact this
          subst he
          obtain ⟨A3, c3, hv3⟩ := owns_form ht
          obtain ⟨Lt, hLt⟩ : ∃ Lt, ((partsOf t1).map (pieceV d sl b m n)).length = Lt := ⟨_, rfl⟩
          rw [hLt] at hv3
          subst hv3
          clear hLt
          have hown : ∀ y, (Value.slice A3 Lt c3).ownBlock = some y → U.heap.size ≤ y := own_high ht (Nat.le_refl _)
          have hn3 : (Value.slice A3 Lt c3).ownBlock ≠ some (w.heap.size + 3) := fun e => by have := hown _ e; omega
          have hn2 : (Value.slice A3 Lt c3).ownBlock ≠ some (w.heap.size + 2) := fun e => by have := hown _ e; omega
          obtain ⟨V, hV⟩ : ∃ V, w2.setCell ⟨w.heap.size + 3, 1, none⟩ (.slice A3 Lt c3) = V := ⟨_, rfl⟩
          have v0 : V.cell? ⟨w.heap.size + 3, 0, none⟩ = some (.string t0) := by rw [← hV]; exact (World.cell?_setCell_other _ _ _ _ (by simp)).trans b0'
          have v1 : V.cell? ⟨w.heap.size + 3, 1, none⟩ = some (.slice A3 Lt c3) := by rw [← hV]; exact World.cell?_setCell_same _ _ _ b1'
          have x0 : V.cell? ⟨w.heap.size + 2, 0, none⟩ = some (.string ⟨#[]⟩) := by rw [← hV]; exact (World.cell?_setCell_other _ _ _ _ (by simp)).trans r0'
          have x1 : V.cell? ⟨w.heap.size + 2, 1, none⟩ = some (.slice none 0 0) := by rw [← hV]; exact (World.cell?_setCell_other _ _ _ _ (by simp)).trans r1'
          have y0 : V.frozen? ⟨w.heap.size + 2, 0, none⟩ = false := by rw [← hV, World.frozen?_setCell]; exact rf0'
          have y1 : V.frozen? ⟨w.heap.size + 2, 1, none⟩ = false := by rw [← hV, World.frozen?_setCell]; exact rf1'
          have htV : TimesOwn U.heap.size V (.slice A3 Lt c3) ((partsOf t1).map (pieceV d sl b m n)) := by rw [← hV]; exact owns_set ht hn3
          have hbV : Below w.heap.size w V := by rw [← hV]; exact hbw.setCell (p := ⟨w.heap.size + 3, 1, none⟩) (by show w.heap.size ≤ w.heap.size + 3; omega) _
          have hV2 : w.heap.size + 2 < V.heap.size := World.block_lt_of_cell? _ _ x0
          have hidx := r9Index_walk A q cr t0 codes X1 V (by omega) ((hX.below hbV).more hbV.size)
          obtain ⟨dup, hdup⟩ : ∃ dup, orTo (fun j => sameS (codes j) t0) q = dup := ⟨_, rfl⟩
          rw [hdup] at hKE2
          replace hKE := hKE2
          clear hKE2
          replace hV := hide hV
          replace hdup := hide hdup
          clear hX ht hbw hb2
          go_wp2_with fail
          rw [hV.out]
          refine hidx.mono ?_
          clear hidx
          rintro e w4 ⟨rr, rfl, hrr, hb4'⟩
          rw [hdup.out] at hrr
          have s0 := cell_later hb4' x0
          have s1 := cell_later hb4' x1
          have z0 := (hb4'.frozen (p := ⟨w.heap.size + 2, 0, none⟩) hV2).trans y0
          have z1 := (hb4'.frozen (p := ⟨w.heap.size + 2, 1, none⟩) hV2).trans y1
          have m0 := cell_later hb4' v0
          have m1 := cell_later hb4' v1
          have ht4 := owns_later htV hb4'
          have hb4 := ext_trans hbV hb4'
          clear b0' b1' r0' r1' bf1' rf0' rf1' hV v0 v1 x0 x1 y0 y1 hb4' hbV htV
          cases dup with
          | true =>
            have hr0 : 0 ≤ rr := of_decide_eq_true hrr
            have hKE3 : Hid (oneKE d sl b m n fs codes q = (-1, 11)) := hKE.out
            clear hrr hKE
            go_wp2
            refine end_lect3 rfl (w.heap.size + 1 + 1) (.string t0) (.slice A3 Lt c3) _ _ rfl rfl rfl rfl (two_set s0 s1).1 (two_set s0 s1).2 ⟨_, _, _, _, by rw [hKE3.out]; rfl, (fun h => by rw [hKE3.out] at h; cases h), ?_⟩
            exact (hb4.setCell (p := ⟨w.heap.size + 1 + 1, 0, none⟩) (by show w.heap.size ≤ w.heap.size + 1 + 1; omega) _).setCell (p := ⟨w.heap.size + 1 + 1, 1, none⟩) (by show w.heap.size ≤ w.heap.size + 1 + 1; omega) _
          | false =>
            have hr0 : ¬ 0 ≤ rr := of_decide_eq_false hrr
            clear hrr
            by_cases h32 : q = 32
            · have hKE3 : Hid (oneKE d sl b m n fs codes q = (-1, 2)) := hide (by have := hKE.out; simpa [h32] using this)
              clear hKE
              subst h32
              go_wp2
              refine end_lect3 rfl (w.heap.size + 1 + 1) (.string t0) (.slice A3 Lt c3) _ _ rfl rfl rfl rfl (two_set s0 s1).1 (two_set s0 s1).2 ⟨_, _, _, _, by rw [hKE3.out]; rfl, (fun h => by rw [hKE3.out] at h; cases h), ?_⟩
              exact (hb4.setCell (p := ⟨w.heap.size + 1 + 1, 0, none⟩) (by show w.heap.size ≤ w.heap.size + 1 + 1; omega) _).setCell (p := ⟨w.heap.size + 1 + 1, 1, none⟩) (by show w.heap.size ≤ w.heap.size + 1 + 1; omega) _
            · have hKE3 : Hid (oneKE d sl b m n fs codes q = (0, 0)) := hide (by have := hKE.out; simpa [h32] using this)
              have hq2 : ((q : Int) == 32) = false := by simp; omega
              clear hKE
              go_wp2
              refine end_lect3 rfl (w.heap.size + 1 + 1) (.string t0) (.slice A3 Lt c3) _ _ rfl rfl rfl rfl (two_set s0 s1).1 (two_set s0 s1).2 ⟨_, _, _, _, by rw [hKE3.out]; rfl, (fun _ => ⟨hc0.out.symm, by rw [hST.out]; exact owns_lower (owns_set (owns_set ht4 hn2) hn2) hbU.size⟩), ?_⟩
              exact (hb4.setCell (p := ⟨w.heap.size + 1 + 1, 0, none⟩) (by show w.heap.size ≤ w.heap.size + 1 + 1; omega) _).setCell (p := ⟨w.heap.size + 1 + 1, 1, none⟩) (by show w.heap.size ≤ w.heap.size + 1 + 1; omega) _
        · have he2 : (er != 0) = true := by simpa using he
          have hKE2 : Hid (oneKE d sl b m n fs codes q = (1, er)) := by have := hKE.out; rw [if_pos he] at this; exact this
          replace he := hide he
          clear hX ht hKE
          go_wp2
          refine end_lect3 rfl (w.heap.size + 1 + 1) (.string t0) (.slice none 0 0) _ _ rfl rfl rfl rfl (two_set r0' r1').1 (two_set r0' r1').2 ⟨_, _, _, _, by rw [hKE2.out]; rfl, (fun h => by rw [hKE2.out] at h; exact absurd h he.out), ?_⟩
          exact (hbw.setCell (p := ⟨w.heap.size + 1 + 1, 0, none⟩) (by show w.heap.size ≤ w.heap.size + 1 + 1; omega) _).setCell (p := ⟨w.heap.size + 1 + 1, 1, none⟩) (by show w.heap.size ≤ w.heap.size + 1 + 1; omega) _
  · have hk : oneKE d sl b m n fs codes q = (-1, 9) := if_pos hm
    have hm2 : ((fs.length : Int) != 2) = true := by simp; omega
    clear hF hX hs hS hW hD
    replace hm := hide hm
    go_enter Tryz.func103, Tryz.ntmps103
    go_wp2
    refine end_lect3 rfl (w.heap.size + 1 + 1) (.string ⟨#[]⟩) (.slice none 0 0) _ _ rfl rfl rfl rfl ?_ ?_ ⟨_, _, _, _, by rw [hk]; rfl, (fun h => by rw [hk] at h; cases h), (by repeat (first | exact Below.refl _ _ | refine ext_alloc ?_ _ | refine ext_drewN ?_ _ | refine ext_drew ?_ | refine ext_trans ?_ (by assumption)))⟩
    · rw [cell_of_row _ _ _ _ _ _ (heap_new3 _ _ _ _)]; rfl
    · rw [cell_of_row _ _ _ _ _ _ (heap_new3 _ _ _ _)]; rfl
end Go.Proofs.YtgoppjhjmonidaaGreatDoor

namespace Go.Proofs.YtgoppjhjmonidaaGreatDoor
open Go.RowKit
set_option maxRecDepth 100000

theorem load4p (w : World) (g : Nat) (a b c d : Value) (h0 : w.cell? ⟨g, 0, none⟩ = some a) (h1 : w.cell? ⟨g, 1, none⟩ = some b) (h2 : w.cell? ⟨g, 2, none⟩ = some c) (h3 : w.cell? ⟨g, 3, none⟩ = some d) :
    (loadVar 95 ⟨g, 0, none⟩).run Tryz.prog w = .ok (.agg #[a, b, c, d]) w := by
  simp [go_sem, h0, h1, h2, h3]
theorem end_prob {fn : Func} {p : Tmp} (hr : fn.results = #[.cell p 95]) {Q : Ending → World → Prop} {act : Act} {w : World} (g : Nat) (a b c d : Value) (hd : act.defers = [])
    (hp : act.tmps.getD p undef = .pointer (some ⟨g, 0, none⟩))
    (h : ∀ j, j < 4 → ∃ v, w.cell? ⟨g, j, none⟩ = some v)
    (hQ : Q (.returned (.agg #[a, b, c, d])) ((((w.setCell ⟨g, 0, none⟩ a).setCell ⟨g, 1, none⟩ b).setCell ⟨g, 2, none⟩ c).setCell ⟨g, 3, none⟩ d)) :
    bodyPost Tryz.prog fn Q .ret act ((((w.setCell ⟨g, 0, none⟩ a).setCell ⟨g, 1, none⟩ b).setCell ⟨g, 2, none⟩ c).setCell ⟨g, 3, none⟩ d) := by
  obtain ⟨h0, h1, h2, h3⟩ := set4_cells w g a b c d h _ rfl
  refine bodyPost_ret (v := .agg #[a, b, c, d]) ?_ hd hQ
  simp only [results, hr]
  simp [Sem.run_bind, Result.andThen, -Array.getD_eq_getD_getElem?]
  rw [hp]
  simp only [asAddr, Sem.run_pure]
  rw [load4p _ g a b c d h0 h1 h2 h3]
theorem end_prob1 {fn : Func} {p : Tmp} (hr : fn.results = #[.cell p 95]) {Q : Ending → World → Prop} {act : Act} {w : World} (g : Nat) (a b c d : Value) (hd : act.defers = [])
    (hp : act.tmps.getD p undef = .pointer (some ⟨g, 0, none⟩))
    (h0 : w.cell? ⟨g, 0, none⟩ = some a) (h1 : w.cell? ⟨g, 1, none⟩ = some b) (h2 : w.cell? ⟨g, 2, none⟩ = some c) (h3 : w.cell? ⟨g, 3, none⟩ = some d)
    (hQ : Q (.returned (.agg #[a, b, c, d])) w) : bodyPost Tryz.prog fn Q .ret act w := by
  refine bodyPost_ret (v := .agg #[a, b, c, d]) ?_ hd hQ
  simp only [results, hr]
  simp [Sem.run_bind, Result.andThen, -Array.getD_eq_getD_getElem?]
  rw [hp]
  simp only [asAddr, Sem.run_pure]
  rw [load4p _ g a b c d h0 h1 h2 h3]
set_option maxHeartbeats 2000000 in
theorem r2Whole_walk (line : Int) (v : Value) (e : Int) (w : World) :
    Calls Tryz.prog 82 #[.agg #[.int .i64 line, v], .int .i64 e] w fun en w' => en = .returned (.agg #[.int .i64 0, .int .i64 line, .int .i64 0, .int .i64 e]) ∧ Below w.heap.size w w' := by
  go_enter Tryz.func82, Tryz.ntmps82
  go_wp2
  obtain ⟨c0, c1, c2, c3, -⟩ := scan_cells (heap_new2 w (.cells #[.int .i64 line, v] 25) (.cells #[.int .i64 0, .int .i64 line, .int .i64 0, .int .i64 e] 95))
  exact end_prob1 rfl (w.heap.size + 1) _ _ _ _ rfl rfl c0 c1 c2 c3 ⟨rfl, (by repeat (first | exact Below.refl _ _ | refine ext_alloc ?_ _ | refine ext_drewN ?_ _ | refine ext_drew ?_ | refine ext_trans ?_ (by assumption)))⟩
set_option maxHeartbeats 4000000 in
theorem r2At_walk (line : Int) (F : Option Addr) (fs : List Fld) (c k : Nat) (e : Int) (w : World) (hF : FieldsAt w.heap.size w F fs) (hk : k < fs.length) :
    Calls Tryz.prog 83 #[.agg #[.int .i64 line, .slice F fs.length c], .int .i64 k, .int .i64 e] w fun en w' => en = .returned (.agg #[.int .i64 0, .int .i64 line, .int .i64 (colAt fs (k + 1)), .int .i64 e]) ∧ Below w.heap.size w w' := by
  obtain ⟨fb, fo, rfl, hfb, hfc⟩ := hF (by omega)
  obtain ⟨-, f1, -⟩ := hfc k hk
  have hcol : (fs[k]'hk).2.1 = colAt fs (k + 1) := by
    unfold colAt; rw [show k + 1 - 1 = k from rfl, List.getD_eq_getElem?_getD, List.getElem?_eq_getElem hk]; rfl
  rw [hcol] at f1
  have hfb1 : fb < w.heap.size + 1 := by omega
  have hk1 : (k : Int) < (fs.length : Int) := by omega
  have hk0 : (0 : Int) ≤ (k : Int) := by omega
  clear hcol hfc hF
  go_enter Tryz.func83, Tryz.ntmps83
  go_wp2_with fail
  go_region
  all_goals
    go_wp2_with fail
    obtain ⟨c0, c1, c2, c3, -⟩ := scan_cells (heap_new2 w (.cells #[.int .i64 line, .slice (some ⟨fb, fo, none⟩) fs.length c] 25) (.cells #[.int .i64 0, .int .i64 line, .int .i64 (colAt fs (k + 1)), .int .i64 e] 95))
    exact end_prob1 rfl (w.heap.size + 1) _ _ _ _ rfl rfl c0 c1 c2 c3 ⟨rfl, (by repeat (first | exact Below.refl _ _ | refine ext_alloc ?_ _ | refine ext_drewN ?_ _ | refine ext_drew ?_ | refine ext_trans ?_ (by assumption)))⟩
/-- The place of a problem: of a field, or (-1) of the record. -/
def placeOf (fs : List Fld) (k : Int) : Int := if k < 0 then 0 else colAt fs (k.toNat + 1)
set_option maxHeartbeats 4000000 in
theorem r7Found_walk (line : Int) (F : Option Addr) (fs : List Fld) (c : Nat) (k e : Int) (w : World) (hF : FieldsAt w.heap.size w F fs) (hk : k < fs.length) :
    Calls Tryz.prog 48 #[.agg #[.int .i64 line, .slice F fs.length c], .int .i64 k, .int .i64 e] w fun en w' => en = .returned (.agg #[.int .i64 0, .int .i64 line, .int .i64 (placeOf fs k), .int .i64 e]) ∧ Below w.heap.size w w' := by
  have hb0 : Below w.heap.size w ((w.alloc (.cells #[.int .i64 line, .slice F fs.length c] 25)).alloc (.cells #[.int .i64 0, .int .i64 0, .int .i64 0, .int .i64 0] 95)) := (by repeat (first | exact Below.refl _ _ | refine ext_alloc ?_ _ | refine ext_drewN ?_ _ | refine ext_drew ?_ | refine ext_trans ?_ (by assumption)))
  have hn := heap_new2 w (.cells #[.int .i64 line, .slice F fs.length c] 25) (.cells #[.int .i64 0, .int .i64 0, .int .i64 0, .int .i64 0] 95)
  obtain ⟨W, hW⟩ : ∃ W, (w.alloc (.cells #[.int .i64 line, .slice F fs.length c] 25)).alloc (.cells #[.int .i64 0, .int .i64 0, .int .i64 0, .int .i64 0] 95) = W := ⟨_, rfl⟩
  rw [hW] at hb0 hn
  have hl1 : w.heap.size + 1 < W.heap.size := blk_lt hn
  replace hW := hide hW
  by_cases h0 : k < 0
  · have hp : placeOf fs k = 0 := if_pos h0
    rw [hp]
    clear hF hk hp
    go_enter Tryz.func48, Tryz.ntmps48
    go_wp2_with fail
    rw [hW.out]
    refine (r2Whole_walk line _ e W).mono ?_
    rintro en w1 ⟨rfl, hb1⟩
    obtain ⟨c0, c1, c2, c3, hf⟩ := scan_cells hn
    have f0 := (hb1.frozen (p := ⟨w.heap.size + 1, 0, none⟩) hl1).trans (hf 0)
    have f1 := (hb1.frozen (p := ⟨w.heap.size + 1, 1, none⟩) hl1).trans (hf 1)
    have f2 := (hb1.frozen (p := ⟨w.heap.size + 1, 2, none⟩) hl1).trans (hf 2)
    have f3 := (hb1.frozen (p := ⟨w.heap.size + 1, 3, none⟩) hl1).trans (hf 3)
    replace c0 := cell_later hb1 c0
    replace c1 := cell_later hb1 c1
    replace c2 := cell_later hb1 c2
    replace c3 := cell_later hb1 c3
    have hb := ext_trans hb0 hb1
    have h4 := four_of hn hb1
    clear hW hn hb0 hb1 hf
    go_wp2
    exact end_prob rfl (w.heap.size + 1) _ _ _ _ rfl rfl h4 ⟨rfl, ext_set4 hb (by omega) _ _ _ _⟩
  · obtain ⟨j, rfl⟩ := Int.eq_ofNat_of_zero_le (by omega : 0 ≤ k)
    have hp : placeOf fs (j : Int) = colAt fs (j + 1) := by unfold placeOf; rw [if_neg h0, Int.toNat_natCast]
    rw [hp]
    have hFW := (hF.below hb0).more hb0.size
    clear hF hp
    go_enter Tryz.func48, Tryz.ntmps48
    go_wp2_with fail
    rw [hW.out]
    refine (r2At_walk line F fs c j e W hFW (by omega)).mono ?_
    rintro en w1 ⟨rfl, hb1⟩
    obtain ⟨c0, c1, c2, c3, hf⟩ := scan_cells hn
    have f0 := (hb1.frozen (p := ⟨w.heap.size + 1, 0, none⟩) hl1).trans (hf 0)
    have f1 := (hb1.frozen (p := ⟨w.heap.size + 1, 1, none⟩) hl1).trans (hf 1)
    have f2 := (hb1.frozen (p := ⟨w.heap.size + 1, 2, none⟩) hl1).trans (hf 2)
    have f3 := (hb1.frozen (p := ⟨w.heap.size + 1, 3, none⟩) hl1).trans (hf 3)
    replace c0 := cell_later hb1 c0
    replace c1 := cell_later hb1 c1
    replace c2 := cell_later hb1 c2
    replace c3 := cell_later hb1 c3
    have hb := ext_trans hb0 hb1
    have h4 := four_of hn hb1
    clear hW hn hb0 hb1 hf hFW
    go_wp2
    exact end_prob rfl (w.heap.size + 1) _ _ _ _ rfl rfl h4 ⟨rfl, ext_set4 hb (by omega) _ _ _ _⟩
/-- The same, told by what is wrong with the record. -/
theorem step_err {d sl b m n line : Int} {fs : List Fld} {s : RS} (_hq : s.ls.length ≤ 32) (h : (oneKE d sl b m n fs (codesOf s.ls) s.ls.length).2 ≠ 0) :
    recStep d sl b m n s (line, fs) = ⟨s.ls, s.lines, s.ps ++ [(line, placeOf fs (oneKE d sl b m n fs (codesOf s.ls) s.ls.length).1, (oneKE d sl b m n fs (codesOf s.ls) s.ls.length).2)]⟩ := by
  revert h
  unfold recStep oneKE staffP staffP1 probOf
  by_cases h2 : fs.length = 2
  · simp only [h2, ne_eq, not_true_eq_false, if_false, if_true]
    cases hc : codeB (textAt fs 0)
    · intro _; simp [noted, placeOf, colAt]
    · simp only [if_true]
      by_cases he : timesE d sl b m n (partsOf (textAt fs 1)) = 0
      · simp only [he, if_true, not_true_eq_false, if_false]
        cases hd : orTo (fun j => sameS (codesOf s.ls j) (textAt fs 0)) s.ls.length
        · by_cases h3 : s.ls.length = 32
          · intro _; simp [noted, placeOf, h3]
          · intro h; simp [h3] at h
        · intro _; simp [noted, placeOf]
      · intro _; simp [he, noted, placeOf]
  · intro _; simp [h2, placeOf]
theorem step_ok {d sl b m n line : Int} {fs : List Fld} {s : RS} (hq : s.ls.length ≤ 32) (h : (oneKE d sl b m n fs (codesOf s.ls) s.ls.length).2 = 0) :
    recStep d sl b m n s (line, fs) = ⟨s.ls ++ [(textAt fs 0, staffT d sl b m n fs)], s.lines ++ [line], s.ps⟩ := by
  revert h
  unfold recStep oneKE staffP staffP1 probOf
  by_cases h2 : fs.length = 2
  · simp only [h2, ne_eq, not_true_eq_false, if_false, if_true]
    cases hc : codeB (textAt fs 0)
    · intro h; simp at h
    · simp only [if_true]
      by_cases he : timesE d sl b m n (partsOf (textAt fs 1)) = 0
      · simp only [he, if_true, not_true_eq_false, if_false]
        cases hd : orTo (fun j => sameS (codesOf s.ls j) (textAt fs 0)) s.ls.length
        · by_cases h3 : s.ls.length = 32
          · intro h; simp [h3] at h
          · have h4 : ¬ (32 : Int) ≤ (s.ls.length : Int) := by omega
            intro _; simp [noted, h4]
        · intro h; simp at h
      · intro h; simp [he] at h
  · intro h; simp [h2] at h
theorem place_lt {d sl b m n : Int} {fs : List Fld} {codes : Nat → ByteArray} {q : Nat} : (oneKE d sl b m n fs codes q).1 < fs.length ∨ fs.length = 0 ∧ (oneKE d sl b m n fs codes q).1 < 0 := by
  unfold oneKE
  by_cases h2 : fs.length = 2
  · left
    rw [if_neg (by simp [h2])]
    split
    · simp; omega
    · split
      · simp; omega
      · split
        · simp; omega
        · split
          · simp; omega
          · simp; omega
  · rw [if_pos h2]
    left; simp; omega
end Go.Proofs.YtgoppjhjmonidaaGreatDoor

namespace Go.Proofs.YtgoppjhjmonidaaGreatDoor
open Go.RowKit
set_option maxRecDepth 100000

/-- What the region of Read loads, and what the program's variables hold. -/
structure RSt (w0 : World) (gb rb off : Nat) (d sl b m line : Int) (u : Value) (W : World) : Prop where
  g0 : W.cell? ⟨gb, 0, none⟩ = some (.int .i64 d)
  g1 : W.cell? ⟨gb, 1, none⟩ = some (.int .i64 sl)
  g2 : W.cell? ⟨gb, 2, none⟩ = some (.int .i64 b)
  g3 : W.cell? ⟨gb, 3, none⟩ = some (.int .i64 m)
  r0 : W.cell? ⟨rb, off, none⟩ = some (.int .i64 line)
  r1 : W.cell? ⟨rb, off + 1, none⟩ = some u
  below : Below w0.heap.size w0 W
abbrev RC (gb rb off : Nat) (d sl b m line : Int) (u : Value) (W : World) : Prop := W.cell? ⟨gb, 0, none⟩ = some (.int .i64 d) ∧ W.cell? ⟨gb, 1, none⟩ = some (.int .i64 sl) ∧ W.cell? ⟨gb, 2, none⟩ = some (.int .i64 b) ∧ W.cell? ⟨gb, 3, none⟩ = some (.int .i64 m) ∧ W.cell? ⟨rb, off, none⟩ = some (.int .i64 line) ∧ W.cell? ⟨rb, off + 1, none⟩ = some u
section
variable {w0 : World} {gb rb off : Nat} {d sl b m line : Int} {u : Value} {W W' : World}
theorem RSt.cells (h : RSt w0 gb rb off d sl b m line u W) : RC gb rb off d sl b m line u W := ⟨h.g0, h.g1, h.g2, h.g3, h.r0, h.r1⟩
theorem RSt.later (h : RSt w0 gb rb off d sl b m line u W) (hb : Below W.heap.size W W') : RSt w0 gb rb off d sl b m line u W' :=
  ⟨cell_later hb h.g0, cell_later hb h.g1, cell_later hb h.g2, cell_later hb h.g3, cell_later hb h.r0, cell_later hb h.r1, ext_trans h.below hb⟩
theorem RSt.alloc (h : RSt w0 gb rb off d sl b m line u W) (o : Obj) : RSt w0 gb rb off d sl b m line u (W.alloc o) := h.later (ext_alloc (Below.refl _ _) _)
theorem RSt.drew (h : RSt w0 gb rb off d sl b m line u W) : RSt w0 gb rb off d sl b m line u W.drew := h.later (ext_drew (Below.refl _ _))
theorem RC.alloc (h : RC gb rb off d sl b m line u W) (o : Obj) : RC gb rb off d sl b m line u (W.alloc o) := ⟨cell_alloc_of h.1 o, cell_alloc_of h.2.1 o, cell_alloc_of h.2.2.1 o, cell_alloc_of h.2.2.2.1 o, cell_alloc_of h.2.2.2.2.1 o, cell_alloc_of h.2.2.2.2.2 o⟩
theorem RC.drew (h : RC gb rb off d sl b m line u W) : RC gb rb off d sl b m line u W.drew := h
theorem RC.set {c i : Nat} (h : RC gb rb off d sl b m line u W) (h1 : gb ≠ c) (h2 : rb ≠ c) (x : Value) : RC gb rb off d sl b m line u (W.setCell ⟨c, i, none⟩ x) := by
  have ho : ∀ (y z : Nat), y ≠ c → (W.setCell ⟨c, i, none⟩ x).cell? ⟨y, z, none⟩ = W.cell? ⟨y, z, none⟩ := fun y z hx => World.cell?_setCell_other _ _ _ _ (fun e => hx (by injection e with e1; exact e1.symm))
  exact ⟨(ho _ _ h1).trans h.1, (ho _ _ h1).trans h.2.1, (ho _ _ h1).trans h.2.2.1, (ho _ _ h1).trans h.2.2.2.1, (ho _ _ h2).trans h.2.2.2.2.1, (ho _ _ h2).trans h.2.2.2.2.2⟩
end
def OneCut (W : World) (gb rb off : Nat) (d sl b m n line : Int) (u : Value) (fs : List Fld) (k ee : Int) (e : Ending) (w' : World) : Prop :=
  ∃ (code : ByteArray) (A' : Option Addr) (q' c' : Nat), e = .returned (.tuple #[.agg #[.string code, .slice A' q' c'], .int .i64 k, .int .i64 ee]) ∧
    (ee = 0 → code = textAt fs 0 ∧ TimesOwn W.heap.size w' (.slice A' q' c') (staffT d sl b m n fs)) ∧ Below W.heap.size W w' ∧ RC gb rb off d sl b m line u w' ∧ W.heap.size ≤ w'.heap.size
theorem one_cut {wr W : World} {gb rb off : Nat} {d sl b m n line : Int} {F : Option Addr} {fs : List Fld} {c : Nat} {A : Option Addr} {q cr : Nat} {codes : Nat → ByteArray} {X1 : Nat → Value} {k ee : Int} (hke : oneKE d sl b m n fs codes q = (k, ee)) (hS : Std wr) (hW : Wds wr) (hD : Dys wr)
    (hF : FieldsAt wr.heap.size wr F fs) (hq : q ≤ 32) (hs : ∀ f ∈ fs, f.1.size < 1073741824) (hX : CellsAt wr.heap.size wr A 2 q fun j => [.string (codes j), X1 j]) (hR : RC gb rb off d sl b m line (.slice F fs.length c) wr) (hb : Below wr.heap.size wr W) :
    Calls Tryz.prog 103 #[.agg #[.int .i64 line, .slice F fs.length c], .agg #[.int .i64 d, .int .i64 sl, .int .i64 b, .int .i64 m], .int .i64 n, .slice A q cr] W fun e w' => OneCut W gb rb off d sl b m n line (.slice F fs.length c) fs k ee e w' :=
  (r9one_walk d sl b m n line F fs c A q cr codes X1 W (hS.after hb) (hW.after hb hS) (hD.after hb hS) ((hF.below hb).more hb.size) hq hs ((hX.below hb).more hb.size)).mono fun e w' ⟨code, A', q', c', he, ht, hb'⟩ => by
    have hbb := ext_trans hb hb'
    rw [hke] at he ht
    exact ⟨code, A', q', c', he, ht, hb', ⟨cell_later hbb hR.1, cell_later hbb hR.2.1, cell_later hbb hR.2.2.1, cell_later hbb hR.2.2.2.1, cell_later hbb hR.2.2.2.2.1, cell_later hbb hR.2.2.2.2.2⟩, hb'.size⟩
/-- What reading one record leaves. -/
def LectBox (wr : World) (d sl b m n : Int) (fs : List Fld) (k e : Int) (s11 s12 s13 : Value) (wx : World) : Prop :=
  ∃ (tb : Nat) (code : ByteArray) (A' : Option Addr) (q' c' : Nat), s11 = .pointer (some ⟨tb, 0, none⟩) ∧ s12 = .int .i64 k ∧ s13 = .int .i64 e ∧ wx.cell? ⟨tb, 0, none⟩ = some (.string code) ∧ wx.cell? ⟨tb, 1, none⟩ = some (.slice A' q' c') ∧
    (e = 0 → code = textAt fs 0 ∧ TimesOwn wr.heap.size wx (.slice A' q' c') (staffT d sl b m n fs)) ∧ Below wr.heap.size wr wx
theorem lectbox_new {wr w2 : World} {d sl b m n : Int} {fs : List Fld} {k e : Int} {code : ByteArray} {A' : Option Addr} {q' c' : Nat} {C : Nat} (hC : wr.heap.size ≤ C) (ht : e = 0 → code = textAt fs 0 ∧ TimesOwn C w2 (.slice A' q' c') (staffT d sl b m n fs)) (hb : Below wr.heap.size wr w2) (t : TypeId) :
    LectBox wr d sl b m n fs k e (.pointer (some ⟨w2.heap.size, 0, none⟩)) (.int .i64 k) (.int .i64 e) (w2.alloc (.cells #[.string code, .slice A' q' c'] t)) :=
  ⟨_, code, A', q', c', rfl, rfl, rfl, by simp, by simp, fun h => ⟨(ht h).1, owns_lower ((ht h).2.alloc _) hC⟩, ext_alloc hb _⟩
theorem lectbox_set {wr w2 : World} {d sl b m n : Int} {fs : List Fld} {k e : Int} {code : ByteArray} {A' : Option Addr} {q' c' x : Nat} {v0 v1 : Value} {C : Nat} (hx : wr.heap.size ≤ x) (hC : x < C) (c0 : w2.cell? ⟨x, 0, none⟩ = some v0) (c1 : w2.cell? ⟨x, 1, none⟩ = some v1)
    (ht : e = 0 → code = textAt fs 0 ∧ TimesOwn C w2 (.slice A' q' c') (staffT d sl b m n fs)) (hb : Below wr.heap.size wr w2) :
    LectBox wr d sl b m n fs k e (.pointer (some ⟨x, 0, none⟩)) (.int .i64 k) (.int .i64 e) ((w2.setCell ⟨x, 0, none⟩ (.string code)).setCell ⟨x, 1, none⟩ (.slice A' q' c')) := by
  have t0 : (w2.setCell ⟨x, 0, none⟩ (.string code)).cell? ⟨x, 0, none⟩ = some (.string code) := World.cell?_setCell_same _ _ _ c0
  have t1 : (w2.setCell ⟨x, 0, none⟩ (.string code)).cell? ⟨x, 1, none⟩ = some v1 := (World.cell?_setCell_other _ _ _ _ (by simp)).trans c1
  refine ⟨x, code, A', q', c', rfl, rfl, rfl, (World.cell?_setCell_other _ _ _ _ (by simp)).trans t0, World.cell?_setCell_same _ _ _ t1, fun h => ⟨(ht h).1, ?_⟩, ext_set (ext_set hb (p := ⟨x, 0, none⟩) hx _) (p := ⟨x, 1, none⟩) hx _⟩
  have hv : (Value.slice A' q' c').ownBlock ≠ some x := fun e => by have := ((ht h).2.lt _ e).1; omega
  exact owns_lower (owns_set (owns_set (ht h).2 hv) hv) (by omega)
def R9Loop (d sl b m n : Int) (rs : List Rec) (w : World) (v8 v9 i : Value) (wr : World) : Prop :=
  ∃ j : Nat, j ≤ rs.length ∧ i = .int .i64 j ∧ LectsOwn w.heap.size wr v8 (readRecs d sl b m n (rs.take j)).ls ∧ ProbsOwn w.heap.size wr v9 (readRecs d sl b m n (rs.take j)).ps ∧ Below w.heap.size w wr
theorem lects_snoc {B : Nat} {W W' : World} {v v' vt : Value} {ls : List Lect} {t0 : ByteArray} {ts : List T4} (us : List Value) (e1 : us.length = ls.length) (e2 : W.ownsRow B 49 2 v ls.length (lectCells ls us)) (e3 : ∀ (j : Nat) (l : Lect) (u : Value), ls[j]? = some l → us[j]? = some u → TimesOwn B W u l.2)
    (hu : TimesOwn B W vt ts) (hg : W.grownBy W' v.ownBlock) (hn : W'.ownsRow B 49 2 v' (ls.length + 1) (lectCells ls us ++ [.string t0, vt])) : LectsOwn B W' v' (ls ++ [(t0, ts)]) := by
  refine ⟨us ++ [vt], by simp [e1], ?_, fun j l u hl hx => ?_⟩
  · rw [lectCells_snoc _ _ e1, List.length_append]
    exact hn
  · by_cases hj : j < ls.length
    · rw [List.getElem?_append_left hj] at hl
      rw [List.getElem?_append_left (by omega)] at hx
      exact World.ownsRow.kept (e3 j l u hl hx) hg (own_ne (e3 j l u hl hx) e2 (by decide))
    · have hj2 : j = ls.length := by
        have := (List.getElem?_eq_some_iff.1 hl).1
        simp at this
        omega
      subst hj2
      rw [List.getElem?_append_right (Nat.le_refl _)] at hl
      rw [List.getElem?_append_right (by omega)] at hx
      simp at hl
      simp [e1] at hx
      subst hl
      subst hx
      exact World.ownsRow.kept hu hg (own_ne hu e2 (by decide))
theorem new_lect (w : World) (a : ByteArray) (u : Value) (t : TypeId) : ∀ (j : Nat) (v : Value), [Value.string a, u][j]? = some v → (w.alloc (.cells #[.string a, u] t)).cell? ((⟨w.heap.size, 0, none⟩ : Addr).add j) = some v := by
  intro j v hv
  match j, hv with
  | 0, hv => simp at hv; subst hv; simp [Addr.add]
  | 1, hv => simp at hv; subst hv; simp [Addr.add]
  | j + 2, hv => simp at hv
set_option maxHeartbeats 8000000 in
theorem r9Read_walk (d sl b m n : Int) (A : Option Addr) (rs : List Rec) (cap : Nat) (w : World) (hS : Std w) (hW : Wds w) (hD : Dys w) (hR : RecsAt w.heap.size w A rs) (hN : rs.length ≤ 4000000000000) (hs : ∀ r ∈ rs, ∀ f ∈ r.2, f.1.size < 1073741824) :
    Calls Tryz.prog 70 #[.slice A rs.length cap, .agg #[.int .i64 d, .int .i64 sl, .int .i64 b, .int .i64 m], .int .i64 n] w fun e w' => StaffReads d sl b m n rs w e w' := by
  have hb0 : Below w.heap.size w (w.alloc (.cells #[.int .i64 d, .int .i64 sl, .int .i64 b, .int .i64 m] 39)) := ext_alloc (Below.refl _ _) _
  have bG := Box4.new w 39 (.int .i64 d) (.int .i64 sl) (.int .i64 b) (.int .i64 m)
  obtain ⟨N, hNN⟩ : ∃ N, rs.length = N := ⟨_, rfl⟩
  rw [hNN] at hN ⊢
  replace hNN := hide hNN
  replace hs := hide hs
  cases hw : weekB d sl b m n
  · have e1 : staffRead d sl b m n rs = ([], [(0, 0, 1)]) := by unfold staffRead; rw [hw]; rfl
    clear hS hW hD hR bG
    go_enter Tryz.func70, Tryz.ntmps70
    go_wp2_with fail
    refine (r6Usable_walk d sl b m n _).mono ?_
    rintro e w1 ⟨rfl, hb1⟩
    rw [hw]
    have hbw := ext_trans hb0 hb1
    go_wp2
    go_ret2
    exact ⟨_, _, rfl, by rw [e1]; exact ⟨[], rfl, World.ownsRow_nil _ _ _ _, fun j l u h => by simp at h⟩, by rw [e1]; exact owns_lower (probs_one w1 1 0 0 1 rfl) hbw.size, ext_alloc hbw _⟩
  · have e1 : staffRead d sl b m n rs = ((readRecs d sl b m n rs).ls, (readRecs d sl b m n rs).ps) := by unfold staffRead; rw [hw]; rfl
    replace e1 := hide e1
    obtain ⟨iP, hiP, hP0, hP1, hP2⟩ := info_parts infoProb
    obtain ⟨iL, hiL, hL0, hL1, hL2⟩ := info_parts infoLect
    obtain ⟨gb, hgb⟩ : ∃ gb, w.heap.size = gb := ⟨_, rfl⟩
    go_enter Tryz.func70, Tryz.ntmps70
    go_wp2_with fail
    rw [hgb] at bG
    refine (r6Usable_walk d sl b m n _).mono ?_
    rintro e w1 ⟨rfl, hb1⟩
    rw [hw]
    have hbw1 := ext_trans hb0 hb1
    have bG1 := bG.later hb1
    have hgl := bG1.lt
    have hS1 := hS.after hbw1
    have hW1 := hW.after hbw1 hS
    have hD1 := hD.after hbw1 hS
    have hR1 := (hR.below hbw1).more hbw1.size
    obtain ⟨g0, g1, g2, g3⟩ := bG1
    clear hb0 hb1 bG hR hS hW hD
    replace hgb := hide hgb
    replace hgl := hide hgl
    go_wp2
    go_loopw [8, 9, 10] (fun v8 v9 i wr => R9Loop d sl b m n rs w1 v8 v9 i wr) (fun _ _ i _ => N - (intOf i).toNat)
    case atStart => exact ⟨0, Nat.zero_le _, rfl, ⟨[], rfl, World.ownsRow_nil _ _ _ _, fun j l u h => by simp [readRecs] at h⟩, World.ownsRow_nil _ _ _ _, Below.refl _ _⟩
    case round =>
      obtain ⟨j, hj, rfl, hL, hP, hb⟩ := hrel
      rw [hNN.out] at hj
      by_cases hlt : j < N
      · obtain ⟨r, hr⟩ : ∃ r, rs[j]? = some r := ⟨_, List.getElem?_eq_getElem (by rw [hNN.out]; exact hlt)⟩
        obtain ⟨rb, off, rfl, hrb, hcell⟩ := (hR1.below hb) (by rw [hNN.out]; omega)
        obtain ⟨F, c, k0, k1, hF⟩ := hcell j r hr
        have hsr := hide (hs.out r (List.mem_of_getElem? hr))
        have hstep := hide (take_rec d sl b m n rs j r hr)
        obtain ⟨st, hst⟩ : ∃ st, readRecs d sl b m n (rs.take j) = st := ⟨_, rfl⟩
        have hlen := readRecs_len d sl b m n j (rs.take j) (by rw [List.length_take, hNN.out]; omega)
        rw [hst] at hL hP hlen hstep
        obtain ⟨n1, n2, n3⟩ := hlen
        obtain ⟨line, fs⟩ := r
        dsimp only at k0 k1 hF hsr
        have hz := hb.size
        have hgr : gb < wr.heap.size := by have := hgl.out; omega
        have hrbr : rb < wr.heap.size := by omega
        clear hcell hr hst
        obtain ⟨A6, c6, rfl⟩ : ∃ A6 c6, u8 = .slice A6 st.ls.length c6 := by obtain ⟨us, -, h, -⟩ := hL; exact owns_form h
        obtain ⟨X1, hX1⟩ := lects_cells hL
        obtain ⟨⟨k, er⟩, hke⟩ : ∃ p, oneKE d sl b m n fs (codesOf st.ls) st.ls.length = p := ⟨_, rfl⟩
        have hRC : RC gb rb (off + j * 2) d sl b m line (.slice F fs.length c) wr := ⟨cell_later hb g0, cell_later hb g1, cell_later hb g2, cell_later hb g3, k0, k1⟩
        have hone := fun (W : World) (h : Below wr.heap.size wr W) => one_cut (cr := c6) hke (hS1.after hb) (hW1.after hb hS1) (hD1.after hb hS1) (hF.more hz) n1 hsr.out hX1 hRC h
        have herr := fun h => step_err (d := d) (sl := sl) (b := b) (m := m) (n := n) (line := line) (fs := fs) (s := st) n1 h
        have hok := fun h => step_ok (d := d) (sl := sl) (b := b) (m := m) (n := n) (line := line) (fs := fs) (s := st) n1 h
        have hpl := place_lt (d := d) (sl := sl) (b := b) (m := m) (n := n) (fs := fs) (codes := codesOf st.ls) (q := st.ls.length)
        rw [hke] at herr hok hpl
        dsimp only at herr hok hpl
        replace herr := hide herr
        replace hok := hide hok
        replace hpl := hide hpl
        replace hone := hide hone
        have hj0 : (0 : Int) ≤ (j : Int) := by omega
        have hj1 : (j : Int) < (N : Int) := by omega
        have hRd : RC gb rb (off + j * 2) d sl b m line (.slice F fs.length c) wr.drew := hRC.drew
        have hRC2 := hRC
        obtain ⟨q0, q1, q2, q3, q4, q5⟩ := hRC2
        clear hke hX1 k0 k1
        have hrefl := Below.refl wr.heap.size wr
        go_upto_region 8 with fail
        go_cut [11, 12, 13] (fun s11 s12 s13 wx => LectBox wr d sl b m n fs k er s11 s12 s13 wx)
        case first =>
          go_region_held3 (fun W' => W'.cell? ⟨gb, 0, none⟩ = some (.int .i64 d) ∧ W'.cell? ⟨gb, 1, none⟩ = some (.int .i64 sl) ∧ W'.cell? ⟨gb, 2, none⟩ = some (.int .i64 b) ∧ W'.cell? ⟨gb, 3, none⟩ = some (.int .i64 m) ∧ W'.cell? ⟨rb, off + j * 2, none⟩ = some (.int .i64 line) ∧ W'.cell? ⟨rb, off + j * 2 + 1, none⟩ = some (.slice F fs.length c)) (first | ((repeat (first | (with_reducible assumption) | (with_reducible refine RC.alloc ?_ _) | (with_reducible refine RC.drew ?_) | (with_reducible refine RC.set ?_ ?_ ?_ _) | omega)); done)) (first | (go_at_call 103; refine (hone.out _ (by repeat (first | (with_reducible assumption) | (with_reducible refine ext_alloc ?_ _) | (with_reducible refine ext_drew ?_)))).mono ?_; rintro e w2 ⟨code, A', q', c', rfl, ht, hb2, hc2, hz2⟩; (try simp only [World.size_alloc, size_drew'] at hz2); (try have x0 : w2.cell? ⟨wr.heap.size, 0, none⟩ = some (.string ⟨#[]⟩) := cell_later hb2 (by first | (simp; done) | omega)); (try have x1 : w2.cell? ⟨wr.heap.size, 1, none⟩ = some (.slice none 0 0) := cell_later hb2 (by first | (simp; done) | omega)); (try have qq0 : w2.frozen? ⟨wr.heap.size, 0, none⟩ = false := (hb2.frozen (p := ⟨wr.heap.size, 0, none⟩) (by first | (simp; done) | omega)).trans (by first | (simp; done) | assumption)); (try have qq1 : w2.frozen? ⟨wr.heap.size, 1, none⟩ = false := (hb2.frozen (p := ⟨wr.heap.size, 1, none⟩) (by first | (simp; done) | omega)).trans (by first | (simp; done) | assumption))))
          · go_wp2_with fail
            go_meet
            exact lectbox_new (wr := wr) (C := wr.drew.heap.size) (Nat.le_refl _) ht (below_drewA hb2) _
          · go_wp2_with fail
            go_meet
            exact lectbox_set (wr := wr) (C := wr.heap.size + 1) (Nat.le_refl _) (Nat.lt_succ_self _) x0 x1 (by have h := ht; simp only [size_drew', World.size_alloc] at h; exact h) (below_drewB hb2)
        case rest =>
          obtain ⟨tb, code, A', q', c', rfl, rfl, rfl, t0, t1, ht, hbx⟩ := hcut
          have hLw := hL.later hbx
          have hPw := owns_later hP hbx
          have hbw := ext_trans hb hbx
          have hFw := (hF.below (hbx.mono hz)).more hbw.size
          have hzc := hbx.size
          have hrbc : rb < wc.heap.size := by omega
          replace q4 := cell_later hbx q4
          replace q5 := cell_later hbx q5
          have htb : tb < wc.heap.size := World.block_lt_of_cell? _ _ t0
          clear hL hP hF hRC hRd q0 q1 q2 q3 hone hrefl
          by_cases he : er = 0
          · subst he
            obtain ⟨rfl, hT⟩ := ht rfl
            have hst2 := hide (hstep.out.trans (hok.out rfl))
            clear hstep hok herr ht hpl q4 q5 hFw
            obtain ⟨us, e1s, e2s, e3s⟩ := hLw
            have hT2 : TimesOwn w1.heap.size wc (.slice A' q' c') (staffT d sl b m n fs) := owns_lower hT hz
            clear hT
            go_wp2_with (at_builtin; refine wpList_append_own _ rfl _ _ 37 rfl w1.heap.size 49 iL (.agg #[.string ⟨#[]⟩, .slice none 0 0]) 2 40 Tryz.underlying37 hiL hL0 hL1 hL2 rfl (by decide) _ _ _ rfl (e2s.alloc _) ⟨wc.heap.size, 0, none⟩ 1 1 [.string (textAt fs 0), .slice A' q' c'] rfl rfl (new_lect _ _ _ _) ?c2 ?c3 ?c4 ?c5 ?_)
            case c2 => intro u hu; simp at hu; rcases hu with rfl | rfl <;> rfl
            case c3 => unfold maxLen; omega
            case c4 => omega
            case c5 => rw [World.size_alloc]; omega
            intro v' w4 hown4 hgrow _
            have hLn := lects_snoc us e1s (e2s.alloc _) (fun j l u h1 h2 => (e3s j l u h1 h2).alloc _) (hT2.alloc _) hgrow hown4
            have hPn : ProbsOwn w1.heap.size w4 u9 st.ps := World.ownsRow.kept (hPw.alloc (.cells #[.string (textAt fs 0), .slice A' q' c'] 49)) hgrow (own_ne (hPw.alloc (.cells #[.string (textAt fs 0), .slice A' q' c'] 49)) (e2s.alloc (.cells #[.string (textAt fs 0), .slice A' q' c'] 49)) (by decide))
            have hb4 : Below w1.heap.size w1 w4 := Below.grown (ext_alloc hbw _) hgrow (by rw [World.size_alloc]; omega) (fun y hy => (e2s.lt y hy).1)
            clear e2s e3s hT2 hPw hbw hgrow t0 t1
            go_wp2
            go_roundw
            case rel => exact ⟨j + 1, by rw [hNN.out]; omega, by go_num, by rw [hst2.out]; exact hLn, by rw [hst2.out]; exact hPn, hb4⟩
            case measure => simp [intOf]; omega
          · have he2 : (er != 0) = true := by simpa using he
            have hst2 := hide (hstep.out.trans (herr.out he))
            have hk : k < fs.length := by rcases hpl.out with h | h <;> omega
            replace he := hide he
            clear hstep hok herr ht hpl t0 t1
            go_wp2_with fail
            refine (r7Found_walk line F fs c k er _ hFw hk).mono ?_
            rintro e w3 ⟨rfl, hb3⟩
            have hLx := hLw.later hb3
            have hPx := owns_later hPw hb3
            have hb3x := ext_trans hbw hb3
            clear hLw hPw hFw q4 q5 hb3
            go_wp2_with (at_builtin; refine wpList_append_own _ rfl _ _ 31 rfl w1.heap.size 95 iP (.agg #[.int .i64 0, .int .i64 0, .int .i64 0, .int .i64 0]) 4 32 Tryz.underlying31 hiP hP0 hP1 hP2 rfl (by decide) _ _ _ rfl (hPx.alloc _) ⟨w3.heap.size, 0, none⟩ 1 1 (encP (line, placeOf fs k, er)) rfl rfl (new_prob _ _ _ _ _) (one_prob _) ?c3 ?c4 ?c5 ?_)
            case c3 => unfold maxLen; omega
            case c4 => omega
            case c5 => rw [World.size_alloc]; have := hb3x.size; omega
            intro v' w4 hPn hgrow _
            have hLn : LectsOwn w1.heap.size w4 (.slice A6 st.ls.length c6) st.ls := (hLx.later (ext_alloc (Below.refl _ _) _)).grown (hPx.alloc _) hgrow (by decide) (by decide)
            have hb4 : Below w1.heap.size w1 w4 := Below.grown (ext_alloc hb3x _) hgrow (by rw [World.size_alloc]; have := hb3x.size; omega) (fun y hy => (hPx.lt y hy).1)
            clear hLx hPx hb3x hgrow
            go_wp2
            go_roundw
            case rel => exact ⟨j + 1, by rw [hNN.out]; omega, by go_num, by rw [hst2.out]; exact hLn, by rw [hst2.out]; unfold ProbsOwn; rw [List.length_append, flatP_snoc]; exact hPn, hb4⟩
            case measure => simp [intOf]; omega
      · obtain rfl : j = N := by omega
        have hall : Hid (rs.take j = rs) := hide (by rw [← hNN.out]; exact List.take_length)
        rw [hall.out] at hL hP
        have hbw := ext_trans hbw1 hb
        clear hall g0 g1 g2 g3
        go_wp2
        go_ret2
        exact ⟨_, _, rfl, by rw [e1.out]; exact hL.lower hbw1.size, by rw [e1.out]; exact owns_lower hP hbw1.size, hbw⟩
end Go.Proofs.YtgoppjhjmonidaaGreatDoor
