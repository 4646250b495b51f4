/- Walks of timetableref03.split and Parts. Condition: texts shorter than 2^30 bytes. The grammar of rules: words of a line, selections, as the program reads them and as the reference does (plain). No walk. The grammar of rules: a rule, as the program reads it and as the reference does (plain). No walk. -/
import Derived.Test.YtdnnahdafhddlaaGreatDoorYDigits
namespace Go.Proofs.YtdnnahdafhddlaaGreatDoor
open Go.RowKit
set_option maxRecDepth 100000

theorem splitOn1_hit {c : UInt8} : ∀ (a b : List UInt8), c ∉ a → splitOn1 c (a ++ c :: b) = a :: splitOn1 c b
  | [], b, _ => by simp [splitOn1]
  | x :: a, b, h => by
    have hx : ¬ x = c := fun e => h (by simp [e])
    have ha : c ∉ a := fun e => h (by simp [e])
    simp only [List.cons_append, splitOn1, if_neg hx]
    rw [splitOn1_hit a b ha]
theorem splitOn1_end {c : UInt8} : ∀ (a : List UInt8), c ∉ a → splitOn1 c a = [a]
  | [], _ => rfl
  | x :: a, h => by
    have hx : ¬ x = c := fun e => h (by simp [e])
    have ha : c ∉ a := fun e => h (by simp [e])
    simp only [splitOn1, if_neg hx]
    rw [splitOn1_end a ha]
/-- Where the splitting of a text stands: what is cut off, from where it goes on, how far it has looked. -/
structure Cutting (L : List UInt8) (dn : List (List UInt8)) (f j : Nat) : Prop where
  le : f ≤ j
  eq : dn ++ splitOn1 59 (L.drop f) = splitOn1 59 L
  no : ∀ k, f ≤ k → k < j → L[k]? ≠ some 59
theorem piece_free {L : List UInt8} {dn : List (List UInt8)} {f j : Nat} (h : Cutting L dn f j) : (59 : UInt8) ∉ (L.drop f).take (j - f) := by
  intro hm
  obtain ⟨i, hi⟩ := List.getElem?_of_mem hm
  rw [List.getElem?_take] at hi
  split at hi
  · rw [List.getElem?_drop] at hi
    exact h.no (f + i) (by omega) (by omega) hi
  · cases hi
theorem Cutting.hit {L : List UInt8} {dn : List (List UInt8)} {f j : Nat} (h : Cutting L dn f j) (hj : L[j]? = some 59) : Cutting L (dn ++ [(L.drop f).take (j - f)]) (j + 1) (j + 1) := by
  have hl := (List.getElem?_eq_some_iff.1 hj).1
  have e : L.drop f = (L.drop f).take (j - f) ++ 59 :: L.drop (j + 1) := by
    have e1 : (L.drop f).drop (j - f) = 59 :: L.drop (j + 1) := by
      rw [List.drop_drop, show f + (j - f) = j from by have := h.le; omega, List.drop_eq_getElem_cons hl]
      congr 1
      have := List.getElem?_eq_getElem hl
      rw [this] at hj
      exact Option.some.inj hj
    rw [← e1, List.take_append_drop]
  refine ⟨Nat.le_refl _, ?_, fun k h1 h2 => by omega⟩
  have h2 := h.eq
  rw [e, splitOn1_hit _ _ (piece_free h)] at h2
  rw [← h2]
  simp
theorem Cutting.miss {L : List UInt8} {dn : List (List UInt8)} {f j : Nat} (h : Cutting L dn f j) (hj : L[j]? ≠ some 59) : Cutting L dn f (j + 1) :=
  ⟨by have := h.le; omega, h.eq, fun k h1 h2 => by
    by_cases e : k = j
    · subst e; exact hj
    · exact h.no k h1 (by omega)⟩
theorem Cutting.done {L : List UInt8} {dn : List (List UInt8)} {f : Nat} (h : Cutting L dn f L.length) : dn ++ [L.drop f] = splitOn1 59 L := by
  have h1 := piece_free h
  rw [List.take_of_length_le (by rw [List.length_drop]; omega)] at h1
  have h2 := h.eq
  rw [splitOn1_end _ h1] at h2
  exact h2
theorem extract_list (s : ByteArray) (f j : Nat) : (s.extract f j).data.toList = (s.data.toList.drop f).take (j - f) := by
  simp
def SplitLoop (s : ByteArray) (w : World) (v f i : Value) (wr : World) : Prop :=
  ∃ (dn : List (List UInt8)) (fn j : Nat), f = .int .i64 fn ∧ i = .int .i64 j ∧ dn.length ≤ j ∧ StrsAt w.heap.size wr v dn ∧ Below w.heap.size w wr ∧ ((j ≤ s.size ∧ Cutting s.data.toList dn fn j) ∨ (j = s.size + 1 ∧ dn = splitOn1 59 s.data.toList))
def SplitGives (s : ByteArray) (w : World) (e : Ending) (w' : World) : Prop := ∃ v, e = .returned v ∧ StrsAt w.heap.size w' v (splitOn1 59 s.data.toList) ∧ Below w.heap.size w w'
theorem strs_snoc {B : Nat} {W : World} {v : Value} {dn : List (List UInt8)} {x : List UInt8} {z : ByteArray} (hz : z.data.toList = x) (h : W.ownsRow B 9 1 v (dn.length + 1) ((dn.map fun x => Value.string ⟨x.toArray⟩) ++ [.string z])) : StrsAt B W v (dn ++ [x]) := by
  unfold StrsAt
  rw [List.length_append, List.map_append]
  have e : (⟨x.toArray⟩ : ByteArray) = z := by subst hz; rfl
  simp only [List.map_cons, List.map_nil, List.length_cons, List.length_nil, e]
  exact h
set_option maxHeartbeats 4000000 in
theorem r3split_walk (s : ByteArray) (hs : s.size < 1073741824) (w : World) :
    Calls Tryz.prog 158 #[.string s] w fun e w' => SplitGives s w e w' := by
  obtain ⟨i0, hi, hz0, hz1, hz2⟩ := info_parts infoStr
  have hls := ba_len s
  replace hls := hide hls
  go_enter Tryz.func158, Tryz.ntmps158
  go_wp2
  go_loopw [3, 4, 5] (fun v f i wr => SplitLoop s w v f i wr) (fun _ _ i _ => s.size + 1 - (intOf i).toNat)
  case atStart => exact ⟨[], 0, 0, rfl, rfl, Nat.le_refl _, StrsAt.nil _ _, Below.refl _ _, .inl ⟨Nat.zero_le _, ⟨Nat.le_refl _, rfl, fun k h1 h2 => by omega⟩⟩⟩
  case round =>
    obtain ⟨dn, fn, j, rfl, rfl, hdl, hown, hb, hst⟩ := hrel
    have hz := hb.size
    rcases hst with ⟨hj, hc⟩ | ⟨rfl, rfl⟩
    · by_cases hlt : j < s.size
      · have hfl := hc.le
        have e1 : ((j : Int) == (s.size : Int)) = false := by simp; omega
        by_cases h59 : s[j].toNat = 59
        · have hat : s.data.toList[j]? = some 59 := by
            rw [List.getElem?_eq_getElem (by rw [hls.out]; exact hlt)]
            congr 1
            exact UInt8.toNat_inj.1 h59
          have hcn := hide (hc.hit hat)
          have hx := extract_list s fn j
          replace hx := hide hx
          clear hat hc
          go_wp2_with (at_builtin; refine wpList_append_own _ rfl _ _ 35 rfl w.heap.size 9 i0 (.string ⟨#[]⟩) 1 16 Tryz.underlying35 hi hz0 hz1 hz2 rfl (by decide) _ _ _ rfl (World.ownsRow.alloc hown _) ⟨wr.heap.size, 0, none⟩ 1 1 [.string (s.extract fn j)] rfl rfl (new_one _ _ _) one_str ?c3 ?c4 ?c5 ?_)
          case c3 => unfold maxLen; omega
          case c4 => omega
          case c5 => rw [World.size_alloc]; omega
          intro v' w4 hown4 hgrow _
          have hb4 : Below w.heap.size w w4 := Below.grown (ext_alloc hb _) hgrow (by rw [World.size_alloc]; omega) (fun y hy => (World.ownsRow.lt hown y hy).1)
          have hO := strs_snoc hx.out hown4
          clear hown hown4 hb
          go_wp2
          go_roundw
          case rel => exact ⟨_, j + 1, j + 1, by go_num, by go_num, by rw [List.length_append]; simp; omega, hO, hb4, .inl ⟨by omega, hcn.out⟩⟩
          case measure => simp [intOf]; omega
        · have hat : s.data.toList[j]? ≠ some 59 := by
            rw [List.getElem?_eq_getElem (by rw [hls.out]; exact hlt)]
            intro e
            injection e with e
            exact h59 (by have : s[j] = 59 := e; rw [this]; rfl)
          have hcn := hide (hc.miss hat)
          obtain ⟨c, hcc⟩ : ∃ c, s[j].toNat = c := ⟨_, rfl⟩
          rw [hcc] at h59
          have e2 : ((c : Int) == 59) = false := by simp; omega
          clear hat hc h59
          go_wp2
          go_roundw
          case rel => exact ⟨dn, fn, j + 1, rfl, by go_num, by omega, hown, hb, .inl ⟨by omega, hcn.out⟩⟩
          case measure => simp [intOf]; omega
      · obtain rfl : j = s.size := by omega
        have hfl := hc.le
        have e1 : ((s.size : Int) == (s.size : Int)) = true := by simp
        have hd := hide (show dn ++ [(s.extract fn s.size).data.toList] = splitOn1 59 s.data.toList by
          rw [extract_list, List.take_of_length_le (by rw [List.length_drop, hls.out]; omega)]
          have hc' := hc
          rw [← hls.out] at hc'
          exact hc'.done)
        clear hc
        go_wp2_with (at_builtin; refine wpList_append_own _ rfl _ _ 35 rfl w.heap.size 9 i0 (.string ⟨#[]⟩) 1 16 Tryz.underlying35 hi hz0 hz1 hz2 rfl (by decide) _ _ _ rfl (World.ownsRow.alloc hown _) ⟨wr.heap.size, 0, none⟩ 1 1 [.string (s.extract fn s.size)] rfl rfl (new_one _ _ _) one_str ?c3 ?c4 ?c5 ?_)
        case c3 => unfold maxLen; omega
        case c4 => omega
        case c5 => rw [World.size_alloc]; omega
        intro v' w4 hown4 hgrow _
        have hb4 : Below w.heap.size w w4 := Below.grown (ext_alloc hb _) hgrow (by rw [World.size_alloc]; omega) (fun y hy => (World.ownsRow.lt hown y hy).1)
        have hO := strs_snoc rfl hown4
        rw [hd.out] at hO
        have hdl2 : (splitOn1 59 s.data.toList).length ≤ s.size + 1 := by rw [← hd.out, List.length_append]; simp; omega
        clear hown hown4 hb
        go_wp2
        go_roundw
        case rel => exact ⟨_, s.size + 1, s.size + 1, by go_num, by go_num, hdl2, hO, hb4, .inr ⟨rfl, rfl⟩⟩
        case measure => simp [intOf]
    · go_wp2
      go_ret
      exact ⟨_, rfl, hown, hb⟩
/-- The pieces, as they are told of strings.Split. -/
theorem parts_split {s : ByteArray} (h : s.size ≠ 0) : (partsOf s).map (·.data.toList) = splitOn1 59 s.data.toList := by
  unfold partsOf
  rw [if_neg h]
  exact splitB_one 59 s
end Go.Proofs.YtdnnahdafhddlaaGreatDoor

namespace Go.Proofs.YtdnnahdafhddlaaGreatDoor
set_option maxRecDepth 100000

/-- A selection: its kind, its name, its parts. -/
inductive Sel where
  | mk (kind : Int) (name : ByteArray) (kids : List Sel)
def wordC (c : UInt8) : Bool := (decide (97 ≤ c) && decide (c ≤ 122)) || (decide (65 ≤ c) && decide (c ≤ 90)) || (decide (48 ≤ c) && decide (c ≤ 57)) || c == 95 || c == 45
def signC (c : UInt8) : Bool := c == 58 || c == 44 || c == 40 || c == 41 || c == 91 || c == 93
def blankC (c : UInt8) : Bool := c == 32 || c == 9
/-- The place behind the bytes of a sort that stand from a place on. -/
def passT (p : UInt8 → Bool) (t : ByteArray) (a : Nat) : Nat :=
  if h : a < t.size then (if p (t.get a h) then passT p t (a + 1) else a) else a
  termination_by t.size - a
theorem passT_le (p : UInt8 → Bool) (t : ByteArray) : ∀ (k a : Nat), t.size - a = k → a ≤ passT p t a ∧ (a ≤ t.size → passT p t a ≤ t.size)
  | 0, a, hk => by
    unfold passT
    rw [dif_neg (by omega)]
    exact ⟨Nat.le_refl _, fun h => h⟩
  | k + 1, a, hk => by
    unfold passT
    by_cases h : a < t.size
    · rw [dif_pos h]
      by_cases hp : p (t.get a h) = true
      · rw [if_pos hp]
        have := passT_le p t k (a + 1) (by omega)
        exact ⟨by omega, fun _ => this.2 (by omega)⟩
      · rw [if_neg hp]; exact ⟨Nat.le_refl _, fun h => h⟩
    · omega
theorem passT_ge (p : UInt8 → Bool) (t : ByteArray) (a : Nat) : a ≤ passT p t a := (passT_le p t _ a rfl).1
theorem passT_in (p : UInt8 → Bool) (t : ByteArray) {a : Nat} (h : a ≤ t.size) : passT p t a ≤ t.size := (passT_le p t _ a rfl).2 h
/-- Passing twice is passing once. -/
theorem passT_twice (p : UInt8 → Bool) (t : ByteArray) : ∀ (k a : Nat), t.size - a = k → passT p t (passT p t a) = passT p t a
  | 0, a, hk => by
    have h : passT p t a = a := by unfold passT; rw [dif_neg (by omega)]
    rw [h, h]
  | k + 1, a, hk => by
    by_cases h : a < t.size
    · by_cases hp : p (t.get a h) = true
      · have e : passT p t a = passT p t (a + 1) := by rw [passT, dif_pos h, if_pos hp]
        rw [e]
        exact passT_twice p t k (a + 1) (by omega)
      · have e : passT p t a = a := by rw [passT, dif_pos h, if_neg hp]
        rw [e, e]
    · omega
/-- The next word or sign, and where it stands; or the place of a byte that is none. -/
inductive Look where
  | tok (text : ByteArray) (at_ : Nat)
  | bad (at_ : Nat)
def startT (t : ByteArray) (a : Nat) : Nat := passT blankC t a
def lookT (t : ByteArray) (e a : Nat) : Look :=
  if h : startT t a < t.size then
    if startT t a < passT wordC t (startT t a) then .tok (t.extract (startT t a) (passT wordC t (startT t a))) (startT t a)
    else if signC (t.get (startT t a) h) then .tok (t.extract (startT t a) (startT t a + 1)) (startT t a)
    else .bad (startT t a)
  else .tok ⟨#[]⟩ e
theorem startT_twice (t : ByteArray) (a : Nat) : startT t (startT t a) = startT t a := passT_twice _ _ _ _ rfl
theorem lookT_start (t : ByteArray) (e a : Nat) : lookT t e (startT t a) = lookT t e a := by
  unfold lookT
  simp only [startT_twice]
/-- What a reader gives: an error and its place, or a value and the place behind it. -/
abbrev Res (α : Type) := Except (Nat × Int) (α × Nat)
def nextP (t : ByteArray) (e a : Nat) : Res (ByteArray × Nat) :=
  match lookT t e a with
  | .bad b => .error (b, 5)
  | .tok x p => .ok ((x, p), startT t a + x.size)
def needP (t : ByteArray) (e : Nat) (w : ByteArray) (a : Nat) : Res Unit :=
  match nextP t e a with
  | .error x => .error x
  | .ok ((x, p), b) => if x = w then .ok ((), b) else .error (p, 15)
def identP (ok : ByteArray → Bool) (t : ByteArray) (e a : Nat) : Res ByteArray :=
  match nextP t e a with
  | .error x => .error x
  | .ok ((x, p), b) => if ok x then .ok (x, b) else .error (p, 15)
def oneOf (kind : Int) : List Sel → Sel
  | [s] => s
  | l => .mk kind ⟨#[]⟩ l
/-- Parts with a word between them, behind the first ones. -/
def moreP (t : ByteArray) (e : Nat) (part : Nat → Res Sel) (w : ByteArray) (kind : Int) : Nat → List Sel → Nat → Res Sel
  | 0, _, a => match lookT t e a with
    | .bad b => .error (b, 5)
    | .tok _ _ => .error (0, 0)
  | n + 1, l, a =>
    match lookT t e a with
    | .bad b => .error (b, 5)
    | .tok x _ => if x = w then
        match part (startT t a + x.size) with
        | .error y => .error y
        | .ok (s, b) => moreP t e part w kind n (l ++ [s]) b
      else .ok (oneOf kind l, startT t a)
def serP (t : ByteArray) (e : Nat) (part : Nat → Res Sel) (w : ByteArray) (kind : Int) (a : Nat) : Res Sel :=
  match part a with
  | .error y => .error y
  | .ok (s, b) => moreP t e part w kind (t.size + 1) [s] b
def xNot : ByteArray := ⟨#[110, 111, 116]⟩
def xAll : ByteArray := ⟨#[97, 108, 108]⟩
def xAnd : ByteArray := ⟨#[97, 110, 100]⟩
def xOr : ByteArray := ⟨#[111, 114]⟩
def xOpen : ByteArray := ⟨#[40]⟩
def xShut : ByteArray := ⟨#[41]⟩
/-- A name's kind, from 2 on; 0 for none. -/
def leafK (ws : List ByteArray) (x : ByteArray) : Nat := ws.findIdx (fun w => decide (w = x))
def atomP (ok : ByteArray → Bool) (ws : List ByteArray) (t : ByteArray) (e : Nat) : Nat → Nat → Res Sel
  | 0, a => match lookT t e a with
    | .bad b => .error (b, 5)
    | .tok _ _ => .error (0, 0)
  | f + 1, a =>
    match nextP t e a with
    | .error y => .error y
    | .ok ((x, p), b) =>
      if x = xNot then
        match atomP ok ws t e f b with
        | .error y => .error y
        | .ok (s, c) => .ok (.mk 10 ⟨#[]⟩ [s], c)
      else if x = xOpen then
        match serP t e (serP t e (atomP ok ws t e f) xAnd 8) xOr 9 b with
        | .error y => .error y
        | .ok (s, c) =>
          match needP t e xShut c with
          | .error y => .error y
          | .ok (_, d) => .ok (s, d)
      else if x = xAll then .ok (.mk 1 ⟨#[]⟩ [], b)
      else if leafK ws x < ws.length then
        match identP ok t e b with
        | .error y => .error y
        | .ok (n, c) => .ok (.mk (2 + (leafK ws x : Int)) n [], c)
      else .error (p, 15)
def zSel : Sel := .mk 0 ⟨#[]⟩ []
end Go.Proofs.YtdnnahdafhddlaaGreatDoor

namespace Go.Proofs.YtdnnahdafhddlaaGreatDoor
set_option maxRecDepth 100000

def xColon : ByteArray := ⟨#[58]⟩
def xComma : ByteArray := ⟨#[44]⟩
def xSq : ByteArray := ⟨#[91]⟩
def xHard : ByteArray := ⟨#[104, 97, 114, 100]⟩
def xNone : ByteArray := ⟨#[]⟩
/-- What a rule's line says, before its times and rooms are read. -/
structure RuleT where
  name : ByteArray
  weight : Nat
  kind : Nat
  n : Nat
  first : Sel
  second : Sel
  parts : List ByteArray
/-- What the grammar leans on: which texts are codes, the words of the selections and of the kinds, numbers, the parts of a text in brackets. -/
structure Gram where
  ok : ByteArray → Bool
  ws : List ByteArray
  ks : List ByteArray
  num : ByteArray → Option Nat
  split : ByteArray → List ByteArray
def numbK (k : Nat) : Bool := k == 7 || k == 8 || k == 9
section
variable (G : Gram) (t : ByteArray) (e : Nat)
def selP (f : Nat) : Nat → Res Sel := serP t e (serP t e (atomP G.ok G.ws t e f) xAnd 8) xOr 9
def brackP (a : Nat) : Res (List ByteArray) :=
  match nextP t e a with
  | .error y => .error y
  | .ok ((x, p), b) => if x = xSq then
      (if passT (fun c => c != 93) t b < t.size then .ok (G.split (t.extract b (passT (fun c => c != 93) t b)), passT (fun c => c != 93) t b + 1) else .error (p, 15))
    else .error (p, 15)
def weightP (a : Nat) : Res Nat :=
  match nextP t e a with
  | .error y => .error y
  | .ok ((x, p), b) => if x = xHard then .ok (0, b) else
    match G.num x with
    | some (n + 1) => .ok (n + 1, b)
    | _ => .error (p, 15)
def digP (a : Nat) : Res Nat :=
  match nextP t e a with
  | .error y => .error y
  | .ok ((x, p), b) =>
    match G.num x with
    | some n => .ok (n, b)
    | none => .error (p, 15)
def kindP (a : Nat) : Res Nat :=
  match nextP t e a with
  | .error y => .error y
  | .ok ((x, p), b) => if leafK G.ks x < G.ks.length then .ok (leafK G.ks x + 1, b) else .error (p, 15)
/-- What stands behind the first selection. -/
def lastP (f k a : Nat) : Res (Sel × List ByteArray) :=
  if k = 6 then
    match needP t e xComma a with
    | .error y => .error y
    | .ok (_, b) =>
      match selP G t e f b with
      | .error y => .error y
      | .ok (s, c) => .ok ((s, []), c)
  else if k = 10 ∨ k = 11 then
    match needP t e xComma a with
    | .error y => .error y
    | .ok (_, b) =>
      match brackP G t e b with
      | .error y => .error y
      | .ok (l, c) => .ok ((zSel, l), c)
  else .ok ((zSel, []), a)
/-- One reader behind another. -/
def thenP {α β : Type} (p : Nat → Res α) (q : α → Nat → Res β) (a : Nat) : Res β :=
  match p a with
  | .error y => .error y
  | .ok (x, b) => q x b
def pureP {α : Type} (x : α) (a : Nat) : Res α := .ok (x, a)
def numbP (k : Nat) : Nat → Res Nat := if numbK k then digP G t e else pureP 0
def tailP (f : Nat) (nm : ByteArray) (w k n : Nat) (s : Sel) : Nat → Res RuleT := thenP (lastP G t e f k) fun x => thenP (needP t e xNone) fun _ => pureP ⟨nm, w, k, n, s, x.1, x.2⟩
def ruleP (f : Nat) : Nat → Res RuleT :=
  thenP (identP G.ok t e) fun nm => thenP (needP t e xColon) fun _ => thenP (weightP G t e) fun w => thenP (kindP G t e) fun k => thenP (numbP G t e k) fun n => thenP (selP G t e f) fun s => tailP G t e f nm w k n s
end
end Go.Proofs.YtdnnahdafhddlaaGreatDoor
