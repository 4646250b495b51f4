/- Walks of the comparisons of codes, down to their elements. No condition. Walks of codes.elements, Compare and timetableref03.Compare. Conditions: the texts' lengths are ints. -/
import Derived.Test.YtimcdikeajbabaaGreatDoorRows
import Derived.WalkKit
import Derived.WalkSpells
import Derived.WalkLawsBesides
import Derived.BigGuardPart
import Derived.Lib.Hide
import Derived.Laws.BitsAllLaws
import Derived.Laws.BitsLemmas
import Derived.Lib.LaidTab
import Derived.Test.YtimcdikeajbabaaGreatDoorShelf
import Derived.Lib.ConvBytes
import Derived.Deep.QuietTactic
import Derived.BigQuiet
import Derived.Laws.ResultCell
import Derived.RegionTactic
import Derived.BigRegion
import Derived.Deep.RegionHeld3
import Derived.Deep.DeepCutAuto
import Derived.Lib.SmallJoins
import Derived.Lib.SplitLaws
import Derived.Lib.CountLaws
import Derived.Lib.IndexMore
import Derived.Lib.Split
import Derived.Lib.Join
import Derived.Lib.ItoaNum
import Derived.Laws.AppendOwn
import Derived.Test.YtimcdikeajbabaaGreatDoorShelfT
import Derived.Test.YtimcdikeajbabaaGreatDoorQFieldsC
namespace Go.Proofs.YtimcdikeajbabaaGreatDoor
open Go.RowKit
set_option maxRecDepth 100000

/-! Plain. -/
def ordL (x y : List UInt8) : Int := if Op.bytesLess x y then -1 else if x == y then 0 else 1
def runD (d : Bool) : List UInt8 → Nat
  | [] => 0
  | c :: r => if digN c.toNat = d then runD d r + 1 else 0
/-- The length of the first element. -/
def elemN : List UInt8 → Nat
  | [] => 0
  | c :: r => runD (digN c.toNat) r + 1
theorem runD_eq {d : Bool} : ∀ (l : List UInt8) (n : Nat), n ≤ l.length → (∀ j, j < n → digN (l.getD j 0).toNat = d) → (n = l.length ∨ digN (l.getD n 0).toNat ≠ d) → runD d l = n
  | [], n, h, _, _ => by simp at h; subst h; rfl
  | c :: r, 0, _, _, h => by
    rcases h with h | h
    · cases h
    · rw [runD, if_neg (show ¬ digN c.toNat = d from h)]
  | c :: r, n + 1, h0, h1, h2 => by
    rw [runD, if_pos (show digN c.toNat = d from h1 0 (by omega)), runD_eq r n (by simpa using h0) (fun j hj => by simpa using h1 (j + 1) (by omega)) (by rcases h2 with h | h; exact .inl (by simpa using h); exact .inr (by simpa using h))]
theorem elemN_eq {l : List UInt8} {n : Nat} (h0 : 1 ≤ n) (h : n ≤ l.length) (h1 : ∀ j, j < n → digN (l.getD j 0).toNat = digN (l.getD 0 0).toNat) (h2 : n = l.length ∨ digN (l.getD n 0).toNat ≠ digN (l.getD 0 0).toNat) : elemN l = n := by
  match l, n, h0, h with
  | c :: r, n + 1, _, h =>
    rw [elemN, runD_eq r n (by simpa using h) (fun j hj => by simpa using h1 (j + 1) (by omega)) (by rcases h2 with h | h; exact .inl (by simpa using h); exact .inr (by simpa using h))]
theorem elemN_le (l : List UInt8) (h : 0 < l.length) : 1 ≤ elemN l ∧ elemN l ≤ l.length := by
  have hr : ∀ (d : Bool) (l : List UInt8), runD d l ≤ l.length := by
    intro d l
    induction l with
    | nil => exact Nat.le_refl _
    | cons c r ih => unfold runD; split <;> simp only [List.length_cons] <;> omega
  match l, h with
  | c :: r, _ => exact ⟨Nat.succ_le_succ (Nat.zero_le _), Nat.succ_le_succ (hr _ r)⟩
theorem ext_list (s : ByteArray) (f j : Nat) : (s.extract f j).data.toList = (s.data.toList.drop f).take (j - f) := by
  simp
theorem len_size (s : ByteArray) : s.data.toList.length = s.size := by simp
set_option maxHeartbeats 1000000 in
theorem isnan_walk (x : ByteArray) (w : World) : Calls Tryz.prog 251 #[.string x] w fun e w' => e = .returned (.bool false) ∧ w = w' := by
  have hq : (x.toList == x.toList) = true := by simp
  go_enter Tryz.func251, Tryz.ntmps251
  go_wp2
  go_ret
  exact ⟨rfl, rfl⟩
/-- cmp.Or of two. -/
theorem or_walk (b : Nat) (x y : Int) (w : World) (h0 : w.cell? ⟨b, 0, none⟩ = some (.int .i64 x)) (h1 : w.cell? ⟨b, 1, none⟩ = some (.int .i64 y)) :
    Calls Tryz.prog 154 #[.slice (some ⟨b, 0, none⟩) 2 2] w fun e w' => e = .returned (.int .i64 (if x ≠ 0 then x else y)) ∧ w = w' := by
  have hl : b < w.heap.size := World.block_lt_of_cell? _ _ h0
  by_cases hx : x = 0
  · subst hx
    rw [if_neg (by simp)]
    by_cases hy : y = 0
    · subst hy
      go_enter Tryz.func154, Tryz.ntmps154
      go_wp2
      go_loop [8] (fun i => ∃ j : Nat, j ≤ 2 ∧ i = .int .i64 j) (fun i => 2 - (intOf i).toNat)
      case atStart => exact ⟨0, Nat.zero_le _, rfl⟩
      case round =>
        obtain ⟨j, hj, rfl⟩ := hrel
        match j, hj with
        | 0, _ =>
          go_wp2
          go_round
          case rel => exact ⟨1, by omega, by go_num⟩
          case measure => decide
        | 1, _ =>
          go_wp2
          go_round
          case rel => exact ⟨2, by omega, by go_num⟩
          case measure => decide
        | 2, _ =>
          go_wp2
          go_ret
          exact ⟨rfl, rfl⟩
    · have hy2 : (y != 0) = true := by simpa using hy
      go_enter Tryz.func154, Tryz.ntmps154
      go_wp2
      go_loop [8] (fun i => ∃ j : Nat, j ≤ 1 ∧ i = .int .i64 j) (fun i => 2 - (intOf i).toNat)
      case atStart => exact ⟨0, Nat.zero_le _, rfl⟩
      case round =>
        obtain ⟨j, hj, rfl⟩ := hrel
        match j, hj with
        | 0, _ =>
          go_wp2
          go_round
          case rel => exact ⟨1, by omega, by go_num⟩
          case measure => decide
        | 1, _ =>
          go_wp2
          all_goals first | (exfalso; omega) | (go_ret; exact ⟨rfl, rfl⟩)
  · rw [if_pos hx]
    have hx2 : (x != 0) = true := by simpa using hx
    go_enter Tryz.func154, Tryz.ntmps154
    go_wp2
    go_loop [8] (fun i => i = .int .i64 0) (fun i => 2 - (intOf i).toNat)
    case atStart => rfl
    case round =>
      subst hrel
      go_wp2
      all_goals first | (exfalso; omega) | (go_ret; exact ⟨rfl, rfl⟩)
/-! Elements. -/
def dgAt (s : ByteArray) (k : Nat) : Bool := digN (s.data.toList.getD k 0).toNat
theorem dgAt_of {s : ByteArray} {k : Nat} (h : k < s.size) : digN s[k].toNat = dgAt s k := by unfold dgAt; rw [byte_at s k h]
theorem elem_done {s : ByteArray} {n : Nat} (h0 : 1 ≤ n) (h : n ≤ s.size) (h1 : ∀ j, j < n → dgAt s j = dgAt s 0) (h2 : n = s.size ∨ dgAt s n ≠ dgAt s 0) : elemN s.data.toList = n :=
  elemN_eq h0 (by rw [len_size]; exact h) h1 (by rw [len_size]; exact h2)
def R3Elem (s : ByteArray) (w : World) (e : Ending) (w' : World) : Prop :=
  ∃ X Y : ByteArray, e = .returned (.tuple #[.string X, .string Y]) ∧ X.data.toList = s.data.toList.take (elemN s.data.toList) ∧ Y.data.toList = s.data.toList.drop (elemN s.data.toList) ∧ Below w.heap.size w w'
/-! A number without zeros in front. -/
def bareL : List UInt8 → List UInt8
  | [] => []
  | c :: r => if c = 48 then bareL r else c :: r
theorem bareL_step {s : ByteArray} (h : 0 < s.size) : bareL s.data.toList = if s[0] = 48 then bareL (s.data.toList.drop 1) else s.data.toList := by
  have h1 : s.data.toList = s[0] :: s.data.toList.drop 1 := by
    have := List.drop_eq_getElem_cons (l := s.data.toList) (i := 0) (by simpa using h)
    rw [List.drop_zero] at this
    exact this
  rw [h1, bareL]
  simp
def szV : Value → Nat
  | .string s => s.size
  | _ => 0
end Go.Proofs.YtimcdikeajbabaaGreatDoor

namespace Go.Proofs.YtimcdikeajbabaaGreatDoor
open Go.RowKit
set_option maxRecDepth 100000

def dg0 (l : List UInt8) : Bool := digN (l.getD 0 0).toNat
def numC (u v : List UInt8) : Int := if u.length < v.length then -1 else if v.length < u.length then 1 else ordL u v
def elemC (p q : List UInt8) : Int := if dg0 p = true then (if dg0 q = true then numC (bareL p) (bareL q) else -1) else if dg0 q = true then 1 else ordL p q
def endC (a b x y : List UInt8) : Int := if x = [] then (if y = [] then ordL a b else -1) else if y = [] then 1 else ordL a b
def cmpF (a b : List UInt8) : Nat → List UInt8 → List UInt8 → Int
  | 0, x, y => endC a b x y
  | n + 1, x, y => if x = [] ∨ y = [] then endC a b x y else
    if elemC (x.take (elemN x)) (y.take (elemN y)) ≠ 0 then elemC (x.take (elemN x)) (y.take (elemN y)) else cmpF a b n (x.drop (elemN x)) (y.drop (elemN y))
def compareV (a b : List UInt8) : Int := cmpF a b a.length a b
theorem trim_bare : ∀ l : List UInt8, Lib.trimLeftB l 48 = bareL l
  | [] => rfl
  | c :: r => by
    have ih := trim_bare r
    unfold Lib.trimLeftB at ih ⊢
    rw [List.dropWhile_cons, bareL]
    by_cases h : c = 48
    · rw [if_pos h, if_pos (by simpa using h)]; exact ih
    · rw [if_neg h, if_neg (by simpa using h)]
theorem cmpF_end {a b : List UInt8} {n : Nat} {x y : List UInt8} (h : x = [] ∨ y = []) : cmpF a b n x y = endC a b x y := by
  cases n with
  | zero => rfl
  | succ n => rw [cmpF, if_pos h]
theorem cmpF_next {a b : List UInt8} {n : Nat} {x y : List UInt8} (hx : x ≠ []) (hy : y ≠ []) (hn : x.length ≤ n) : ∃ n', n = n' + 1 ∧ cmpF a b n x y = if elemC (x.take (elemN x)) (y.take (elemN y)) ≠ 0 then elemC (x.take (elemN x)) (y.take (elemN y)) else cmpF a b n' (x.drop (elemN x)) (y.drop (elemN y)) := by
  have h0 : 0 < x.length := List.length_pos_iff.2 hx
  obtain ⟨n', rfl⟩ : ∃ n', n = n' + 1 := ⟨n - 1, by omega⟩
  exact ⟨n', rfl, by rw [cmpF, if_neg (fun h => h.elim hx hy)]⟩
theorem dg0_of {s : ByteArray} (h : 0 < s.size) : digN s[0].toNat = dg0 s.data.toList := by rw [dgAt_of h]; rfl
theorem toList_dataL (s : ByteArray) : s.toList = s.data.toList := ByteArray.toList_eq s
theorem numC_or (u v : List UInt8) : (if Lib.compareInt u.length v.length ≠ 0 then Lib.compareInt u.length v.length else ordL u v) = numC u v := by
  unfold Lib.compareInt numC
  by_cases h1 : u.length < v.length
  · rw [if_pos (by omega : (u.length : Int) < v.length), if_pos h1]; rfl
  · by_cases h2 : v.length < u.length
    · rw [if_neg (by omega : ¬ (u.length : Int) < v.length), if_pos (by omega : (u.length : Int) > v.length), if_neg h1, if_pos h2]; rfl
    · rw [if_neg (by omega : ¬ (u.length : Int) < v.length), if_neg (by omega : ¬ (u.length : Int) > v.length), if_neg h1, if_neg h2]; rfl
end Go.Proofs.YtimcdikeajbabaaGreatDoor
