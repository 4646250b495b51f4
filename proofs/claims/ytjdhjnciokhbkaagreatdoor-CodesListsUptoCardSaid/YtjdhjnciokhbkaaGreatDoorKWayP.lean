/- Walks of fields.Digits, Scanner.Number, timetableref03.number, Digits: texts of digits. Conditions: at most 18 of them. Walks of Scanner.Number (the first digit may be 0), timetableref03.number, timetableref03.Digits. Conditions: at most 18 digits. Walks of slices.IndexFunc and ContainsFunc at ways with travel's same. Conditions: the cells. Walk of the closure of travel.Read: one way is read. Conditions: the scanner's cells are as Scan says. Plain: ways without a repeated pair between at most eight buildings are at most 64. No program here. Walk of fields.Read at ways. Conditions: texts shorter than 2^30 bytes. Plain: the problem of a way, told as the document's reading of one way tells it. No program here. -/
import Derived.Test.YtjdhjnciokhbkaaGreatDoorKFieldsC
import Derived.Test.YtjdhjnciokhbkaaGreatDoorShelfT
import Derived.Test.YtjdhjnciokhbkaaGreatDoorKTgF
import Derived.Test.YtjdhjnciokhbkaaGreatDoorKWayA
import Derived.Test.YtjdhjnciokhbkaaGreatDoorKAwake9
import Derived.Test.YtjdhjnciokhbkaaGreatDoorKSameL
namespace Go.Proofs.YtjdhjnciokhbkaaGreatDoor
open Go.RowKit
set_option maxRecDepth 100000

def cutDigits : ByteArray := ⟨#[48, 49, 50, 51, 52, 53, 54, 55, 56, 57]⟩
/-- All bytes are digits. -/
def digS (s : ByteArray) : Bool := s.data.toList.all fun b => digN b.toNat
theorem cut_has (b : UInt8) : cutDigits.data.toList.contains b = digN b.toNat := by
  have h : ∀ n : Fin 256, cutDigits.data.toList.contains (UInt8.ofNat n.val) = digN n.val := by decide
  have := h ⟨b.toNat, b.toNat_lt⟩
  simpa using this
theorem drop_all {p : UInt8 → Bool} : ∀ {l : List UInt8}, l.all p = true → l.dropWhile p = []
  | [], _ => rfl
  | b :: l, h => by
    rw [List.all_cons, Bool.and_eq_true] at h
    rw [List.dropWhile_cons, if_pos h.1]
    exact drop_all h.2
theorem all_drop {p : UInt8 → Bool} : ∀ {l : List UInt8}, l.dropWhile p = [] → l.all p = true
  | [], _ => rfl
  | b :: l, h => by
    rw [List.dropWhile_cons] at h
    split at h
    · rename_i hb; rw [List.all_cons, hb, all_drop h]; rfl
    · cases h
theorem trim_all (s : ByteArray) : Lib.trimS s.data.toList cutDigits.data.toList = [] ↔ digS s = true := by
  have hf : (fun b => cutDigits.data.toList.contains b) = fun b : UInt8 => digN b.toNat := funext cut_has
  unfold Lib.trimS Lib.trimLeftS Lib.trimRightS digS
  rw [hf]
  constructor
  · intro h
    have h1 := all_drop h
    rw [List.all_reverse] at h1
    cases hd : List.dropWhile (fun b : UInt8 => digN b.toNat) s.data.toList.reverse with
    | nil => have := all_drop hd; rwa [List.all_reverse] at this
    | cons a t =>
      rw [hd, List.all_cons, Bool.and_eq_true] at h1
      have : ∀ {l : List UInt8}, List.dropWhile (fun b : UInt8 => digN b.toNat) l = a :: t → digN a.toNat = false := by
        intro l
        induction l with
        | nil => intro h; cases h
        | cons b l ih =>
          intro h
          rw [List.dropWhile_cons] at h
          split at h
          · exact ih h
          · rename_i hb; injection h with h2; subst h2; simpa using hb
      rw [this hd] at h1
      cases h1.1
  · intro h
    rw [drop_all (l := s.data.toList.reverse) (by rw [List.all_reverse]; exact h)]
    rfl
/-- The number that digits spell. -/
def valS (s : ByteArray) : Nat := (Lib.decFrom 0 s.data.toList).getD 0
def valTo (s : ByteArray) (k : Nat) : Nat := (Lib.decFrom 0 (s.data.toList.take k)).getD 0
theorem dec_some : ∀ {l : List UInt8} (a : Nat), (l.all fun b => digN b.toNat) = true → ∃ n, Lib.decFrom a l = some n ∧ n + 1 ≤ (a + 1) * 10 ^ l.length
  | [], a, _ => ⟨a, rfl, by simp⟩
  | b :: l, a, h => by
    rw [List.all_cons, Bool.and_eq_true] at h
    obtain ⟨h1, h2⟩ := h
    have h1 : 48 ≤ b.toNat ∧ b.toNat ≤ 57 := of_decide_eq_true h1
    obtain ⟨n, hn, hb⟩ := dec_some (a * 10 + (b.toNat - 48)) h2
    refine ⟨n, by simp only [Lib.decFrom, Lib.digitVal, if_pos h1]; exact hn, ?_⟩
    rw [List.length_cons, Nat.pow_succ, Nat.mul_comm (10 ^ _) 10, ← Nat.mul_assoc]
    exact Nat.le_trans hb (Nat.mul_le_mul_right _ (by omega))
theorem dig_val {s : ByteArray} (h : digS s = true) : Lib.decFrom 0 s.data.toList = some (valS s) ∧ valS s + 1 ≤ 10 ^ s.size := by
  obtain ⟨n, hn, hb⟩ := dec_some 0 h
  have e : valS s = n := by unfold valS; rw [hn]; rfl
  rw [e]
  rw [ba_len] at hb
  exact ⟨hn, by omega⟩
theorem dig_first {s : ByteArray} (h : digS s = true) (h0 : 0 < s.size) : 48 ≤ s[0].toNat ∧ s[0].toNat ≤ 57 := by
  have := List.all_eq_true.1 h s[0] (List.mem_of_getElem? (ba_at0 s h0))
  exact of_decide_eq_true this
theorem dig_atoi {s : ByteArray} (h : digS s = true) (h0 : 0 < s.size) : Lib.atoi s.data.toList = some (valS s : Int) := by
  obtain ⟨f1, f2⟩ := dig_first h h0
  have h1 := (dig_val h).1
  have ha := ba_at0 s h0
  obtain ⟨c, hc⟩ : ∃ c, s[0] = c := ⟨_, rfl⟩
  rw [hc] at f1 f2 ha
  cases hl : s.data.toList with
  | nil => rw [hl] at ha; cases ha
  | cons b r =>
    rw [hl] at ha h1
    obtain rfl : b = c := by simpa using ha
    have h43 : ¬ b = 43 := by rintro rfl; revert f1; decide
    have h45 : ¬ b = 45 := by rintro rfl; revert f1; decide
    simp [Lib.atoi, h43, h45, Lib.decNat, h1]
/-- The number of a text of at most so many digits. -/
def numE (most : Nat) (s : ByteArray) : Option Nat := if 1 ≤ s.size ∧ s.size ≤ most ∧ digS s = true then some (valS s) else none
def digV (o : Option Nat) : Value := .tuple #[.int .i64 ((o.getD 0 : Nat) : Int), .bool o.isSome]
end Go.Proofs.YtjdhjnciokhbkaaGreatDoor

namespace Go.Proofs.YtjdhjnciokhbkaaGreatDoor
open Go.RowKit
set_option maxRecDepth 100000

def numP (o : Option Nat) (p : Prob) : Option Prob := if o.isSome then none else some p
theorem numE_none (most : Nat) : numE most ⟨#[]⟩ = none := if_neg (fun h => by have := h.1; revert this; decide)
theorem valTo_zero (s : ByteArray) : valTo s 0 = 0 := rfl
theorem valTo_all (s : ByteArray) : valTo s s.size = valS s := by unfold valTo valS; rw [List.take_of_length_le (Nat.le_of_eq (ba_len s))]
theorem dig_at {s : ByteArray} {k : Nat} (h : k < s.size) (hd : digS s = true) : digN s[k].toNat = true :=
  List.all_eq_true.1 hd s[k] (List.mem_of_getElem? (by rw [List.getElem?_eq_getElem (by rw [ba_len]; exact h)]; rfl))
theorem valTo_step {s : ByteArray} {k : Nat} (h : k < s.size) (hd : digS s = true) : valTo s (k + 1) = 10 * valTo s k + (s[k].toNat - 48) ∧ 48 ≤ s[k].toNat ∧ s[k].toNat ≤ 57 ∧ valTo s k + 1 ≤ 10 ^ k := by
  have hk := dig_at h hd
  have hr : 48 ≤ s[k].toNat ∧ s[k].toNat ≤ 57 := of_decide_eq_true hk
  have ht : ((s.data.toList.take k).all fun b => digN b.toNat) = true := List.all_eq_true.2 fun b hb => List.all_eq_true.1 hd b (List.mem_of_mem_take hb)
  obtain ⟨n, hn, hb⟩ := dec_some 0 ht
  have hg : s.data.toList[k]? = some s[k] := by rw [List.getElem?_eq_getElem (by rw [ba_len]; exact h)]; rfl
  have hs := Lib.decFrom_take s.data.toList k 0 n s[k] (s[k].toNat - 48) hn hg (by unfold Lib.digitVal; rw [if_pos hr])
  unfold valTo
  rw [hs, hn]
  have hl : (s.data.toList.take k).length = k := by rw [List.length_take, ba_len]; omega
  rw [hl] at hb
  exact ⟨by show n * 10 + _ = 10 * n + _; omega, hr.1, hr.2, by show n + 1 ≤ _; omega⟩
theorem pow18 {k : Nat} (h : k ≤ 17) : 10 ^ k ≤ 100000000000000000 := Nat.le_trans (Nat.pow_le_pow_right (by omega) h) (by decide)
set_option maxHeartbeats 800000 in
theorem r3number_walk (s : ByteArray) (h18 : s.size ≤ 18) (hd : digS s = true) (w : World) :
    Calls Tryz.prog 78 #[.string s] w fun e w' => e = .returned (.int .i64 (valS s : Int)) ∧ w = w' := by
  have hall := hide (valTo_all s)
  go_enter Tryz.func78, Tryz.ntmps78
  go_wp2
  go_loop [3, 4] (fun n i => ∃ k : Nat, k ≤ s.size ∧ i = .int .i64 k ∧ n = .int .i64 (valTo s k)) (fun _ i => s.size - (intOf i).toNat)
  case atStart => exact ⟨0, Nat.zero_le _, rfl, rfl⟩
  case round =>
    obtain ⟨k, hk, rfl, rfl⟩ := hrel
    by_cases hlt : k < s.size
    · obtain ⟨hst, r1, r2, hb⟩ := valTo_step hlt hd
      have hp := pow18 (k := k) (by omega)
      obtain ⟨b, hbb⟩ : ∃ b, s[k].toNat = b := ⟨_, rfl⟩
      rw [hbb] at hst r1 r2
      obtain ⟨v, hv⟩ : ∃ v, valTo s k = v := ⟨_, rfl⟩
      rw [hv] at hst hb ⊢
      replace hst := hide hst
      have e1 : IntKind.i64.wrap (10 * (v : Int)) = 10 * (v : Int) := IntWalk.i64_in _ (by omega)
      clear hv hd
      go_wp2
      go_round
      case rel => exact ⟨k + 1, by omega, by go_num, by rw [hst.out]; go_num⟩
      case measure => simp [intOf]; omega
    · obtain rfl : k = s.size := by omega
      rw [hall.out]
      go_wp2
      go_ret
      exact ⟨rfl, rfl⟩
end Go.Proofs.YtjdhjnciokhbkaaGreatDoor

namespace Go.Proofs.YtjdhjnciokhbkaaGreatDoor
open Go.RowKit
set_option maxRecDepth 100000

def wayV (x : Way) : Value := .agg #[.string x.1, .string x.2.1, .int .i64 x.2.2]
def dupTo (x : Way) (ws : List Way) : Bool := ws.any (sameW x)
theorem dup_hit {x y : Way} {ws : List Way} {j : Nat} (h : ws[j]? = some y) (hs : sameW x y = true) : dupTo x ws = true :=
  List.any_eq_true.2 ⟨y, List.mem_of_getElem? h, hs⟩
theorem dup_next {x y : Way} {ws : List Way} {j : Nat} (h : ws[j]? = some y) (hs : sameW x y = false) (ho : dupTo x (ws.take j) = false) : dupTo x (ws.take (j + 1)) = false := by
  unfold dupTo at ho ⊢
  rw [List.take_add_one, h, List.any_append, ho]
  simp [hs]
def IdxW (x : Way) (ws : List Way) (w : World) (e : Ending) (w' : World) : Prop := ∃ r : Int, e = .returned (.int .i64 r) ∧ decide (0 ≤ r) = dupTo x ws ∧ Below w.heap.size w w'
end Go.Proofs.YtjdhjnciokhbkaaGreatDoor

namespace Go.Proofs.YtjdhjnciokhbkaaGreatDoor
open Go.RowKit
set_option maxRecDepth 100000

def CodeAny (g : Nat) (line : Int) (F : Option Addr) (fs : List Fld) (c k : Nat) (pr : Option Prob) (w : World) (e : Ending) (w' : World) : Prop :=
  ∃ (k' : Nat) (t : ByteArray) (pr' : Option Prob), e = .returned (.string t) ∧ Scan w' g line F fs.length c k' pr' ∧ Only g w w' ∧ 1 ≤ k' ∧ k' ≤ k + 1 ∧ (pr = none → k' = k + 1 ∧ t = textAt fs k ∧ pr' = if codeB (textAt fs k) then none else some (line, colAt fs (k + 1), 10)) ∧ (∀ p, pr = some p → pr' = some p)
set_option maxHeartbeats 800000 in
theorem code_any (B g : Nat) (line : Int) (F : Option Addr) (fs : List Fld) (c k : Nat) (pr : Option Prob) (w : World) (h : Scan w g line F fs.length c k pr) (hF : FieldsAt B w F fs) (h2 : k < fs.length) (hm : fs.length ≤ 1000) (hB : B ≤ g) (h1 : ∀ p, pr = some p → 1 ≤ k) :
    Calls Tryz.prog 105 #[.pointer (some ⟨g, 0, none⟩)] w fun e w' => CodeAny g line F fs c k pr w e w' := by
  cases pr with
  | none =>
    refine (fcode_walk B g line F fs c k w h hF h2 hm hB).mono ?_
    rintro e w' ⟨rfl, hs, ho⟩
    exact ⟨k + 1, _, _, rfl, hs, ho, by omega, Nat.le_refl _, fun _ => ⟨rfl, rfl, rfl⟩, fun p hp => by cases hp⟩
  | some p =>
    have hk := h1 p rfl
    have hv := cvalid_walk ⟨#[]⟩
    rw [show codeB ⟨#[]⟩ = false from codeB_no (by decide)] at hv
    go_enter Tryz.func105, Tryz.ntmps105
    go_wp2_with fail
    refine (fnext_stop g line F fs.length c k p w h).mono ?_
    rintro e w1 ⟨rfl, rfl⟩
    go_wp2_with fail
    refine (hv w).mono ?_
    rintro e w2 ⟨rfl, rfl⟩
    go_wp2_with fail
    refine (fail_walk B g line F fs c k (some p) 10 w h hF hk (by omega) hm).mono ?_
    rintro e w3 ⟨rfl, hs3, ho3⟩
    go_wp2
    go_ret
    exact ⟨k, _, _, rfl, hs3, ho3, hk, by omega, (fun hp => by cases hp), fun q hq => hq⟩
def NumAny (g : Nat) (line : Int) (F : Option Addr) (fs : List Fld) (c k : Nat) (pr : Option Prob) (w : World) (e : Ending) (w' : World) : Prop :=
  ∃ (k' : Nat) (n : Nat) (pr' : Option Prob), e = .returned (.int .i64 n) ∧ n ≤ 99 ∧ Scan w' g line F fs.length c k' pr' ∧ Only g w w' ∧ 1 ≤ k' ∧ k' ≤ k + 1 ∧ (pr = none → k' = k + 1 ∧ n = (numE 2 (textAt fs k)).getD 0 ∧ pr' = numP (numE 2 (textAt fs k)) (line, colAt fs (k + 1), 4)) ∧ (∀ p, pr = some p → pr' = some p)
theorem num99 (s : ByteArray) : (numE 2 s).getD 0 ≤ 99 := by
  unfold numE
  split
  · rename_i h
    have h2 := (dig_val h.2.2).2
    have h3 : 10 ^ s.size ≤ 10 ^ 2 := Nat.pow_le_pow_right (by omega) h.2.1
    have : (10 : Nat) ^ 2 = 100 := rfl
    show valS s ≤ 99
    omega
  · exact Nat.zero_le _
/-- The problem behind the fields of a way. -/
def wayP1 (line : Int) (fs : List Fld) : Option Prob :=
  if codeB (textAt fs 0) = true then (if codeB (textAt fs 1) = true then (match numE 2 (textAt fs 2) with
    | none => some (line, colAt fs 3, 4)
    | some n => if 24 < n then some (line, colAt fs 3, 3) else none) else some (line, colAt fs 2, 10)) else some (line, colAt fs 1, 10)
def wayOf (fs : List Fld) : Way := (textAt fs 0, textAt fs 1, (((numE 2 (textAt fs 2)).getD 0 : Nat) : Int))
def wayEnd (line : Int) (pr : Option Prob) (x : Way) (ws : List Way) : Option Prob :=
  noted (noted (noted pr (sameS x.1 x.2.1) (line, 0, 1)) (dupTo x ws) (line, 0, 11)) (decide ((8 : Int) < ((addV (bldV ws) x).length : Int))) (line, 0, 2)
def wayP (line : Int) (fs : List Fld) (ws : List Way) : Option Prob := wayEnd line (wayP1 line fs) (wayOf fs) ws
theorem wayEnd_some (line : Int) (p : Prob) (x : Way) (ws : List Way) : wayEnd line (some p) x ws = some p := rfl
/-- From the three readings to the problem. -/
theorem way_steps {line : Int} {fs : List Fld} {k1 k2 k3 n : Nat} {t0 t1 : ByteArray} {pr1 pr2 pr3 : Option Prob}
    (a1 : k1 = 0 + 1 ∧ t0 = textAt fs 0 ∧ pr1 = if codeB (textAt fs 0) then none else some (line, colAt fs (0 + 1), 10))
    (b1 : pr1 = none → k2 = k1 + 1 ∧ t1 = textAt fs k1 ∧ pr2 = if codeB (textAt fs k1) then none else some (line, colAt fs (k1 + 1), 10)) (b2 : ∀ p, pr1 = some p → pr2 = some p)
    (c1 : pr2 = none → k3 = k2 + 1 ∧ n = (numE 2 (textAt fs k2)).getD 0 ∧ pr3 = numP (numE 2 (textAt fs k2)) (line, colAt fs (k2 + 1), 4)) (c2 : ∀ p, pr2 = some p → pr3 = some p) :
    wayP1 line fs = (noted pr3 (decide (24 < n)) (line, colAt fs k3, 3)) ∧ ((noted pr3 (decide (24 < n)) (line, colAt fs k3, 3)) = none → wayOf fs = (t0, t1, (n : Int))) := by
  obtain ⟨rfl, rfl, rfl⟩ := a1
  unfold wayP1
  cases h0 : codeB (textAt fs 0) with
  | false =>
    rw [h0] at b2
    have e2 := b2 _ rfl
    have e3 := c2 _ e2
    rw [e3]
    exact ⟨rfl, fun h => by cases h⟩
  | true =>
    rw [h0] at b1
    obtain ⟨rfl, rfl, rfl⟩ := b1 rfl
    cases h1 : codeB (textAt fs 1) with
    | false =>
      have e3 := c2 _ (by rw [h1]; rfl)
      rw [e3]
      exact ⟨rfl, fun h => by cases h⟩
    | true =>
      obtain ⟨rfl, rfl, rfl⟩ := c1 (by rw [h1]; rfl)
      unfold wayOf
      cases h2 : numE 2 (textAt fs 2) with
      | none => exact ⟨rfl, fun h => by cases h⟩
      | some n =>
        by_cases h3 : 24 < n
        · simp [numP, noted, h3]
        · simp [numP, noted, h3]
def WayGives (g : Nat) (line : Int) (F : Option Addr) (fs : List Fld) (c : Nat) (ws : List Way) (w : World) (e : Ending) (w' : World) : Prop :=
  ∃ (x : Way) (k : Nat), e = .returned (.agg #[.string x.1, .string x.2.1, .int .i64 x.2.2]) ∧ Scan w' g line F fs.length c k (wayP line fs ws) ∧ (wayP line fs ws = none → x = wayOf fs) ∧ Only g w w'
theorem wayEnd_none {line : Int} {pr : Option Prob} {x : Way} {ws : List Way} (h : wayEnd line pr x ws = none) : pr = none := by
  cases pr with
  | none => rfl
  | some p => cases h
abbrev WayC (x : Nat) (t0 t1 : ByteArray) (n : Nat) (W : World) : Prop := Cn3 x 0 (.string t0) x 1 (.string t1) x 2 (.int .i64 n) W
def BldC (V : World) (x : Nat) (t0 t1 : ByteArray) (n : Nat) (ws : List Way) (e : Ending) (w' : World) : Prop :=
  ∃ A2 c2, e = .returned (.slice A2 (bldV ws).length c2) ∧ Below V.heap.size V w' ∧ WayC x t0 t1 n w' ∧ Own kStr 9 [] 0 V.heap.size w' (.slice A2 (bldV ws).length c2) (bldV ws)
def AddC (V : World) (x : Nat) (t0 t1 : ByteArray) (n : Nat) (ws : List Way) (e : Ending) (w' : World) : Prop :=
  ∃ A2 c2, e = .returned (.slice A2 (addV (bldV ws) (t0, t1, (n : Int))).length c2) ∧ Below V.heap.size V w' ∧ WayC x t0 t1 n w'
theorem way_whole (g : Nat) (line : Int) (F : Option Addr) (m c k : Nat) (pr : Option Prob) (V : World) {x n : Nat} {t0 t1 : ByteArray} (hs : Scan V g line F m c k pr) (hxg : x ≠ g) (hc : WayC x t0 t1 n V) (b : Bool) (W : World) (hb : Below V.heap.size V W) :
    Calls Tryz.prog 108 #[.pointer (some ⟨g, 0, none⟩), .bool b, .int .i64 2] W fun e w' => e = .returned (.tuple #[]) ∧ Scan w' g line F m c k (noted pr b (line, 0, 2)) ∧ Only g V w' ∧ WayC x t0 t1 n w' :=
  (whole_walk g line F m c k pr b 2 W (hs.later hb)).mono fun _ _ ⟨he, h1, h2⟩ => ⟨he, h1, (only_of_below hb _).trans h2, (hc.later hb).only h2 hxg hxg hxg⟩
theorem way_close {line : Int} {fs : List Fld} {ws : List Way} {pr5 prx : Option Prob} {t0 t1 : ByteArray} {n L : Nat} (h : wayP1 line fs = pr5 ∧ (pr5 = none → wayOf fs = (t0, t1, (n : Int)))) (hx : noted (noted pr5 (sameS t0 t1) (line, 0, 1)) (dupTo (t0, t1, (n : Int)) ws) (line, 0, 11) = prx)
    (hL : (addV (bldV ws) (t0, t1, (n : Int))).length = L) : noted prx (decide ((8 : Int) < (L : Int))) (line, 0, 2) = wayP line fs ws ∧ (wayP line fs ws = none → (t0, t1, (n : Int)) = wayOf fs) := by
  obtain ⟨h1, h2⟩ := h
  subst hx hL
  unfold wayP
  rw [h1]
  cases pr5 with
  | none => rw [h2 rfl]; exact ⟨rfl, fun _ => rfl⟩
  | some p => exact ⟨rfl, fun e => by cases e⟩
end Go.Proofs.YtjdhjnciokhbkaaGreatDoor

namespace Go.Proofs.YtjdhjnciokhbkaaGreatDoor
open Go.RowKit
set_option maxRecDepth 100000

def hasS (z : ByteArray) (l : List ByteArray) : Prop := ∃ y ∈ l, y.toList = z.toList
theorem addS_has (l : List ByteArray) (z : ByteArray) : hasS z (addS l z) := by
  unfold addS
  by_cases h : 0 ≤ idxS z l
  · rw [if_pos h]
    by_cases hh : hasS z l
    · exact hh
    · have := idxS_none (z := z) (xs := l) (fun y hy => by
        cases hq : (y.toList == z.toList) with
        | false => rfl
        | true => exact absurd ⟨y, hy, by simpa using hq⟩ hh)
      omega
  · rw [if_neg h]
    exact ⟨z, by simp, rfl⟩
theorem addS_mono {l : List ByteArray} {u : ByteArray} (z : ByteArray) (h : hasS u l) : hasS u (addS l z) := by
  unfold addS
  split
  · exact h
  · obtain ⟨y, hy, e⟩ := h; exact ⟨y, by simp [hy], e⟩
theorem addV_mono {l : List ByteArray} {u : ByteArray} (x : Way) (h : hasS u l) : hasS u (addV l x) := addS_mono _ (addS_mono _ h)
theorem fold_mono {u : ByteArray} : ∀ (ws : List Way) (l : List ByteArray), hasS u l → hasS u (ws.foldl addV l)
  | [], _, h => h
  | x :: ws, _, h => fold_mono ws _ (addV_mono x h)
theorem fold_has {x : Way} : ∀ (ws : List Way) (l : List ByteArray), x ∈ ws → hasS x.1 (ws.foldl addV l) ∧ hasS x.2.1 (ws.foldl addV l)
  | y :: ws, l, h => by
    rcases List.mem_cons.1 h with rfl | h
    · exact ⟨fold_mono ws _ (addS_mono _ (addS_has l _)), fold_mono ws _ (addS_has _ _)⟩
    · exact fold_has ws _ h
theorem prod_len {α β : Type} (N : List β) : ∀ M : List α, (M.flatMap fun a => N.map (Prod.mk a)).length = M.length * N.length
  | [] => by simp
  | a :: M => by rw [List.flatMap_cons, List.length_append, prod_len N M, List.length_map, List.length_cons, Nat.succ_mul]; omega
/-- Ways as Read leaves them: no pair twice, at most eight buildings. -/
def Fine (ws : List Way) : Prop := (bldV ws).length ≤ 8 ∧ ws.Pairwise fun y x => sameW x y = false
theorem Fine.nil : Fine [] := ⟨Nat.zero_le _, List.Pairwise.nil⟩
theorem Fine.snoc {ws : List Way} {x : Way} (h : Fine ws) (h1 : ws.any (sameW x) = false) (h2 : (addV (bldV ws) x).length ≤ 8) : Fine (ws ++ [x]) := by
  refine ⟨by rw [bldV_snoc]; exact h2, List.pairwise_append.2 ⟨h.2, by simp, fun y hy z hz => ?_⟩⟩
  obtain rfl := List.mem_singleton.1 hz
  cases hq : sameW z y with
  | false => rfl
  | true => exact absurd (List.any_eq_true.2 ⟨y, hy, hq⟩) (by rw [h1]; simp)
theorem Fine.len {ws : List Way} (h : Fine ws) : ws.length ≤ 64 := by
  obtain ⟨h1, h2⟩ := h
  have hnd : (ws.map fun x => (x.1.toList, x.2.1.toList)).Nodup := by
    rw [List.nodup_iff_pairwise_ne, List.pairwise_map]
    refine h2.imp fun {y x} hs e => ?_
    have e1 : y.1.toList = x.1.toList := congrArg Prod.fst e
    have e2 : y.2.1.toList = x.2.1.toList := congrArg Prod.snd e
    unfold sameW sameS at hs
    rw [e1, e2] at hs
    simp at hs
  have hsub : (ws.map fun x => (x.1.toList, x.2.1.toList)) ⊆ ((bldV ws).map ByteArray.toList).flatMap fun a => ((bldV ws).map ByteArray.toList).map (Prod.mk a) := by
    intro p hp
    obtain ⟨x, hx, rfl⟩ := List.mem_map.1 hp
    obtain ⟨⟨a, ha, ea⟩, b, hb, eb⟩ := fold_has ws [] hx
    exact List.mem_flatMap.2 ⟨_, List.mem_map.2 ⟨a, ha, ea⟩, List.mem_map.2 ⟨_, List.mem_map.2 ⟨b, hb, eb⟩, rfl⟩⟩
  have hle := List.Nodup.length_le_of_subset hnd hsub
  rw [prod_len, List.length_map, List.length_map] at hle
  have := Nat.mul_le_mul h1 h1
  omega
end Go.Proofs.YtjdhjnciokhbkaaGreatDoor

namespace Go.Proofs.YtjdhjnciokhbkaaGreatDoor
open Go.RowKit
set_option maxRecDepth 100000

structure RW where
  ls : List Way
  lines : List Int
  ps : List Prob
def wayStep (s : RW) (r : Rec) : RW :=
  if r.2.length = 3 then (match wayP r.1 r.2 s.ls with | some p => ⟨s.ls, s.lines, s.ps ++ [p]⟩ | none => ⟨s.ls ++ [wayOf r.2], s.lines ++ [r.1], s.ps⟩) else ⟨s.ls, s.lines, s.ps ++ [(r.1, 0, 9)]⟩
def readWays (rs : List Rec) : RW := rs.foldl wayStep ⟨[], [], []⟩
theorem readWays_snoc (rs : List Rec) (r : Rec) : readWays (rs ++ [r]) = wayStep (readWays rs) r := by unfold readWays; rw [List.foldl_append]; rfl
theorem wayP_none {line : Int} {fs : List Fld} {ws : List Way} (h : wayP line fs ws = none) : ws.any (sameW (wayOf fs)) = false ∧ (addV (bldV ws) (wayOf fs)).length ≤ 8 := by
  unfold wayP wayEnd at h
  obtain ⟨h1, h2⟩ := noted_none h
  obtain ⟨h3, h4⟩ := noted_none h1
  exact ⟨h4, by have := of_decide_eq_false h2; omega⟩
def WaysOk (s : RW) : Prop := Fine s.ls ∧ s.lines.length = s.ls.length
theorem waysOk_step {s : RW} (h : WaysOk s) (r : Rec) : WaysOk (wayStep s r) := by
  unfold wayStep
  split
  · split
    · exact h
    · rename_i hp
      obtain ⟨h1, h2⟩ := wayP_none hp
      exact ⟨h.1.snoc h1 h2, by simp [h.2]⟩
  · exact h
theorem step_ps (s : RW) (r : Rec) : (wayStep s r).ps.length ≤ s.ps.length + 1 := by
  unfold wayStep
  split
  · split
    · simp
    · simp
  · simp
theorem fold_ok : ∀ (rs : List Rec) (s : RW), WaysOk s → WaysOk (rs.foldl wayStep s) ∧ (rs.foldl wayStep s).ps.length ≤ s.ps.length + rs.length
  | [], s, h => ⟨h, Nat.le_refl _⟩
  | r :: rs, s, h => by
    have ih := fold_ok rs (wayStep s r) (waysOk_step h r)
    have := step_ps s r
    exact ⟨ih.1, by have := ih.2; simp only [List.foldl_cons, List.length_cons]; omega⟩
theorem readWays_len (rs : List Rec) : WaysOk (readWays rs) ∧ (readWays rs).ps.length ≤ rs.length := by
  have := fold_ok rs ⟨[], [], []⟩ ⟨Fine.nil, rfl⟩
  exact ⟨this.1, by have := this.2; simpa [readWays] using this⟩
theorem apd_ints1 : Apd Tryz.prog 22 3 1 8 := apd Tryz.underlying22 (z := .int .i64 0) (by kernel_rfl) rfl
section
variable {w0 W W' : World} {u6 u7 u8 : Value} {ls : List Way} {lines : List Int} {ps : List Prob}
end
theorem take_way (rs : List Rec) (j : Nat) (r : Rec) (h : rs[j]? = some r) : readWays (rs.take (j + 1)) = wayStep (readWays (rs.take j)) r := by
  rw [List.take_add_one, h]; exact readWays_snoc _ r
end Go.Proofs.YtjdhjnciokhbkaaGreatDoor

namespace Go.Proofs.YtjdhjnciokhbkaaGreatDoor
open Go.RowKit
set_option maxRecDepth 100000

theorem idxFrom_has {z : ByteArray} : ∀ {l : List ByteArray} {i : Int}, 0 ≤ i → hasS z l → 0 ≤ idxFrom z l i
  | [], _, _, h => by obtain ⟨y, hy, _⟩ := h; cases hy
  | x :: l, i, hi, h => by
    rw [idxFrom]
    split
    · exact hi
    · rename_i hq
      obtain ⟨y, hy, e⟩ := h
      rcases List.mem_cons.1 hy with rfl | hy
      · exact absurd (by simpa using e) hq
      · exact idxFrom_has (by omega) ⟨y, hy, e⟩
theorem idx_has (z : ByteArray) (l : List ByteArray) : 0 ≤ idxS z l ↔ hasS z l := by
  constructor
  · intro h
    by_cases hh : hasS z l
    · exact hh
    · have := idxS_none (z := z) (xs := l) (fun y hy => by
        cases hq : (y.toList == z.toList) with
        | false => rfl
        | true => exact absurd ⟨y, hy, by simpa using hq⟩ hh)
      omega
  · intro h; exact idxFrom_has (Int.le_refl 0) h
/-- How many of a way's buildings are new. -/
def moreOf (l : List ByteArray) (a b : ByteArray) : Nat := (if idxS a l < 0 then 1 else 0) + (if idxS b l < 0 then 1 else 0)
theorem hasS_snoc {a b : ByteArray} {l : List ByteArray} (h : sameS a b = false) : hasS b (l ++ [a]) ↔ hasS b l := by
  constructor
  · rintro ⟨y, hy, e⟩
    rcases List.mem_append.1 hy with hy | hy
    · exact ⟨y, hy, e⟩
    · obtain rfl := List.mem_singleton.1 hy
      unfold sameS at h
      rw [e] at h
      simp at h
  · rintro ⟨y, hy, e⟩; exact ⟨y, by simp [hy], e⟩
theorem addS_len_eq (l : List ByteArray) (z : ByteArray) : (addS l z).length = l.length + (if idxS z l < 0 then 1 else 0) := by
  unfold addS
  by_cases h : 0 ≤ idxS z l
  · rw [if_pos h, if_neg (by omega)]; rfl
  · rw [if_neg h, if_pos (by omega)]; simp
theorem addV_len_eq (l : List ByteArray) {a b : ByteArray} (n : Int) (h : sameS a b = false) : (addV l (a, b, n)).length = l.length + moreOf l a b := by
  show (addS (addS l a) b).length = _
  rw [addS_len_eq, addS_len_eq]
  have hb : idxS b (addS l a) < 0 ↔ idxS b l < 0 := by
    have h1 := idx_has b (addS l a)
    have h2 := idx_has b l
    have h3 : hasS b (addS l a) ↔ hasS b l := by
      unfold addS
      split
      · exact Iff.rfl
      · exact hasS_snoc h
    have := h1.trans (h3.trans h2.symm)
    omega
  unfold moreOf
  by_cases hq : idxS b l < 0
  · rw [if_pos hq, if_pos (hb.2 hq)]; omega
  · rw [if_neg hq, if_neg (fun e => hq (hb.1 e))]; omega
/-- The number of the field and the error, as the document's reading of one way finds them. -/
def refKE (fs : List Fld) (ws : List Way) (names : List ByteArray) : Option (Int × Int) :=
  if codeB (textAt fs 0) = true then (if codeB (textAt fs 1) = true then (match numE 2 (textAt fs 2) with
    | none => some (2, 4)
    | some n => if 24 < n then some (2, 3) else if sameS (textAt fs 0) (textAt fs 1) = true then some (-1, 1) else if dupTo (wayOf fs) ws = true then some (-1, 11) else if 8 < names.length + moreOf names (textAt fs 0) (textAt fs 1) then some (-1, 2) else none)
    else some (1, 10)) else some (0, 10)
def foundP (line : Int) (fs : List Fld) (ke : Int × Int) : Prob := (line, if ke.1 < 0 then 0 else colAt fs (ke.1.toNat + 1), ke.2)
theorem wayP_ref (line : Int) (fs : List Fld) (ws : List Way) : wayP line fs ws = (refKE fs ws (bldV ws)).map (foundP line fs) := by
  unfold wayP wayP1 refKE
  cases h0 : codeB (textAt fs 0) with
  | false => rfl
  | true =>
    cases h1 : codeB (textAt fs 1) with
    | false => rfl
    | true =>
      cases h2 : numE 2 (textAt fs 2) with
      | none => rfl
      | some n =>
        by_cases h3 : 24 < n
        · simp only [if_pos h3, if_true]; rfl
        · simp only [if_neg h3, if_true]
          unfold wayEnd
          cases h4 : sameS (textAt fs 0) (textAt fs 1) with
          | true => rw [show sameS (wayOf fs).1 (wayOf fs).2.1 = true from h4]; rfl
          | false =>
            rw [show sameS (wayOf fs).1 (wayOf fs).2.1 = false from h4]
            have hl : (addV (bldV ws) (wayOf fs)).length = (bldV ws).length + moreOf (bldV ws) (textAt fs 0) (textAt fs 1) := addV_len_eq _ _ h4
            rw [hl]
            cases h5 : dupTo (wayOf fs) ws with
            | true => rfl
            | false =>
              by_cases h6 : 8 < (bldV ws).length + moreOf (bldV ws) (textAt fs 0) (textAt fs 1)
              · rw [decide_eq_true (by omega : (8 : Int) < (((bldV ws).length + moreOf (bldV ws) (textAt fs 0) (textAt fs 1) : Nat) : Int))]
                simp only [if_pos h6]
                rfl
              · rw [decide_eq_false (by omega : ¬ (8 : Int) < (((bldV ws).length + moreOf (bldV ws) (textAt fs 0) (textAt fs 1) : Nat) : Int))]
                simp only [if_neg h6]
                rfl
end Go.Proofs.YtjdhjnciokhbkaaGreatDoor
