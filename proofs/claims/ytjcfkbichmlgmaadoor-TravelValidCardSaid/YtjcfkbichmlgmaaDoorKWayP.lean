/- Walks of fields.Digits, Scanner.Number, timetableref03.number, Digits: texts of digits. Conditions: at most 18 of them. Walks of Scanner.Number (the first digit may be 0), timetableref03.number, timetableref03.Digits. Conditions: at most 18 digits. Walks of slices.IndexFunc and ContainsFunc at ways with travel's same. Conditions: the cells. Walk of the closure of travel.Read: one way is read. Conditions: the scanner's cells are as Scan says. Plain: ways without a repeated pair between at most eight buildings are at most 64. No program here. Walk of fields.Read at ways. Conditions: texts shorter than 2^30 bytes. Plain: the problem of a way, told as the document's reading of one way tells it. No program here. -/
import Derived.Test.YtjcfkbichmlgmaaDoorKFieldsC
import Derived.Test.YtjcfkbichmlgmaaDoorShelfT
import Derived.Test.YtjcfkbichmlgmaaDoorKTgF
import Derived.Test.YtjcfkbichmlgmaaDoorKWayA
import Derived.Test.YtjcfkbichmlgmaaDoorKAwake9
import Derived.Test.YtjcfkbichmlgmaaDoorKSameL
namespace Go.Proofs.YtjcfkbichmlgmaaDoor
open Go.RowKit
set_option maxRecDepth 100000

def cutDigits : ByteArray := ⟨#[48, 49, 50, 51, 52, 53, 54, 55, 56, 57]⟩
theorem trim_walk (s : ByteArray) (w : World) (hs : s.size ≤ 9223372036854775807) :
    Calls Tryd.prog 53 #[.string s, .string cutDigits] w fun e w' => e = .returned (.string ⟨(Lib.trimS s.data.toList cutDigits.data.toList).toArray⟩) ∧ Below w.heap.size w w' :=
  Any.strings_Trim_laid Tryd.lays160 (by kernel_rfl) s cutDigits w hs (by decide) (ascii_of_all (by decide))
/-- All bytes are digits. -/
def digS (s : ByteArray) : Bool := s.data.toList.all fun b => digN b.toNat
theorem cut_has (b : UInt8) : cutDigits.data.toList.contains b = digN b.toNat := by
  have h : ∀ n : Fin 256, cutDigits.data.toList.contains (UInt8.ofNat n.val) = digN n.val := by decide
  have := h ⟨b.toNat, b.toNat_lt⟩
  simpa using this
theorem drop_all {p : UInt8 → Bool} : ∀ {l : List UInt8}, l.all p = true → l.dropWhile p = []
  | [], _ => rfl
  | b :: l, h => by
    rw [List.all_cons, Bool.and_eq_true] at h
    rw [List.dropWhile_cons, if_pos h.1]
    exact drop_all h.2
theorem all_drop {p : UInt8 → Bool} : ∀ {l : List UInt8}, l.dropWhile p = [] → l.all p = true
  | [], _ => rfl
  | b :: l, h => by
    rw [List.dropWhile_cons] at h
    split at h
    · rename_i hb; rw [List.all_cons, hb, all_drop h]; rfl
    · cases h
theorem trim_all (s : ByteArray) : Lib.trimS s.data.toList cutDigits.data.toList = [] ↔ digS s = true := by
  have hf : (fun b => cutDigits.data.toList.contains b) = fun b : UInt8 => digN b.toNat := funext cut_has
  unfold Lib.trimS Lib.trimLeftS Lib.trimRightS digS
  rw [hf]
  constructor
  · intro h
    have h1 := all_drop h
    rw [List.all_reverse] at h1
    cases hd : List.dropWhile (fun b : UInt8 => digN b.toNat) s.data.toList.reverse with
    | nil => have := all_drop hd; rwa [List.all_reverse] at this
    | cons a t =>
      rw [hd, List.all_cons, Bool.and_eq_true] at h1
      have : ∀ {l : List UInt8}, List.dropWhile (fun b : UInt8 => digN b.toNat) l = a :: t → digN a.toNat = false := by
        intro l
        induction l with
        | nil => intro h; cases h
        | cons b l ih =>
          intro h
          rw [List.dropWhile_cons] at h
          split at h
          · exact ih h
          · rename_i hb; injection h with h2; subst h2; simpa using hb
      rw [this hd] at h1
      cases h1.1
  · intro h
    rw [drop_all (l := s.data.toList.reverse) (by rw [List.all_reverse]; exact h)]
    rfl
/-- The number that digits spell. -/
def valS (s : ByteArray) : Nat := (Lib.decFrom 0 s.data.toList).getD 0
def valTo (s : ByteArray) (k : Nat) : Nat := (Lib.decFrom 0 (s.data.toList.take k)).getD 0
theorem dec_some : ∀ {l : List UInt8} (a : Nat), (l.all fun b => digN b.toNat) = true → ∃ n, Lib.decFrom a l = some n ∧ n + 1 ≤ (a + 1) * 10 ^ l.length
  | [], a, _ => ⟨a, rfl, by simp⟩
  | b :: l, a, h => by
    rw [List.all_cons, Bool.and_eq_true] at h
    obtain ⟨h1, h2⟩ := h
    have h1 : 48 ≤ b.toNat ∧ b.toNat ≤ 57 := of_decide_eq_true h1
    obtain ⟨n, hn, hb⟩ := dec_some (a * 10 + (b.toNat - 48)) h2
    refine ⟨n, by simp only [Lib.decFrom, Lib.digitVal, if_pos h1]; exact hn, ?_⟩
    rw [List.length_cons, Nat.pow_succ, Nat.mul_comm (10 ^ _) 10, ← Nat.mul_assoc]
    exact Nat.le_trans hb (Nat.mul_le_mul_right _ (by omega))
theorem dig_val {s : ByteArray} (h : digS s = true) : Lib.decFrom 0 s.data.toList = some (valS s) ∧ valS s + 1 ≤ 10 ^ s.size := by
  obtain ⟨n, hn, hb⟩ := dec_some 0 h
  have e : valS s = n := by unfold valS; rw [hn]; rfl
  rw [e]
  rw [ba_len] at hb
  exact ⟨hn, by omega⟩
theorem dig_first {s : ByteArray} (h : digS s = true) (h0 : 0 < s.size) : 48 ≤ s[0].toNat ∧ s[0].toNat ≤ 57 := by
  have := List.all_eq_true.1 h s[0] (List.mem_of_getElem? (ba_at0 s h0))
  exact of_decide_eq_true this
theorem dig_atoi {s : ByteArray} (h : digS s = true) (h0 : 0 < s.size) : Lib.atoi s.data.toList = some (valS s : Int) := by
  obtain ⟨f1, f2⟩ := dig_first h h0
  have h1 := (dig_val h).1
  have ha := ba_at0 s h0
  obtain ⟨c, hc⟩ : ∃ c, s[0] = c := ⟨_, rfl⟩
  rw [hc] at f1 f2 ha
  cases hl : s.data.toList with
  | nil => rw [hl] at ha; cases ha
  | cons b r =>
    rw [hl] at ha h1
    obtain rfl : b = c := by simpa using ha
    have h43 : ¬ b = 43 := by rintro rfl; revert f1; decide
    have h45 : ¬ b = 45 := by rintro rfl; revert f1; decide
    simp [Lib.atoi, h43, h45, Lib.decNat, h1]
/-- The number of a text of at most so many digits. -/
def numE (most : Nat) (s : ByteArray) : Option Nat := if 1 ≤ s.size ∧ s.size ≤ most ∧ digS s = true then some (valS s) else none
def digV (o : Option Nat) : Value := .tuple #[.int .i64 ((o.getD 0 : Nat) : Int), .bool o.isSome]
set_option maxHeartbeats 1000000 in
theorem digits_walk (s : ByteArray) (most : Nat) (hm : most ≤ 18) (w : World) (hs : s.size ≤ 9223372036854775807) :
    Calls Tryd.prog 49 #[.string s, .int .i64 most] w fun e w' => e = .returned (digV (numE most s)) ∧ Below w.heap.size w w' := by
  by_cases h0 : 1 ≤ s.size
  · by_cases h1 : s.size ≤ most
    · have ht := trim_walk s
      cases hd : digS s with
      | true =>
        rw [show numE most s = some (valS s) from if_pos ⟨h0, h1, hd⟩]
        have hat := hide (dig_atoi hd (by omega))
        rw [(trim_all s).2 hd] at ht
        obtain ⟨v, hv⟩ : ∃ v, valS s = v := ⟨_, rfl⟩
        rw [hv] at hat
        show Calls Tryd.prog 49 #[.string s, .int .i64 most] w fun e w' => e = .returned (.tuple #[.int .i64 (valS s : Int), .bool true]) ∧ Below w.heap.size w w'
        rw [hv]
        clear hd hv
        have hmi : (s.size : Int) ≤ most := by omega
        go_enter Tryd.func49, Tryd.ntmps49
        go_wp2_with fail
        all_goals try (exfalso; omega)
        go_at_call 53
        refine (ht _ hs).mono ?_
        rintro e w1 ⟨rfl, b1⟩
        clear ht
        go_wp2_with (go_at_call 54; refine (Tryd.strconv_Atoi s v (by omega) hat.out _).mono ?_; rintro e w' ⟨rfl, t, rfl⟩)
        go_quiet (fail)
        go_wp2
        go_ret2
        exact ⟨rfl, ext_trans b1 (below_drewN (Joins.below_bytesWorld _ _ _ _ (Nat.le_refl _)) _)⟩
      | false =>
        rw [show numE most s = none from if_neg (fun ⟨_, _, hh⟩ => by rw [hd] at hh; cases hh)]
        have hne : Lib.trimS s.data.toList cutDigits.data.toList ≠ [] := fun h => by rw [(trim_all s).1 h] at hd; cases hd
        obtain ⟨z, hz⟩ : ∃ z : ByteArray, (⟨(Lib.trimS s.data.toList cutDigits.data.toList).toArray⟩ : ByteArray) = z := ⟨_, rfl⟩
        rw [hz] at ht
        have hzn : 0 < z.size := by
          rw [← hz]; show 0 < (Lib.trimS s.data.toList cutDigits.data.toList).toArray.size; rw [List.size_toArray]; exact List.length_pos_iff.2 hne
        have hze := isEmpty_false z (by omega)
        clear hd hz hne
        show Calls Tryd.prog 49 #[.string s, .int .i64 most] w fun e w' => e = .returned (.tuple #[.int .i64 0, .bool false]) ∧ Below w.heap.size w w'
        have hmi : (s.size : Int) ≤ most := by omega
        go_enter Tryd.func49, Tryd.ntmps49
        go_wp2_with fail
        all_goals try (exfalso; omega)
        go_at_call 53
        refine (ht _ hs).mono ?_
        rintro e w1 ⟨rfl, b1⟩
        clear ht
        go_wp2
        all_goals
          go_ret2
          exact ⟨rfl, b1⟩
    · rw [show numE most s = none from if_neg (fun ⟨_, hh, _⟩ => h1 hh)]
      have hmi : ¬ (s.size : Int) ≤ most := by omega
      show Calls Tryd.prog 49 #[.string s, .int .i64 most] w fun e w' => e = .returned (.tuple #[.int .i64 0, .bool false]) ∧ Below w.heap.size w w'
      go_enter Tryd.func49, Tryd.ntmps49
      go_wp2
      all_goals try (exfalso; omega)
      all_goals
        go_ret2
        exact ⟨rfl, Below.refl _ _⟩
  · rw [show numE most s = none from if_neg (fun ⟨hh, _⟩ => h0 hh)]
    show Calls Tryd.prog 49 #[.string s, .int .i64 most] w fun e w' => e = .returned (.tuple #[.int .i64 0, .bool false]) ∧ Below w.heap.size w w'
    go_enter Tryd.func49, Tryd.ntmps49
    go_wp2
    all_goals try (exfalso; omega)
    all_goals
      go_ret2
      exact ⟨rfl, Below.refl _ _⟩
end Go.Proofs.YtjcfkbichmlgmaaDoor

namespace Go.Proofs.YtjcfkbichmlgmaaDoor
open Go.RowKit
set_option maxRecDepth 100000

def numP (o : Option Nat) (p : Prob) : Option Prob := if o.isSome then none else some p
set_option maxHeartbeats 800000 in
theorem fnum_walk (B g : Nat) (line : Int) (F : Option Addr) (fs : List Fld) (c k most : Nat) (w : World) (h : Scan w g line F fs.length c k none) (hF : FieldsAt B w F fs) (h2 : k < fs.length) (hm : fs.length ≤ 1000) (hB : B ≤ g) (h18 : most ≤ 18) (hsz : (textAt fs k).size ≤ 9223372036854775807) :
    Calls Tryd.prog 34 #[.pointer (some ⟨g, 0, none⟩), .int .i64 most, .bool true] w fun end' w' => end' = .returned (.int .i64 (((numE most (textAt fs k)).getD 0 : Nat) : Int)) ∧ Scan w' g line F fs.length c (k + 1) (numP (numE most (textAt fs k)) (line, colAt fs (k + 1), 4)) ∧ Only g w w' := by
  have hlt := h.lt
  obtain ⟨o, ho⟩ : ∃ o, numE most (textAt fs k) = o := ⟨_, rfl⟩
  rw [ho]
  replace ho := hide ho
  cases o with
  | none =>
    show Calls Tryd.prog 34 #[.pointer (some ⟨g, 0, none⟩), .int .i64 most, .bool true] w fun end' w' => end' = .returned (.int .i64 0) ∧ Scan w' g line F fs.length c (k + 1) (some (line, colAt fs (k + 1), 4)) ∧ Only g w w'
    go_enter Tryd.func34, Tryd.ntmps34
    go_wp2_with fail
    refine (fnext_go B g line F fs c k w h hF h2 hm hB).mono ?_
    rintro e w1 ⟨rfl, hs1, ho1⟩
    go_wp2_with fail
    refine (digits_walk (textAt fs k) most h18 w1 hsz).mono ?_
    rintro e w2 ⟨rfl, hb2⟩
    rw [ho.out, show digV none = .tuple #[.int .i64 0, .bool false] from rfl]
    have hs2 := hs1.later hb2
    have ho2 := ho1.later hb2
    go_wp2_with fail
    refine (fail_walk B g line F fs c (k + 1) none 4 w2 hs2 (hF.only ho2 hB (by omega)) (by omega) (by omega) hm).mono ?_
    rintro e w3 ⟨rfl, hs3, ho3⟩
    go_wp2
    go_ret
    exact ⟨rfl, hs3, ho2.trans ho3⟩
  | some n =>
    show Calls Tryd.prog 34 #[.pointer (some ⟨g, 0, none⟩), .int .i64 most, .bool true] w fun end' w' => end' = .returned (.int .i64 n) ∧ Scan w' g line F fs.length c (k + 1) none ∧ Only g w w'
    go_enter Tryd.func34, Tryd.ntmps34
    go_wp2_with fail
    refine (fnext_go B g line F fs c k w h hF h2 hm hB).mono ?_
    rintro e w1 ⟨rfl, hs1, ho1⟩
    go_wp2_with fail
    refine (digits_walk (textAt fs k) most h18 w1 hsz).mono ?_
    rintro e w2 ⟨rfl, hb2⟩
    rw [ho.out, show digV (some n) = .tuple #[.int .i64 n, .bool true] from rfl]
    have hs2 := hs1.later hb2
    have ho2 := ho1.later hb2
    go_wp2_with fail
    go_ret
    exact ⟨rfl, hs2, ho2⟩
theorem numE_none (most : Nat) : numE most ⟨#[]⟩ = none := if_neg (fun h => by have := h.1; revert this; decide)
set_option maxHeartbeats 800000 in
theorem fnum_stop (B g : Nat) (line : Int) (F : Option Addr) (fs : List Fld) (c k most : Nat) (p : Prob) (w : World) (h : Scan w g line F fs.length c k (some p)) (hF : FieldsAt B w F fs) (h1 : 1 ≤ k) (h2 : k ≤ fs.length) (hm : fs.length ≤ 1000) (hB : B ≤ g) (h18 : most ≤ 18) :
    Calls Tryd.prog 34 #[.pointer (some ⟨g, 0, none⟩), .int .i64 most, .bool true] w fun end' w' => end' = .returned (.int .i64 0) ∧ Scan w' g line F fs.length c k (some p) ∧ Only g w w' := by
  have hlt := h.lt
  go_enter Tryd.func34, Tryd.ntmps34
  go_wp2_with fail
  refine (fnext_stop g line F fs.length c k p w h).mono ?_
  rintro e w1 ⟨rfl, rfl⟩
  go_wp2_with fail
  refine (digits_walk ⟨#[]⟩ most h18 w (by decide)).mono ?_
  rintro e w2 ⟨rfl, hb2⟩
  rw [numE_none, show digV none = .tuple #[.int .i64 0, .bool false] from rfl]
  have hs2 := h.later hb2
  have ho2 := (Only.refl g w).later hb2
  go_wp2_with fail
  refine (fail_walk B g line F fs c k (some p) 4 w2 hs2 (hF.only ho2 hB (by omega)) h1 h2 hm).mono ?_
  rintro e w3 ⟨rfl, hs3, ho3⟩
  go_wp2
  go_ret
  exact ⟨rfl, hs3, ho2.trans ho3⟩
theorem valTo_zero (s : ByteArray) : valTo s 0 = 0 := rfl
theorem valTo_all (s : ByteArray) : valTo s s.size = valS s := by unfold valTo valS; rw [List.take_of_length_le (Nat.le_of_eq (ba_len s))]
theorem dig_at {s : ByteArray} {k : Nat} (h : k < s.size) (hd : digS s = true) : digN s[k].toNat = true :=
  List.all_eq_true.1 hd s[k] (List.mem_of_getElem? (by rw [List.getElem?_eq_getElem (by rw [ba_len]; exact h)]; rfl))
theorem valTo_step {s : ByteArray} {k : Nat} (h : k < s.size) (hd : digS s = true) : valTo s (k + 1) = 10 * valTo s k + (s[k].toNat - 48) ∧ 48 ≤ s[k].toNat ∧ s[k].toNat ≤ 57 ∧ valTo s k + 1 ≤ 10 ^ k := by
  have hk := dig_at h hd
  have hr : 48 ≤ s[k].toNat ∧ s[k].toNat ≤ 57 := of_decide_eq_true hk
  have ht : ((s.data.toList.take k).all fun b => digN b.toNat) = true := List.all_eq_true.2 fun b hb => List.all_eq_true.1 hd b (List.mem_of_mem_take hb)
  obtain ⟨n, hn, hb⟩ := dec_some 0 ht
  have hg : s.data.toList[k]? = some s[k] := by rw [List.getElem?_eq_getElem (by rw [ba_len]; exact h)]; rfl
  have hs := Lib.decFrom_take s.data.toList k 0 n s[k] (s[k].toNat - 48) hn hg (by unfold Lib.digitVal; rw [if_pos hr])
  unfold valTo
  rw [hs, hn]
  have hl : (s.data.toList.take k).length = k := by rw [List.length_take, ba_len]; omega
  rw [hl] at hb
  exact ⟨by show n * 10 + _ = 10 * n + _; omega, hr.1, hr.2, by show n + 1 ≤ _; omega⟩
theorem pow18 {k : Nat} (h : k ≤ 17) : 10 ^ k ≤ 100000000000000000 := Nat.le_trans (Nat.pow_le_pow_right (by omega) h) (by decide)
end Go.Proofs.YtjcfkbichmlgmaaDoor

namespace Go.Proofs.YtjcfkbichmlgmaaDoor
open Go.RowKit
set_option maxRecDepth 100000

def wayV (x : Way) : Value := .agg #[.string x.1, .string x.2.1, .int .i64 x.2.2]
def dupTo (x : Way) (ws : List Way) : Bool := ws.any (sameW x)
theorem dup_hit {x y : Way} {ws : List Way} {j : Nat} (h : ws[j]? = some y) (hs : sameW x y = true) : dupTo x ws = true :=
  List.any_eq_true.2 ⟨y, List.mem_of_getElem? h, hs⟩
theorem dup_next {x y : Way} {ws : List Way} {j : Nat} (h : ws[j]? = some y) (hs : sameW x y = false) (ho : dupTo x (ws.take j) = false) : dupTo x (ws.take (j + 1)) = false := by
  unfold dupTo at ho ⊢
  rw [List.take_add_one, h, List.any_append, ho]
  simp [hs]
def IdxW (x : Way) (ws : List Way) (w : World) (e : Ending) (w' : World) : Prop := ∃ r : Int, e = .returned (.int .i64 r) ∧ decide (0 ≤ r) = dupTo x ws ∧ Below w.heap.size w w'
set_option maxHeartbeats 2000000 in
theorem idxW_walk (A : Option Addr) (ws : List Way) (c : Nat) (x : Way) (w : World) (hn : ws.length ≤ 1000000000) (h : At kWay (· < w.heap.size) w A ws) :
    Calls Tryd.prog 50 #[.slice A ws.length c, .func (.func 38) #[.agg #[.string x.1, .string x.2.1, .int .i64 x.2.2]] #[]] w fun e w' => IdxW x ws w e w' := by
  have eg : ∀ args w, (callFunc 38 args).run Tryd.prog w = .ok (.enter 38 args) w := enters_of Tryd.func38 (by kernel_rfl) rfl
  have hsame := same_walk x
  obtain ⟨n, hnn⟩ : ∃ n, ws.length = n := ⟨_, rfl⟩
  rw [hnn] at hn ⊢
  replace hnn := hide hnn
  go_enter Tryd.func50, Tryd.ntmps50
  go_wp2
  go_loopw [5, 8] (fun _ i wr => ∃ j : Nat, j ≤ n ∧ i = .int .i64 j ∧ Hid (dupTo x (ws.take j) = false) ∧ Below w.heap.size w wr) (fun _ i _ => n - (intOf i).toNat)
  case atStart => exact ⟨0, Nat.zero_le _, rfl, rfl, Below.refl _ _⟩
  case round =>
    obtain ⟨j, hj, rfl, ho, hb⟩ := hrel
    by_cases hlt : j < n
    · obtain ⟨y, hy⟩ : ∃ y, ws[j]? = some y := ⟨_, List.getElem?_eq_getElem (by rw [hnn.out]; exact hlt)⟩
      obtain ⟨wb, off, rfl, -, hwb, q0, q1, q2⟩ := way_get (h.below hb) hy
      have hcall := hsame y wr
      have hit := fun hs => hide (dup_hit hy (x := x) hs)
      have hnx := fun hs => hide (dup_next hy (x := x) hs ho.out)
      obtain ⟨a, b, m⟩ := y
      dsimp only at q0 q1 q2 hcall
      clear h hy hsame ho
      cases hq : sameW x (a, b, m) with
      | true =>
        rw [hq] at hcall
        have hh := hit hq
        clear hit hnx hq
        go_wp2_with (go_at_fn 38; refine hcall.mono ?_; rintro e w' ⟨rfl, hb'⟩)
        go_ret
        exact ⟨j, rfl, by rw [hh.out]; simp, ext_trans hb hb'⟩
      | false =>
        rw [hq] at hcall
        have hh := hnx hq
        clear hit hnx hq
        go_wp2_with (go_at_fn 38; refine hcall.mono ?_; rintro e w' ⟨rfl, hb'⟩)
        go_roundw
        case rel => exact ⟨j + 1, by omega, by go_num, hh, ext_trans hb hb'⟩
        case measure => simp [intOf]; omega
    · obtain rfl : j = n := by omega
      have hall : ws.take j = ws := by rw [← hnn.out]; exact List.take_length
      rw [hall] at ho
      go_wp2
      go_ret
      exact ⟨-1, rfl, by rw [ho.out]; rfl, hb⟩
set_option maxHeartbeats 2000000 in
theorem conW_walk (A : Option Addr) (ws : List Way) (c : Nat) (x : Way) (w : World) (hn : ws.length ≤ 1000000000) (h : At kWay (· < w.heap.size) w A ws) :
    Calls Tryd.prog 37 #[.slice A ws.length c, .func (.func 38) #[.agg #[.string x.1, .string x.2.1, .int .i64 x.2.2]] #[]] w fun e w' => e = .returned (.bool (dupTo x ws)) ∧ Below w.heap.size w w' := by
  have hcall := idxW_walk A ws c x w hn h
  clear h
  go_enter Tryd.func37, Tryd.ntmps37
  go_wp2_with fail
  refine hcall.mono ?_
  rintro e w' ⟨r, rfl, hr, hb⟩
  replace hr := hide hr
  go_wp2
  go_ret
  exact ⟨ret_bool hr.out, hb⟩
end Go.Proofs.YtjcfkbichmlgmaaDoor

namespace Go.Proofs.YtjcfkbichmlgmaaDoor
open Go.RowKit
set_option maxRecDepth 100000

def CodeAny (g : Nat) (line : Int) (F : Option Addr) (fs : List Fld) (c k : Nat) (pr : Option Prob) (w : World) (e : Ending) (w' : World) : Prop :=
  ∃ (k' : Nat) (t : ByteArray) (pr' : Option Prob), e = .returned (.string t) ∧ Scan w' g line F fs.length c k' pr' ∧ Only g w w' ∧ 1 ≤ k' ∧ k' ≤ k + 1 ∧ (pr = none → k' = k + 1 ∧ t = textAt fs k ∧ pr' = if codeB (textAt fs k) then none else some (line, colAt fs (k + 1), 10)) ∧ (∀ p, pr = some p → pr' = some p)
set_option maxHeartbeats 800000 in
theorem code_any (B g : Nat) (line : Int) (F : Option Addr) (fs : List Fld) (c k : Nat) (pr : Option Prob) (w : World) (h : Scan w g line F fs.length c k pr) (hF : FieldsAt B w F fs) (h2 : k < fs.length) (hm : fs.length ≤ 1000) (hB : B ≤ g) (h1 : ∀ p, pr = some p → 1 ≤ k) :
    Calls Tryd.prog 33 #[.pointer (some ⟨g, 0, none⟩)] w fun e w' => CodeAny g line F fs c k pr w e w' := by
  cases pr with
  | none =>
    refine (fcode_walk B g line F fs c k w h hF h2 hm hB).mono ?_
    rintro e w' ⟨rfl, hs, ho⟩
    exact ⟨k + 1, _, _, rfl, hs, ho, by omega, Nat.le_refl _, fun _ => ⟨rfl, rfl, rfl⟩, fun p hp => by cases hp⟩
  | some p =>
    have hk := h1 p rfl
    have hv := cvalid_walk ⟨#[]⟩
    rw [show codeB ⟨#[]⟩ = false from codeB_no (by decide)] at hv
    go_enter Tryd.func33, Tryd.ntmps33
    go_wp2_with fail
    refine (fnext_stop g line F fs.length c k p w h).mono ?_
    rintro e w1 ⟨rfl, rfl⟩
    go_wp2_with fail
    refine (hv w).mono ?_
    rintro e w2 ⟨rfl, rfl⟩
    go_wp2_with fail
    refine (fail_walk B g line F fs c k (some p) 10 w h hF hk (by omega) hm).mono ?_
    rintro e w3 ⟨rfl, hs3, ho3⟩
    go_wp2
    go_ret
    exact ⟨k, _, _, rfl, hs3, ho3, hk, by omega, (fun hp => by cases hp), fun q hq => hq⟩
def NumAny (g : Nat) (line : Int) (F : Option Addr) (fs : List Fld) (c k : Nat) (pr : Option Prob) (w : World) (e : Ending) (w' : World) : Prop :=
  ∃ (k' : Nat) (n : Nat) (pr' : Option Prob), e = .returned (.int .i64 n) ∧ n ≤ 99 ∧ Scan w' g line F fs.length c k' pr' ∧ Only g w w' ∧ 1 ≤ k' ∧ k' ≤ k + 1 ∧ (pr = none → k' = k + 1 ∧ n = (numE 2 (textAt fs k)).getD 0 ∧ pr' = numP (numE 2 (textAt fs k)) (line, colAt fs (k + 1), 4)) ∧ (∀ p, pr = some p → pr' = some p)
theorem num99 (s : ByteArray) : (numE 2 s).getD 0 ≤ 99 := by
  unfold numE
  split
  · rename_i h
    have h2 := (dig_val h.2.2).2
    have h3 : 10 ^ s.size ≤ 10 ^ 2 := Nat.pow_le_pow_right (by omega) h.2.1
    have : (10 : Nat) ^ 2 = 100 := rfl
    show valS s ≤ 99
    omega
  · exact Nat.zero_le _
theorem num_any (B g : Nat) (line : Int) (F : Option Addr) (fs : List Fld) (c k : Nat) (pr : Option Prob) (w : World) (h : Scan w g line F fs.length c k pr) (hF : FieldsAt B w F fs) (h2 : k < fs.length) (hm : fs.length ≤ 1000) (hB : B ≤ g) (h1 : ∀ p, pr = some p → 1 ≤ k) (hsz : (textAt fs k).size ≤ 9223372036854775807) :
    Calls Tryd.prog 34 #[.pointer (some ⟨g, 0, none⟩), .int .i64 2, .bool true] w fun e w' => NumAny g line F fs c k pr w e w' := by
  cases pr with
  | none =>
    refine (fnum_walk B g line F fs c k 2 w h hF h2 hm hB (by omega) hsz).mono ?_
    rintro e w' ⟨rfl, hs, ho⟩
    exact ⟨k + 1, _, _, rfl, num99 _, hs, ho, by omega, Nat.le_refl _, fun _ => ⟨rfl, rfl, rfl⟩, fun p hp => by cases hp⟩
  | some p =>
    have hk := h1 p rfl
    refine (fnum_stop B g line F fs c k 2 p w h hF hk (by omega) hm hB (by omega)).mono ?_
    rintro e w' ⟨rfl, hs, ho⟩
    exact ⟨k, 0, _, rfl, by omega, hs, ho, hk, by omega, (fun hp => by cases hp), fun q hq => hq⟩
theorem load3w (w : World) (g : Nat) (a b d : Value) (h0 : w.cell? ⟨g, 0, none⟩ = some a) (h1 : w.cell? ⟨g, 1, none⟩ = some b) (h2 : w.cell? ⟨g, 2, none⟩ = some d) :
    (loadVar 59 ⟨g, 0, none⟩).run Tryd.prog w = .ok (.agg #[a, b, d]) w := by
  simp [go_sem, h0, h1, h2]
theorem end_way {fn : Func} {p : Tmp} (hr : fn.results = #[.cell p 59]) {Q : Ending → World → Prop} {act : Act} {w : World} (g : Nat) (a b d : Value) (hd : act.defers = [])
    (hp : act.tmps.getD p undef = .pointer (some ⟨g, 0, none⟩))
    (h0 : w.cell? ⟨g, 0, none⟩ = some a) (h1 : w.cell? ⟨g, 1, none⟩ = some b) (h2 : w.cell? ⟨g, 2, none⟩ = some d)
    (hQ : Q (.returned (.agg #[a, b, d])) w) : bodyPost Tryd.prog fn Q .ret act w := by
  refine bodyPost_ret (v := .agg #[a, b, d]) ?_ hd hQ
  simp only [results, hr]
  simp [Sem.run_bind, Result.andThen, -Array.getD_eq_getD_getElem?]
  rw [hp]
  simp only [asAddr, Sem.run_pure]
  rw [load3w w g a b d h0 h1 h2]
/-- The problem behind the fields of a way. -/
def wayP1 (line : Int) (fs : List Fld) : Option Prob :=
  if codeB (textAt fs 0) = true then (if codeB (textAt fs 1) = true then (match numE 2 (textAt fs 2) with
    | none => some (line, colAt fs 3, 4)
    | some n => if 24 < n then some (line, colAt fs 3, 3) else none) else some (line, colAt fs 2, 10)) else some (line, colAt fs 1, 10)
def wayOf (fs : List Fld) : Way := (textAt fs 0, textAt fs 1, (((numE 2 (textAt fs 2)).getD 0 : Nat) : Int))
def wayEnd (line : Int) (pr : Option Prob) (x : Way) (ws : List Way) : Option Prob :=
  noted (noted (noted pr (sameS x.1 x.2.1) (line, 0, 1)) (dupTo x ws) (line, 0, 11)) (decide ((8 : Int) < ((addV (bldV ws) x).length : Int))) (line, 0, 2)
def wayP (line : Int) (fs : List Fld) (ws : List Way) : Option Prob := wayEnd line (wayP1 line fs) (wayOf fs) ws
theorem wayEnd_some (line : Int) (p : Prob) (x : Way) (ws : List Way) : wayEnd line (some p) x ws = some p := rfl
/-- From the three readings to the problem. -/
theorem way_steps {line : Int} {fs : List Fld} {k1 k2 k3 n : Nat} {t0 t1 : ByteArray} {pr1 pr2 pr3 : Option Prob}
    (a1 : k1 = 0 + 1 ∧ t0 = textAt fs 0 ∧ pr1 = if codeB (textAt fs 0) then none else some (line, colAt fs (0 + 1), 10))
    (b1 : pr1 = none → k2 = k1 + 1 ∧ t1 = textAt fs k1 ∧ pr2 = if codeB (textAt fs k1) then none else some (line, colAt fs (k1 + 1), 10)) (b2 : ∀ p, pr1 = some p → pr2 = some p)
    (c1 : pr2 = none → k3 = k2 + 1 ∧ n = (numE 2 (textAt fs k2)).getD 0 ∧ pr3 = numP (numE 2 (textAt fs k2)) (line, colAt fs (k2 + 1), 4)) (c2 : ∀ p, pr2 = some p → pr3 = some p) :
    wayP1 line fs = (noted pr3 (decide (24 < n)) (line, colAt fs k3, 3)) ∧ ((noted pr3 (decide (24 < n)) (line, colAt fs k3, 3)) = none → wayOf fs = (t0, t1, (n : Int))) := by
  obtain ⟨rfl, rfl, rfl⟩ := a1
  unfold wayP1
  cases h0 : codeB (textAt fs 0) with
  | false =>
    rw [h0] at b2
    have e2 := b2 _ rfl
    have e3 := c2 _ e2
    rw [e3]
    exact ⟨rfl, fun h => by cases h⟩
  | true =>
    rw [h0] at b1
    obtain ⟨rfl, rfl, rfl⟩ := b1 rfl
    cases h1 : codeB (textAt fs 1) with
    | false =>
      have e3 := c2 _ (by rw [h1]; rfl)
      rw [e3]
      exact ⟨rfl, fun h => by cases h⟩
    | true =>
      obtain ⟨rfl, rfl, rfl⟩ := c1 (by rw [h1]; rfl)
      unfold wayOf
      cases h2 : numE 2 (textAt fs 2) with
      | none => exact ⟨rfl, fun h => by cases h⟩
      | some n =>
        by_cases h3 : 24 < n
        · simp [numP, noted, h3]
        · simp [numP, noted, h3]
def WayGives (g : Nat) (line : Int) (F : Option Addr) (fs : List Fld) (c : Nat) (ws : List Way) (w : World) (e : Ending) (w' : World) : Prop :=
  ∃ (x : Way) (k : Nat), e = .returned (.agg #[.string x.1, .string x.2.1, .int .i64 x.2.2]) ∧ Scan w' g line F fs.length c k (wayP line fs ws) ∧ (wayP line fs ws = none → x = wayOf fs) ∧ Only g w w'
theorem wayEnd_none {line : Int} {pr : Option Prob} {x : Way} {ws : List Way} (h : wayEnd line pr x ws = none) : pr = none := by
  cases pr with
  | none => rfl
  | some p => cases h
abbrev WayC (x : Nat) (t0 t1 : ByteArray) (n : Nat) (W : World) : Prop := Cn3 x 0 (.string t0) x 1 (.string t1) x 2 (.int .i64 n) W
def BldC (V : World) (x : Nat) (t0 t1 : ByteArray) (n : Nat) (ws : List Way) (e : Ending) (w' : World) : Prop :=
  ∃ A2 c2, e = .returned (.slice A2 (bldV ws).length c2) ∧ Below V.heap.size V w' ∧ WayC x t0 t1 n w' ∧ Own kStr 9 [] 0 V.heap.size w' (.slice A2 (bldV ws).length c2) (bldV ws)
theorem way_bld (A : Option Addr) (ws : List Way) (cr : Nat) (V : World) {x n : Nat} {t0 t1 : ByteArray} (hq : ws.length ≤ 1000000000) (h : At kWay (· < V.heap.size) V A ws) (hc : WayC x t0 t1 n V) (W : World) (hb : Below V.heap.size V W) :
    Calls Tryd.prog 40 #[.slice A ws.length cr] W fun e w' => BldC V x t0 t1 n ws e w' :=
  (bld_walk A ws cr W hq ((h.below hb).up hb.size)).mono fun _ _ ⟨A2, c2, he, ho, hb'⟩ => ⟨A2, c2, he, ext_trans hb hb', hc.later (ext_trans hb hb'), ho.lower hb.size⟩
def AddC (V : World) (x : Nat) (t0 t1 : ByteArray) (n : Nat) (ws : List Way) (e : Ending) (w' : World) : Prop :=
  ∃ A2 c2, e = .returned (.slice A2 (addV (bldV ws) (t0, t1, (n : Int))).length c2) ∧ Below V.heap.size V w' ∧ WayC x t0 t1 n w'
theorem way_add (ws : List Way) (V : World) {x n : Nat} {t0 t1 : ByteArray} (hq : ws.length ≤ 1000000000) (hc : WayC x t0 t1 n V) (A2 : Option Addr) (c2 : Nat) (W : World) (ho : Own kStr 9 [] 0 V.heap.size W (.slice A2 (bldV ws).length c2) (bldV ws)) (hb : Below V.heap.size V W) :
    Calls Tryd.prog 39 #[.agg #[.string t0, .string t1, .int .i64 n], .slice A2 (bldV ws).length c2] W fun e w' => AddC V x t0 t1 n ws e w' :=
  (add_walk V.heap.size A2 (bldV ws) c2 (t0, t1, (n : Int)) W ho hb.size (by have := bldV_len ws.length ws rfl; omega)).mono fun _ _ ⟨A3, c3, he, _, hg, _⟩ =>
    have hx := below_grown hb hg fun y hy => (ho.lt y hy).1
    ⟨A3, c3, he, hx, hc.later hx⟩
theorem way_whole (g : Nat) (line : Int) (F : Option Addr) (m c k : Nat) (pr : Option Prob) (V : World) {x n : Nat} {t0 t1 : ByteArray} (hs : Scan V g line F m c k pr) (hxg : x ≠ g) (hc : WayC x t0 t1 n V) (b : Bool) (W : World) (hb : Below V.heap.size V W) :
    Calls Tryd.prog 36 #[.pointer (some ⟨g, 0, none⟩), .bool b, .int .i64 2] W fun e w' => e = .returned (.tuple #[]) ∧ Scan w' g line F m c k (noted pr b (line, 0, 2)) ∧ Only g V w' ∧ WayC x t0 t1 n w' :=
  (whole_walk g line F m c k pr b 2 W (hs.later hb)).mono fun _ _ ⟨he, h1, h2⟩ => ⟨he, h1, (only_of_below hb _).trans h2, (hc.later hb).only h2 hxg hxg hxg⟩
theorem way_close {line : Int} {fs : List Fld} {ws : List Way} {pr5 prx : Option Prob} {t0 t1 : ByteArray} {n L : Nat} (h : wayP1 line fs = pr5 ∧ (pr5 = none → wayOf fs = (t0, t1, (n : Int)))) (hx : noted (noted pr5 (sameS t0 t1) (line, 0, 1)) (dupTo (t0, t1, (n : Int)) ws) (line, 0, 11) = prx)
    (hL : (addV (bldV ws) (t0, t1, (n : Int))).length = L) : noted prx (decide ((8 : Int) < (L : Int))) (line, 0, 2) = wayP line fs ws ∧ (wayP line fs ws = none → (t0, t1, (n : Int)) = wayOf fs) := by
  obtain ⟨h1, h2⟩ := h
  subst hx hL
  unfold wayP
  rw [h1]
  cases pr5 with
  | none => rw [h2 rfl]; exact ⟨rfl, fun _ => rfl⟩
  | some p => exact ⟨rfl, fun e => by cases e⟩
set_option maxHeartbeats 8000000 in
theorem read1_walk (B g : Nat) (line : Int) (F : Option Addr) (fs : List Fld) (c : Nat) (A : Option Addr) (ws : List Way) (cr : Nat) (w : World)
    (hsc : Scan w g line F fs.length c 0 none) (hF : FieldsAt B w F fs) (hl : fs.length = 3) (hB : B ≤ g) (hsz : ∀ k, (textAt fs k).size < 1073741824) (hq : ws.length ≤ 1000000000) (hw : At kWay (· < g) w A ws) :
    Calls Tryd.prog 32 #[.pointer (some ⟨g, 0, none⟩), .slice A ws.length cr] w fun e w' => WayGives g line F fs c ws w e w' := by
  have hgl := hsc.lt
  go_enter Tryd.func32, Tryd.ntmps32
  go_wp2_with fail
  have hb0 : Below w.heap.size w (w.alloc (.cells #[.string ⟨#[]⟩, .string ⟨#[]⟩, .int .i64 0] 59)) := ext_alloc (Below.refl _ _) _
  have r0 : (w.alloc (.cells #[.string ⟨#[]⟩, .string ⟨#[]⟩, .int .i64 0] 59)).cell? ⟨w.heap.size, 0, none⟩ = some (.string ⟨#[]⟩) := by simp
  have r1 : (w.alloc (.cells #[.string ⟨#[]⟩, .string ⟨#[]⟩, .int .i64 0] 59)).cell? ⟨w.heap.size, 1, none⟩ = some (.string ⟨#[]⟩) := by simp
  have r2 : (w.alloc (.cells #[.string ⟨#[]⟩, .string ⟨#[]⟩, .int .i64 0] 59)).cell? ⟨w.heap.size, 2, none⟩ = some (.int .i64 0) := by simp
  have f0 : ∀ j, (w.alloc (.cells #[.string ⟨#[]⟩, .string ⟨#[]⟩, .int .i64 0] 59)).frozen? ⟨w.heap.size, j, none⟩ = false := fun j => by simp
  have hsc0 := hsc.later hb0
  have how := Only.later (Only.refl g w) hb0
  have hF0 := hF.below (hb0.mono (by omega) : Below B _ _)
  have hw0 := hw.below (hb0.mono (by omega) : Below g _ _)
  have hz0 : (w.alloc (.cells #[.string ⟨#[]⟩, .string ⟨#[]⟩, .int .i64 0] 59)).heap.size = w.heap.size + 1 := World.size_alloc _ _
  obtain ⟨W0, hW0⟩ : ∃ W0, w.alloc (.cells #[.string ⟨#[]⟩, .string ⟨#[]⟩, .int .i64 0] 59) = W0 := ⟨_, rfl⟩
  rw [hW0] at r0 r1 r2 f0 hsc0 how hF0 hw0 hz0 ⊢
  obtain ⟨r, hr⟩ : ∃ r, w.heap.size = r := ⟨_, rfl⟩
  rw [hr] at r0 r1 r2 f0 hz0 hgl ⊢
  have hrg : r ≠ g := by omega
  have hrl : r < W0.heap.size := by omega
  have hgW : g < W0.heap.size := by omega
  replace hW0 := hide hW0
  replace hr := hide hr
  replace r0 := hide r0
  replace r1 := hide r1
  replace r2 := hide r2
  replace f0 := hide f0
  clear hsc hF hw hb0
  refine (code_any B g line F fs c 0 none W0 hsc0 hF0 (by omega) (by omega) hB (fun p hp => by cases hp)).mono ?_
  rintro e w1 ⟨k1, t0, pr1, rfl, hs1, ho1, i1, j1, a1, -⟩
  replace a1 := hide (a1 rfl)
  have hz1 := ho1.size
  have hF1 := hF0.only ho1 hB (by omega)
  go_wp2_with fail
  refine (code_any B g line F fs c k1 pr1 w1 hs1 hF1 (by omega) (by omega) hB (fun _ _ => i1)).mono ?_
  rintro e w2 ⟨k2, t1, pr2, rfl, hs2, ho2, i2, j2, b1, b2⟩
  replace b1 := hide b1
  replace b2 := hide b2
  have hz2 := ho2.size
  have hF2 := hF1.only ho2 hB (by omega)
  have hsz2 : (textAt fs k2).size ≤ 9223372036854775807 := by have := hsz k2; omega
  go_wp2_with fail
  refine (num_any B g line F fs c k2 pr2 w2 hs2 hF2 (by omega) (by omega) hB (fun _ _ => i2) hsz2).mono ?_
  rintro e w3 ⟨k3, n, pr3, rfl, hn, hs3, ho3, i3, j3, c1, c2⟩
  have hz3 := ho3.size
  have hF3 := hF2.only ho3 hB (by omega)
  have hst := way_steps a1.out b1.out b2.out c1 c2
  have ho03 : Only g W0 w3 := ho1.trans (ho2.trans ho3)
  have hw3 := hw0.below (ho03.below (Nat.le_refl _) (by omega))
  clear a1 b1 b2 c1 c2 hs1 hs2 hF0 hF1 hF2 ho1 ho2 ho3 hsc0 hw0
  have hb4 : Below w3.heap.size w3 (w3.alloc (.cells #[.string t0, .string t1, .int .i64 n] 59)) := ext_alloc (Below.refl _ _) _
  have x0 : (w3.alloc (.cells #[.string t0, .string t1, .int .i64 n] 59)).cell? ⟨w3.heap.size, 0, none⟩ = some (.string t0) := by simp
  have x1 : (w3.alloc (.cells #[.string t0, .string t1, .int .i64 n] 59)).cell? ⟨w3.heap.size, 1, none⟩ = some (.string t1) := by simp
  have x2 : (w3.alloc (.cells #[.string t0, .string t1, .int .i64 n] 59)).cell? ⟨w3.heap.size, 2, none⟩ = some (.int .i64 n) := by simp
  have hs4 := hs3.later hb4
  have ho4 : Only g W0 _ := Only.later ho03 hb4
  have hF4 := hF3.below (hb4.mono (by omega) : Below B _ _)
  have hw4 := hw3.below (hb4.mono (by omega) : Below g _ _)
  have hz4 : (w3.alloc (.cells #[.string t0, .string t1, .int .i64 n] 59)).heap.size = w3.heap.size + 1 := World.size_alloc _ _
  obtain ⟨x, hx⟩ : ∃ x, w3.heap.size = x := ⟨_, rfl⟩
  obtain ⟨W4, hW4⟩ : ∃ W4, w3.alloc (.cells #[.string t0, .string t1, .int .i64 n] 59) = W4 := ⟨_, rfl⟩
  rw [hW4] at x0 x1 x2 hs4 ho4 hF4 hw4 hz4
  rw [hx] at x0 x1 x2 hz4
  have hxg : x ≠ g := by omega
  have hxr : x ≠ r := by omega
  replace hst := hide hst
  clear hs3 hF3 hw3 ho03 hb4
  by_cases h24 : 24 < n
  · have h24i : (24 : Int) < n := by omega
    go_wp2_with fail
    clear hW4 hx
    refine (fail_walk B g line F fs c k3 pr3 3 W4 hs4 hF4 i3 (by omega) (by omega)).mono ?_
    rintro e w5 ⟨rfl, hs5, ho5⟩
    have hz4' := ho4.size
    have hw5 := hw4.below (Only.below ho5 (Nat.le_refl _) (by omega))
    have hxl0 := World.block_lt_of_cell? _ _ x0
    replace x0 := (ho5.cell hxl0 hxg).trans x0
    replace x1 := (ho5.cell hxl0 hxg).trans x1
    replace x2 := (ho5.cell hxl0 hxg).trans x2
    obtain ⟨pr5, hpr5⟩ : ∃ pr5, noted pr3 (decide (24 < n)) (line, colAt fs k3, 3) = pr5 := ⟨_, rfl⟩
    rw [show noted pr3 (decide ((3 : Int) ≠ 0)) (line, colAt fs k3, 3) = pr5 from by rw [← hpr5, decide_eq_true h24]; rfl] at hs5
    rw [hpr5] at hst
    replace ho5 : Only g W0 w5 := ho4.trans ho5
    have hxl := World.block_lt_of_cell? _ _ x0
    clear hpr5 hxl0 hs4 hw4 hF4 ho4
    go_wp2_with fail
    have hz5 := ho5.size
    refine (whole_walk g line F fs.length c k3 pr5 _ 1 w5 hs5).mono ?_
    rintro e w6 ⟨rfl, hs6, ho6⟩
    have hw6 := hw5.below (Only.below ho6 (Nat.le_refl _) (by omega))
    have y0 := (ho6.cell (World.block_lt_of_cell? _ _ x0) hxg).trans x0
    have y1 := (ho6.cell (World.block_lt_of_cell? _ _ x0) hxg).trans x1
    have y2 := (ho6.cell (World.block_lt_of_cell? _ _ x0) hxg).trans x2
    replace ho6 : Only g W0 w6 := ho5.trans ho6
    have hz6 := ho6.size
    clear x0 x1 x2 hs5 ho5 hw5
    have hcon := conW_walk A ws cr (t0, t1, (n : Int)) w6 hq (hw6.more fun b hb => by omega)
    dsimp only at hcon
    go_wp2_with fail
    refine hcon.mono ?_
    rintro e w7 ⟨rfl, hb7⟩
    clear hcon
    have hs7 := hs6.later hb7
    have ho7 := Only.later ho6 hb7
    have hw7 := hw6.below (hb7.mono (by omega) : Below g _ _)
    replace y0 := cell_later hb7 y0
    replace y1 := cell_later hb7 y1
    replace y2 := cell_later hb7 y2
    clear hs6 ho6 hw6 hb7
    go_wp2_with fail
    refine (whole_walk g line F fs.length c k3 _ _ 11 _ hs7).mono ?_
    rintro e w8 ⟨rfl, hs8, ho8⟩
    have hz7 := ho7.size
    have hw8 := hw7.below (Only.below ho8 (Nat.le_refl _) (by omega))
    have q0 := (ho8.cell (World.block_lt_of_cell? _ _ y0) hxg).trans y0
    have q1 := (ho8.cell (World.block_lt_of_cell? _ _ y0) hxg).trans y1
    have q2 := (ho8.cell (World.block_lt_of_cell? _ _ y0) hxg).trans y2
    replace ho8 : Only g W0 w8 := ho7.trans ho8
    have hz8 := ho8.size
    clear y0 y1 y2 hs7 ho7 hw7
    have hxl := cell_lt q0
    have hcc : WayC x t0 t1 n w8 := ⟨q0, q1, q2⟩
    have hbl := hide (way_bld A ws cr w8 hq (hw8.more fun b hb => by omega) hcc)
    have had := hide (way_add ws w8 hq hcc)
    have hwh := hide (way_whole g line F fs.length c k3 _ w8 hs8 hxg hcc)
    obtain ⟨prx, hprx⟩ : ∃ prx, noted (noted pr5 (sameS t0 t1) (line, 0, 1)) (dupTo (t0, t1, (n : Int)) ws) (line, 0, 11) = prx := ⟨_, rfl⟩
    have hprx' : noted (noted pr5 (t0.toList == t1.toList) (line, 0, 1)) (dupTo (t0, t1, (n : Int)) ws) (line, 0, 11) = prx := hprx
    rw [hprx'] at hwh
    clear hprx' hs8
    replace hprx := hide hprx
    obtain ⟨L, hL⟩ : ∃ L, (addV (bldV ws) (t0, t1, (n : Int))).length = L := ⟨_, rfl⟩
    obtain ⟨q, hqq⟩ : ∃ q, ws.length = q := ⟨_, rfl⟩
    obtain ⟨M, hM⟩ : ∃ M, (bldV ws).length = M := ⟨_, rfl⟩
    unfold BldC at hbl
    unfold AddC at had
    rw [hL] at had
    rw [hM] at had hbl
    rw [hqq] at hbl ⊢
    replace hL := hide hL
    replace hM := hide hM
    replace hqq := hide hqq
    have hbb := Below.refl w8.heap.size w8
    replace ho8 := hide ho8
    clear hw8
    go_wp2_with fail
    go_region_held3 (fun W' => W'.cell? ⟨x, 0, none⟩ = some ((.string t0)) ∧ W'.cell? ⟨x, 1, none⟩ = some ((.string t1)) ∧ W'.cell? ⟨x, 2, none⟩ = some ((.int .i64 n))) (first | ((repeat (first | (with_reducible assumption) | (with_reducible refine Cn3.alloc ?_ _) | (with_reducible refine Cn3.drew ?_) | (with_reducible refine Cn3.set ?_ ?_ ?_ ?_ _) | omega)); done)) (first | (go_at_call 40; refine (hbl.out _ (by repeat (first | (with_reducible assumption) | (with_reducible refine ext_alloc ?_ _) | (with_reducible refine ext_drew ?_)))).mono ?_; rintro e w9 ⟨A2, c2, rfl, hb9, hx9, hown9⟩) | (go_at_call 39; refine (had.out A2 c2 _ (by repeat (first | (with_reducible assumption) | (with_reducible refine Own.alloc ?_ _) | (with_reducible refine Own.drew ?_))) (by repeat (first | (with_reducible assumption) | (with_reducible refine ext_alloc ?_ _) | (with_reducible refine ext_drew ?_)))).mono ?_; rintro e w10 ⟨A3, c3, rfl, hb10, hx10⟩) | (go_at_call 36; refine (hwh.out _ _ (by repeat (first | (with_reducible assumption) | (with_reducible refine ext_alloc ?_ _) | (with_reducible refine ext_drew ?_)))).mono ?_; rintro e w11 ⟨rfl, hs11, ho11, hx11⟩))
    all_goals
      have ho12 : Only g W0 w11 := ho8.out.trans ho11
      have rr0 := (ho12.cell hrl hrg).trans r0.out
      have rr1 := (ho12.cell hrl hrg).trans r1.out
      have rr2 := (ho12.cell hrl hrg).trans r2.out
      have g0 := (ho12.frozen hrl hrg).trans (f0.out 0)
      have g1 := (ho12.frozen hrl hrg).trans (f0.out 1)
      have g2 := (ho12.frozen hrl hrg).trans (f0.out 2)
      obtain ⟨z0, z1, z2⟩ := hx11
      obtain ⟨hp1, hp2⟩ := way_close hst.out hprx.out hL.out
      rw [hp1] at hs11
      replace hs11 := hide hs11
      replace ho12 := hide ho12
      replace hp2 := hide hp2
      clear hbl had hwh hcc hx9 hx10 q0 q1 q2 hp1 hb9 hb10 ho11 hown9 hbb hst hprx
      go_wp2
      have s0 : (w11.setCell ⟨r, 0, none⟩ (.string t0)).cell? ⟨r, 0, none⟩ = some (.string t0) := World.cell?_setCell_same _ _ _ rr0
      have s1 : (w11.setCell ⟨r, 0, none⟩ (.string t0)).cell? ⟨r, 1, none⟩ = some (.string ⟨#[]⟩) := (World.cell?_setCell_other _ _ _ _ (by simp)).trans rr1
      have s2 : (w11.setCell ⟨r, 0, none⟩ (.string t0)).cell? ⟨r, 2, none⟩ = some (.int .i64 0) := (World.cell?_setCell_other _ _ _ _ (by simp)).trans rr2
      have u0 : ((w11.setCell ⟨r, 0, none⟩ (.string t0)).setCell ⟨r, 1, none⟩ (.string t1)).cell? ⟨r, 0, none⟩ = some (.string t0) := (World.cell?_setCell_other _ _ _ _ (by simp)).trans s0
      have u1 : ((w11.setCell ⟨r, 0, none⟩ (.string t0)).setCell ⟨r, 1, none⟩ (.string t1)).cell? ⟨r, 1, none⟩ = some (.string t1) := World.cell?_setCell_same _ _ _ s1
      have u2 : ((w11.setCell ⟨r, 0, none⟩ (.string t0)).setCell ⟨r, 1, none⟩ (.string t1)).cell? ⟨r, 2, none⟩ = some (.int .i64 0) := (World.cell?_setCell_other _ _ _ _ (by simp)).trans s2
      refine end_way rfl r (.string t0) (.string t1) (.int .i64 n) rfl rfl ((World.cell?_setCell_other _ _ _ _ (by simp)).trans u0) ((World.cell?_setCell_other _ _ _ _ (by simp)).trans u1) (World.cell?_setCell_same _ _ _ u2) ⟨(t0, t1, (n : Int)), k3, rfl, scan_set (scan_set (scan_set hs11.out rr0 hrg) s0 hrg) u0 hrg, hp2.out, ?_⟩
      exact only_setCell (only_setCell (only_setCell (how.trans ho12.out) (Or.inr (Nat.le_of_eq hr.out)) _) (Or.inr (Nat.le_of_eq hr.out)) _) (Or.inr (Nat.le_of_eq hr.out)) _
  · have h24i : ¬ (24 : Int) < n := by omega
    obtain ⟨pr5, hpr5⟩ : ∃ pr5, noted pr3 (decide (24 < n)) (line, colAt fs k3, 3) = pr5 := ⟨_, rfl⟩
    rw [show pr3 = pr5 from by rw [← hpr5, decide_eq_false h24]; cases pr3 <;> rfl] at hs4
    rw [hpr5] at hst
    have hz4' := ho4.size
    have hxl := World.block_lt_of_cell? _ _ x0
    clear hpr5
    go_wp2_with fail
    clear hW4 hx
    obtain ⟨w5, hw5e⟩ : ∃ w5, W4 = w5 := ⟨_, rfl⟩
    subst hw5e
    have hs5 := hs4
    have ho5 := ho4
    have hw5 := hw4
    clear hs4 ho4 hw4 hF4
    have hz5 := ho5.size
    refine (whole_walk g line F fs.length c k3 pr5 _ 1 W4 hs5).mono ?_
    rintro e w6 ⟨rfl, hs6, ho6⟩
    have hw6 := hw5.below (Only.below ho6 (Nat.le_refl _) (by omega))
    have y0 := (ho6.cell (World.block_lt_of_cell? _ _ x0) hxg).trans x0
    have y1 := (ho6.cell (World.block_lt_of_cell? _ _ x0) hxg).trans x1
    have y2 := (ho6.cell (World.block_lt_of_cell? _ _ x0) hxg).trans x2
    replace ho6 : Only g W0 w6 := ho5.trans ho6
    have hz6 := ho6.size
    clear x0 x1 x2 hs5 ho5 hw5
    have hcon := conW_walk A ws cr (t0, t1, (n : Int)) w6 hq (hw6.more fun b hb => by omega)
    dsimp only at hcon
    go_wp2_with fail
    refine hcon.mono ?_
    rintro e w7 ⟨rfl, hb7⟩
    clear hcon
    have hs7 := hs6.later hb7
    have ho7 := Only.later ho6 hb7
    have hw7 := hw6.below (hb7.mono (by omega) : Below g _ _)
    replace y0 := cell_later hb7 y0
    replace y1 := cell_later hb7 y1
    replace y2 := cell_later hb7 y2
    clear hs6 ho6 hw6 hb7
    go_wp2_with fail
    refine (whole_walk g line F fs.length c k3 _ _ 11 _ hs7).mono ?_
    rintro e w8 ⟨rfl, hs8, ho8⟩
    have hz7 := ho7.size
    have hw8 := hw7.below (Only.below ho8 (Nat.le_refl _) (by omega))
    have q0 := (ho8.cell (World.block_lt_of_cell? _ _ y0) hxg).trans y0
    have q1 := (ho8.cell (World.block_lt_of_cell? _ _ y0) hxg).trans y1
    have q2 := (ho8.cell (World.block_lt_of_cell? _ _ y0) hxg).trans y2
    replace ho8 : Only g W0 w8 := ho7.trans ho8
    have hz8 := ho8.size
    clear y0 y1 y2 hs7 ho7 hw7
    have hxl := cell_lt q0
    have hcc : WayC x t0 t1 n w8 := ⟨q0, q1, q2⟩
    have hbl := hide (way_bld A ws cr w8 hq (hw8.more fun b hb => by omega) hcc)
    have had := hide (way_add ws w8 hq hcc)
    have hwh := hide (way_whole g line F fs.length c k3 _ w8 hs8 hxg hcc)
    obtain ⟨prx, hprx⟩ : ∃ prx, noted (noted pr5 (sameS t0 t1) (line, 0, 1)) (dupTo (t0, t1, (n : Int)) ws) (line, 0, 11) = prx := ⟨_, rfl⟩
    have hprx' : noted (noted pr5 (t0.toList == t1.toList) (line, 0, 1)) (dupTo (t0, t1, (n : Int)) ws) (line, 0, 11) = prx := hprx
    rw [hprx'] at hwh
    clear hprx' hs8
    replace hprx := hide hprx
    obtain ⟨L, hL⟩ : ∃ L, (addV (bldV ws) (t0, t1, (n : Int))).length = L := ⟨_, rfl⟩
    obtain ⟨q, hqq⟩ : ∃ q, ws.length = q := ⟨_, rfl⟩
    obtain ⟨M, hM⟩ : ∃ M, (bldV ws).length = M := ⟨_, rfl⟩
    unfold BldC at hbl
    unfold AddC at had
    rw [hL] at had
    rw [hM] at had hbl
    rw [hqq] at hbl ⊢
    replace hL := hide hL
    replace hM := hide hM
    replace hqq := hide hqq
    have hbb := Below.refl w8.heap.size w8
    replace ho8 := hide ho8
    clear hw8
    go_wp2_with fail
    go_region_held3 (fun W' => W'.cell? ⟨x, 0, none⟩ = some ((.string t0)) ∧ W'.cell? ⟨x, 1, none⟩ = some ((.string t1)) ∧ W'.cell? ⟨x, 2, none⟩ = some ((.int .i64 n))) (first | ((repeat (first | (with_reducible assumption) | (with_reducible refine Cn3.alloc ?_ _) | (with_reducible refine Cn3.drew ?_) | (with_reducible refine Cn3.set ?_ ?_ ?_ ?_ _) | omega)); done)) (first | (go_at_call 40; refine (hbl.out _ (by repeat (first | (with_reducible assumption) | (with_reducible refine ext_alloc ?_ _) | (with_reducible refine ext_drew ?_)))).mono ?_; rintro e w9 ⟨A2, c2, rfl, hb9, hx9, hown9⟩) | (go_at_call 39; refine (had.out A2 c2 _ (by repeat (first | (with_reducible assumption) | (with_reducible refine Own.alloc ?_ _) | (with_reducible refine Own.drew ?_))) (by repeat (first | (with_reducible assumption) | (with_reducible refine ext_alloc ?_ _) | (with_reducible refine ext_drew ?_)))).mono ?_; rintro e w10 ⟨A3, c3, rfl, hb10, hx10⟩) | (go_at_call 36; refine (hwh.out _ _ (by repeat (first | (with_reducible assumption) | (with_reducible refine ext_alloc ?_ _) | (with_reducible refine ext_drew ?_)))).mono ?_; rintro e w11 ⟨rfl, hs11, ho11, hx11⟩))
    all_goals
      have ho12 : Only g W0 w11 := ho8.out.trans ho11
      have rr0 := (ho12.cell hrl hrg).trans r0.out
      have rr1 := (ho12.cell hrl hrg).trans r1.out
      have rr2 := (ho12.cell hrl hrg).trans r2.out
      have g0 := (ho12.frozen hrl hrg).trans (f0.out 0)
      have g1 := (ho12.frozen hrl hrg).trans (f0.out 1)
      have g2 := (ho12.frozen hrl hrg).trans (f0.out 2)
      obtain ⟨z0, z1, z2⟩ := hx11
      obtain ⟨hp1, hp2⟩ := way_close hst.out hprx.out hL.out
      rw [hp1] at hs11
      replace hs11 := hide hs11
      replace ho12 := hide ho12
      replace hp2 := hide hp2
      clear hbl had hwh hcc hx9 hx10 q0 q1 q2 hp1 hb9 hb10 ho11 hown9 hbb hst hprx
      go_wp2
      have s0 : (w11.setCell ⟨r, 0, none⟩ (.string t0)).cell? ⟨r, 0, none⟩ = some (.string t0) := World.cell?_setCell_same _ _ _ rr0
      have s1 : (w11.setCell ⟨r, 0, none⟩ (.string t0)).cell? ⟨r, 1, none⟩ = some (.string ⟨#[]⟩) := (World.cell?_setCell_other _ _ _ _ (by simp)).trans rr1
      have s2 : (w11.setCell ⟨r, 0, none⟩ (.string t0)).cell? ⟨r, 2, none⟩ = some (.int .i64 0) := (World.cell?_setCell_other _ _ _ _ (by simp)).trans rr2
      have u0 : ((w11.setCell ⟨r, 0, none⟩ (.string t0)).setCell ⟨r, 1, none⟩ (.string t1)).cell? ⟨r, 0, none⟩ = some (.string t0) := (World.cell?_setCell_other _ _ _ _ (by simp)).trans s0
      have u1 : ((w11.setCell ⟨r, 0, none⟩ (.string t0)).setCell ⟨r, 1, none⟩ (.string t1)).cell? ⟨r, 1, none⟩ = some (.string t1) := World.cell?_setCell_same _ _ _ s1
      have u2 : ((w11.setCell ⟨r, 0, none⟩ (.string t0)).setCell ⟨r, 1, none⟩ (.string t1)).cell? ⟨r, 2, none⟩ = some (.int .i64 0) := (World.cell?_setCell_other _ _ _ _ (by simp)).trans s2
      refine end_way rfl r (.string t0) (.string t1) (.int .i64 n) rfl rfl ((World.cell?_setCell_other _ _ _ _ (by simp)).trans u0) ((World.cell?_setCell_other _ _ _ _ (by simp)).trans u1) (World.cell?_setCell_same _ _ _ u2) ⟨(t0, t1, (n : Int)), k3, rfl, scan_set (scan_set (scan_set hs11.out rr0 hrg) s0 hrg) u0 hrg, hp2.out, ?_⟩
      exact only_setCell (only_setCell (only_setCell (how.trans ho12.out) (Or.inr (Nat.le_of_eq hr.out)) _) (Or.inr (Nat.le_of_eq hr.out)) _) (Or.inr (Nat.le_of_eq hr.out)) _
end Go.Proofs.YtjcfkbichmlgmaaDoor

namespace Go.Proofs.YtjcfkbichmlgmaaDoor
open Go.RowKit
set_option maxRecDepth 100000

def hasS (z : ByteArray) (l : List ByteArray) : Prop := ∃ y ∈ l, y.toList = z.toList
theorem addS_has (l : List ByteArray) (z : ByteArray) : hasS z (addS l z) := by
  unfold addS
  by_cases h : 0 ≤ idxS z l
  · rw [if_pos h]
    by_cases hh : hasS z l
    · exact hh
    · have := idxS_none (z := z) (xs := l) (fun y hy => by
        cases hq : (y.toList == z.toList) with
        | false => rfl
        | true => exact absurd ⟨y, hy, by simpa using hq⟩ hh)
      omega
  · rw [if_neg h]
    exact ⟨z, by simp, rfl⟩
theorem addS_mono {l : List ByteArray} {u : ByteArray} (z : ByteArray) (h : hasS u l) : hasS u (addS l z) := by
  unfold addS
  split
  · exact h
  · obtain ⟨y, hy, e⟩ := h; exact ⟨y, by simp [hy], e⟩
theorem addV_mono {l : List ByteArray} {u : ByteArray} (x : Way) (h : hasS u l) : hasS u (addV l x) := addS_mono _ (addS_mono _ h)
theorem fold_mono {u : ByteArray} : ∀ (ws : List Way) (l : List ByteArray), hasS u l → hasS u (ws.foldl addV l)
  | [], _, h => h
  | x :: ws, _, h => fold_mono ws _ (addV_mono x h)
theorem fold_has {x : Way} : ∀ (ws : List Way) (l : List ByteArray), x ∈ ws → hasS x.1 (ws.foldl addV l) ∧ hasS x.2.1 (ws.foldl addV l)
  | y :: ws, l, h => by
    rcases List.mem_cons.1 h with rfl | h
    · exact ⟨fold_mono ws _ (addS_mono _ (addS_has l _)), fold_mono ws _ (addS_has _ _)⟩
    · exact fold_has ws _ h
theorem prod_len {α β : Type} (N : List β) : ∀ M : List α, (M.flatMap fun a => N.map (Prod.mk a)).length = M.length * N.length
  | [] => by simp
  | a :: M => by rw [List.flatMap_cons, List.length_append, prod_len N M, List.length_map, List.length_cons, Nat.succ_mul]; omega
/-- Ways as Read leaves them: no pair twice, at most eight buildings. -/
def Fine (ws : List Way) : Prop := (bldV ws).length ≤ 8 ∧ ws.Pairwise fun y x => sameW x y = false
theorem Fine.nil : Fine [] := ⟨Nat.zero_le _, List.Pairwise.nil⟩
theorem Fine.snoc {ws : List Way} {x : Way} (h : Fine ws) (h1 : ws.any (sameW x) = false) (h2 : (addV (bldV ws) x).length ≤ 8) : Fine (ws ++ [x]) := by
  refine ⟨by rw [bldV_snoc]; exact h2, List.pairwise_append.2 ⟨h.2, by simp, fun y hy z hz => ?_⟩⟩
  obtain rfl := List.mem_singleton.1 hz
  cases hq : sameW z y with
  | false => rfl
  | true => exact absurd (List.any_eq_true.2 ⟨y, hy, hq⟩) (by rw [h1]; simp)
theorem Fine.len {ws : List Way} (h : Fine ws) : ws.length ≤ 64 := by
  obtain ⟨h1, h2⟩ := h
  have hnd : (ws.map fun x => (x.1.toList, x.2.1.toList)).Nodup := by
    rw [List.nodup_iff_pairwise_ne, List.pairwise_map]
    refine h2.imp fun {y x} hs e => ?_
    have e1 : y.1.toList = x.1.toList := congrArg Prod.fst e
    have e2 : y.2.1.toList = x.2.1.toList := congrArg Prod.snd e
    unfold sameW sameS at hs
    rw [e1, e2] at hs
    simp at hs
  have hsub : (ws.map fun x => (x.1.toList, x.2.1.toList)) ⊆ ((bldV ws).map ByteArray.toList).flatMap fun a => ((bldV ws).map ByteArray.toList).map (Prod.mk a) := by
    intro p hp
    obtain ⟨x, hx, rfl⟩ := List.mem_map.1 hp
    obtain ⟨⟨a, ha, ea⟩, b, hb, eb⟩ := fold_has ws [] hx
    exact List.mem_flatMap.2 ⟨_, List.mem_map.2 ⟨a, ha, ea⟩, List.mem_map.2 ⟨_, List.mem_map.2 ⟨b, hb, eb⟩, rfl⟩⟩
  have hle := List.Nodup.length_le_of_subset hnd hsub
  rw [prod_len, List.length_map, List.length_map] at hle
  have := Nat.mul_le_mul h1 h1
  omega
end Go.Proofs.YtjcfkbichmlgmaaDoor

namespace Go.Proofs.YtjcfkbichmlgmaaDoor
open Go.RowKit
set_option maxRecDepth 100000

structure RW where
  ls : List Way
  lines : List Int
  ps : List Prob
def wayStep (s : RW) (r : Rec) : RW :=
  if r.2.length = 3 then (match wayP r.1 r.2 s.ls with | some p => ⟨s.ls, s.lines, s.ps ++ [p]⟩ | none => ⟨s.ls ++ [wayOf r.2], s.lines ++ [r.1], s.ps⟩) else ⟨s.ls, s.lines, s.ps ++ [(r.1, 0, 9)]⟩
def readWays (rs : List Rec) : RW := rs.foldl wayStep ⟨[], [], []⟩
theorem readWays_snoc (rs : List Rec) (r : Rec) : readWays (rs ++ [r]) = wayStep (readWays rs) r := by unfold readWays; rw [List.foldl_append]; rfl
theorem wayP_none {line : Int} {fs : List Fld} {ws : List Way} (h : wayP line fs ws = none) : ws.any (sameW (wayOf fs)) = false ∧ (addV (bldV ws) (wayOf fs)).length ≤ 8 := by
  unfold wayP wayEnd at h
  obtain ⟨h1, h2⟩ := noted_none h
  obtain ⟨h3, h4⟩ := noted_none h1
  exact ⟨h4, by have := of_decide_eq_false h2; omega⟩
def WaysOk (s : RW) : Prop := Fine s.ls ∧ s.lines.length = s.ls.length
theorem waysOk_step {s : RW} (h : WaysOk s) (r : Rec) : WaysOk (wayStep s r) := by
  unfold wayStep
  split
  · split
    · exact h
    · rename_i hp
      obtain ⟨h1, h2⟩ := wayP_none hp
      exact ⟨h.1.snoc h1 h2, by simp [h.2]⟩
  · exact h
theorem step_ps (s : RW) (r : Rec) : (wayStep s r).ps.length ≤ s.ps.length + 1 := by
  unfold wayStep
  split
  · split
    · simp
    · simp
  · simp
theorem fold_ok : ∀ (rs : List Rec) (s : RW), WaysOk s → WaysOk (rs.foldl wayStep s) ∧ (rs.foldl wayStep s).ps.length ≤ s.ps.length + rs.length
  | [], s, h => ⟨h, Nat.le_refl _⟩
  | r :: rs, s, h => by
    have ih := fold_ok rs (wayStep s r) (waysOk_step h r)
    have := step_ps s r
    exact ⟨ih.1, by have := ih.2; simp only [List.foldl_cons, List.length_cons]; omega⟩
theorem readWays_len (rs : List Rec) : WaysOk (readWays rs) ∧ (readWays rs).ps.length ≤ rs.length := by
  have := fold_ok rs ⟨[], [], []⟩ ⟨Fine.nil, rfl⟩
  exact ⟨this.1, by have := this.2; simpa [readWays] using this⟩
theorem apd_ints1 : Apd Tryd.prog 43 3 1 8 := apd Tryd.underlying43 (z := .int .i64 0) (by kernel_rfl) rfl
/-- What is gathered. -/
structure GW (w0 : World) (u6 u7 u8 : Value) (ls : List Way) (lines : List Int) (ps : List Prob) (W : World) : Prop where
  ls : Own kWay 59 [] 0 w0.heap.size W u6 ls
  ins : Own kInt 3 [] 0 w0.heap.size W u7 lines
  ps : ProbsOwn w0.heap.size W u8 ps
  below : Below w0.heap.size w0 W
section
variable {w0 W W' : World} {u6 u7 u8 : Value} {ls : List Way} {lines : List Int} {ps : List Prob}
theorem GW.later (h : GW w0 u6 u7 u8 ls lines ps W) (hb : Below W.heap.size W W') : GW w0 u6 u7 u8 ls lines ps W' :=
  ⟨h.ls.later hb, h.ins.later hb, owns_later h.ps hb, ext_trans h.below hb⟩
theorem GW.alloc (h : GW w0 u6 u7 u8 ls lines ps W) (o : Obj) : GW w0 u6 u7 u8 ls lines ps (W.alloc o) := h.later (ext_alloc (Below.refl _ _) _)
theorem GW.drew (h : GW w0 u6 u7 u8 ls lines ps W) : GW w0 u6 u7 u8 ls lines ps W.drew := h.later (ext_drew (Below.refl _ _))
theorem GW.scan {g : Nat} {line : Int} {F : Option Addr} {m c j : Nat} {pr : Option Prob} (h : GW w0 u6 u7 u8 ls lines ps W) (hs : Scan W g line F m c j pr) (ho : Only g W W') (hg : w0.heap.size ≤ g) : GW w0 u6 u7 u8 ls lines ps W' := by
  have hs' := hs
  obtain ⟨v, hgb, -⟩ := hs'
  exact ⟨h.ls.only ho hgb (Nat.zero_le _) (by decide) (by decide), h.ins.only ho hgb (Nat.zero_le _) (by decide) (by decide), owns_scan h.ps hs (by decide) ho, h.below.trans (Only.below ho hg h.below.size)⟩
theorem GW.prob {v' : Value} {p : Prob} (h : GW w0 u6 u7 u8 ls lines ps W) (hg : W.grownBy W' u8.ownBlock) (hn : W'.ownsRow w0.heap.size 82 4 v' (ps.length + 1) (ps.flatMap encP ++ encP p)) : GW w0 u6 u7 v' ls lines (ps ++ [p]) W' :=
  ⟨h.ls.grown h.ps (Nat.zero_le _) hg (by decide) (by decide), h.ins.grown h.ps (Nat.zero_le _) hg (by decide) (by decide), by unfold ProbsOwn; rw [List.length_append, flatP_snoc]; exact hn, Below.grown h.below hg h.below.size (fun j hj => (h.ps.lt j hj).1)⟩
theorem stepw_ls {ops : Array Oper} {o : Oper} {a : Act} {K' : Act → World → Prop} {Q : Exit → Act → World → Prop} {E : Prop} {S : World → Prop} (hgd : o.guard = none) (s x : Operand)
    (ho : o.op = .call { callee := .builtin .append, args := #[s, x], argTypes := #[55, 55] }) (hs : a.eval s = u6) (h : GW w0 u6 u7 u8 ls lines ps W) (hl : ls.length ≤ 64)
    (ad : Addr) (c : Nat) (hx : a.eval x = .slice (some ad) 1 c) (e : Way) (hnews : ∀ j u, [Value.string e.1, .string e.2.1, .int .i64 e.2.2][j]? = some u → W.cell? (ad.add j) = some u) (hS : ∀ w', W.grownBy w' u6.ownBlock → S w')
    (hk : ∀ g cap w', GW w0 (.slice (some ⟨g, 0, none⟩) (ls.length + 1) cap) u7 u8 (ls ++ [e]) lines ps w' → W.grownBy w' u6.ownBlock → S w' → K' (a.put o.dst (.slice (some ⟨g, 0, none⟩) (ls.length + 1) cap)) w') :
    if Region.wanted o (yielded ops a.tmps) = true then Oper.wp Tryd.prog o a W K' Q else E := by
  refine step_own (S := S) hgd s x ho apd_ways (by decide) hs h.ls (by omega) (by decide) ad c hx e [.string e.1, .string e.2.1, .int .i64 e.2.2] ⟨[_], [_, _], rfl, rfl, [_], [_], rfl, rfl, rfl⟩ hnews (by decide) (Nat.zero_le _) h.below.size hS fun g cap w' hn hg hs => hk g cap w' ?_ hg hs
  obtain ⟨vss, e1, e2, e3⟩ := h.ls
  exact ⟨hn, h.ins.grown e2 (Nat.zero_le _) hg (by decide) (by decide), World.ownsRow.kept h.ps hg (own_ne h.ps e2 (by decide)), Below.grown h.below hg h.below.size (fun j hj => (e2.lt j hj).1)⟩
theorem stepw_ins {ops : Array Oper} {o : Oper} {a : Act} {K' : Act → World → Prop} {Q : Exit → Act → World → Prop} {E : Prop} {S : World → Prop} (hgd : o.guard = none) (s x : Operand)
    (ho : o.op = .call { callee := .builtin .append, args := #[s, x], argTypes := #[43, 43] }) (hs : a.eval s = u7) (h : GW w0 u6 u7 u8 ls lines ps W) (hl : lines.length ≤ 64)
    (ad : Addr) (c : Nat) (hx : a.eval x = .slice (some ad) 1 c) (e : Int) (hnews : ∀ j u, [Value.int .i64 e][j]? = some u → W.cell? (ad.add j) = some u) (hS : ∀ w', W.grownBy w' u7.ownBlock → S w')
    (hk : ∀ g cap w', GW w0 u6 (.slice (some ⟨g, 0, none⟩) (lines.length + 1) cap) u8 ls (lines ++ [e]) ps w' → W.grownBy w' u7.ownBlock → S w' → K' (a.put o.dst (.slice (some ⟨g, 0, none⟩) (lines.length + 1) cap)) w') :
    if Region.wanted o (yielded ops a.tmps) = true then Oper.wp Tryd.prog o a W K' Q else E := by
  refine step_own (S := S) hgd s x ho apd_ints1 (by decide) hs h.ins (by omega) (by decide) ad c hx e [.int .i64 e] rfl hnews (by decide) (Nat.zero_le _) h.below.size hS fun g cap w' hn hg hs => hk g cap w' ?_ hg hs
  obtain ⟨vss, e1, e2, e3⟩ := h.ins
  exact ⟨h.ls.grown e2 (Nat.zero_le _) hg (by decide) (by decide), hn, World.ownsRow.kept h.ps hg (own_ne h.ps e2 (by decide)), Below.grown h.below hg h.below.size (fun j hj => (e2.lt j hj).1)⟩
end
def ReadWGives (rs : List Rec) (w : World) (e : Ending) (w' : World) : Prop :=
  ∃ v6 v7 v8, e = .returned (.tuple #[v6, v7, v8]) ∧ GW w v6 v7 v8 (readWays rs).ls (readWays rs).lines (readWays rs).ps w'
def ReadWLoop (rs : List Rec) (w : World) (v6 v7 v8 i : Value) (wr : World) : Prop :=
  ∃ j : Nat, j ≤ rs.length ∧ i = .int .i64 j ∧ GW w v6 v7 v8 (readWays (rs.take j)).ls (readWays (rs.take j)).lines (readWays (rs.take j)).ps wr
theorem take_way (rs : List Rec) (j : Nat) (r : Rec) (h : rs[j]? = some r) : readWays (rs.take (j + 1)) = wayStep (readWays (rs.take j)) r := by
  rw [List.take_add_one, h]; exact readWays_snoc _ r
set_option maxHeartbeats 8000000 in
theorem wread_walk (A : Option Addr) (rs : List Rec) (cap : Nat) (w : World) (hR : RecsAt w.heap.size w A rs) (hN : rs.length ≤ 4000000000000) (hs : ∀ r ∈ rs, ∀ f ∈ r.2, f.1.size < 1073741824) :
    Calls Tryd.prog 31 #[.slice A rs.length cap, .int .i64 3, .func (.func 32) #[] #[]] w fun e w' => ReadWGives rs w e w' := by
  have eg : ∀ args w, (callFunc 32 args).run Tryd.prog w = .ok (.enter 32 args) w := enters_of Tryd.func32 (by kernel_rfl) rfl
  obtain ⟨iP, hiP, hP0, hP1, hP2⟩ := info_parts infoProb
  obtain ⟨N, hNN⟩ : ∃ N, rs.length = N := ⟨_, rfl⟩
  rw [hNN] at hN ⊢
  replace hNN := hide hNN
  replace hs := hide hs
  go_enter Tryd.func31, Tryd.ntmps31
  go_wp2
  go_loopw [6, 7, 8, 15] (fun v6 v7 v8 i wr => ReadWLoop rs w v6 v7 v8 i wr) (fun _ _ _ i _ => N - (intOf i).toNat)
  case atStart => exact ⟨0, Nat.zero_le _, rfl, Own.nil, Own.nil, World.ownsRow_nil _ _ _ _, Below.refl _ _⟩
  case round =>
    obtain ⟨j, hj, rfl, hG⟩ := hrel
    rw [hNN.out] at hj
    by_cases hlt : j < N
    · obtain ⟨r, hr⟩ : ∃ r, rs[j]? = some r := ⟨_, List.getElem?_eq_getElem (by rw [hNN.out]; exact hlt)⟩
      obtain ⟨rb, off, rfl, hrb, hcell⟩ := (hR.below hG.below) (by rw [hNN.out]; omega)
      obtain ⟨F, c, k0, k1, hF⟩ := hcell j r hr
      have hsr := hide (hs.out r (List.mem_of_getElem? hr))
      have hstep := hide (take_way rs j r hr)
      obtain ⟨st, hst⟩ : ∃ st, readWays (rs.take j) = st := ⟨_, rfl⟩
      have hlen := readWays_len (rs.take j)
      rw [List.length_take, hNN.out] at hlen
      rw [hst] at hG hlen hstep
      obtain ⟨⟨n1, n2⟩, n3⟩ := hlen
      have n1 := n1.len
      obtain ⟨line, fs⟩ := r
      dsimp only at k0 k1 hF hsr
      have hz := hG.below.size
      have hrb2 : rb < wr.heap.size := by omega
      have h3N : st.ps.length ≤ 4000000000000 := by omega
      clear hcell hr hst hR n3
      replace n2 := hide n2
      obtain ⟨g, hg⟩ : ∃ g, wr.heap.size + 1 = g := ⟨_, rfl⟩
      have hsc0 : Scan ((wr.alloc (.cells #[.int .i64 line, .slice F fs.length c] 72)).alloc (.cells #[.int .i64 line, .slice F fs.length c, .int .i64 0, .pointer none] 80)) g line F fs.length c 0 none :=
        ⟨.pointer none, by rw [← hg]; exact heap_new2 _ _ _, rfl⟩
      have hb1 : Below wr.heap.size wr ((wr.alloc (.cells #[.int .i64 line, .slice F fs.length c] 72)).alloc (.cells #[.int .i64 line, .slice F fs.length c, .int .i64 0, .pointer none] 80)) := (by repeat (first | exact Below.refl _ _ | refine ext_alloc ?_ _ | refine ext_drewN ?_ _ | refine ext_drew ?_ | refine ext_trans ?_ (by assumption)))
      have q0 : ((wr.alloc (.cells #[.int .i64 line, .slice F fs.length c] 72)).alloc (.cells #[.int .i64 line, .slice F fs.length c, .int .i64 0, .pointer none] 80)).cell? ⟨wr.heap.size, 0, none⟩ = some (.int .i64 line) := by simp
      have hgw : wr.heap.size < g := by omega
      replace hg := hide hg
      obtain ⟨A6, c6, rfl⟩ := hG.ls.form
      have hu6 : Hid (∀ y, (Value.slice A6 st.ls.length c6).ownBlock = some y → y < wr.heap.size) := hide fun y e => (hG.ls.lt y e).2
      have hu7 : Hid (∀ y, u7.ownBlock = some y → y < wr.heap.size) := hide fun y e => (hG.ins.lt y e).2
      have hat := hG.ls.any'
      by_cases hm : fs.length = 3
      · have hm2 : ((fs.length : Int) != 3) = false := by simp; omega
        have h1s : ∀ k, (textAt fs k).size < 1073741824 := by
          intro k
          unfold textAt
          rw [List.getD_eq_getElem?_getD]
          cases hk : fs[k]? with
          | none => decide
          | some f => exact hsr.out _ (List.mem_of_getElem? hk)
        rw [show wayStep st (line, fs) = (match wayP line fs st.ls with | some p => ⟨st.ls, st.lines, st.ps ++ [p]⟩ | none => ⟨st.ls ++ [wayOf fs], st.lines ++ [line], st.ps⟩) from if_pos hm] at hstep
        replace hm := hide hm
        go_wp2_with fail
        rw [hg.out]
        refine (whole_walk g line F fs.length c 0 none false 9 _ hsc0).mono ?_
        rintro e w2 ⟨rfl, hs2, ho2⟩
        have hs2 : Scan w2 g line F fs.length c 0 none := hs2
        have c3 := scan_none hs2
        have hb2 : Below wr.heap.size wr w2 := hb1.trans (Only.below ho2 (by omega) hb1.size)
        have q2 := (ho2.cell (by rw [World.size_alloc, World.size_alloc]; omega) (by omega)).trans q0
        have hG2 := hG.later hb2
        have v1 : g < w2.heap.size := World.block_lt_of_cell? _ _ c3
        have v0 : wr.heap.size < w2.heap.size := World.block_lt_of_cell? _ _ q2
        have hF2 : FieldsAt w.heap.size w2 F fs := hF.below (hb2.mono hz)
        have hat2 : At kWay (· < g) w2 A6 st.ls := (hat.below hb2).up (by omega)
        have hbx : Below w2.heap.size w2 (w2.alloc (.cells #[.string ⟨#[]⟩, .string ⟨#[]⟩, .int .i64 0] 59)) := ext_alloc (Below.refl _ _) _
        have hsx := hs2.later hbx
        have hFx := hF2.below (hbx.mono (by omega) : Below w.heap.size _ _)
        have hax := hat2.below (hbx.mono (by omega) : Below g _ _)
        have hcall := hide (read1_walk w.heap.size g line F fs c A6 st.ls c6 _ hsx hFx hm.out (by omega) h1s (by omega) hax)
        clear hsc0 hb1 q0 ho2 hG hb2 hF hat hat2 hF2 hsx hFx hax
        go_upto_region 9 with (go_at_fn 32; refine hcall.out.mono ?_; rintro e w3 ⟨⟨a0, a1, a2⟩, k, rfl, hs3, hP3, ho3⟩; have x0 : w3.cell? ⟨w2.heap.size, 0, none⟩ = some (.string ⟨#[]⟩) := (ho3.cell (by simp) (by omega)).trans (by simp); have x1 : w3.cell? ⟨w2.heap.size, 1, none⟩ = some (.string ⟨#[]⟩) := (ho3.cell (by simp) (by omega)).trans (by simp); have x2 : w3.cell? ⟨w2.heap.size, 2, none⟩ = some (.int .i64 0) := (ho3.cell (by simp) (by omega)).trans (by simp); have xf0 : w3.frozen? ⟨w2.heap.size, 0, none⟩ = false := (ho3.frozen (by simp) (by omega)).trans (by simp); have xf1 : w3.frozen? ⟨w2.heap.size, 1, none⟩ = false := (ho3.frozen (by simp) (by omega)).trans (by simp); have xf2 : w3.frozen? ⟨w2.heap.size, 2, none⟩ = false := (ho3.frozen (by simp) (by omega)).trans (by simp))
        have hgx : w2.heap.size ≠ g := by omega
        have t0 : (w3.setCell ⟨w2.heap.size, 0, none⟩ (.string a0)).cell? ⟨w2.heap.size, 0, none⟩ = some (.string a0) := World.cell?_setCell_same _ _ _ x0
        have t1 : (w3.setCell ⟨w2.heap.size, 0, none⟩ (.string a0)).cell? ⟨w2.heap.size, 1, none⟩ = some (.string ⟨#[]⟩) := (World.cell?_setCell_other _ _ _ _ (by simp)).trans x1
        have t2 : (w3.setCell ⟨w2.heap.size, 0, none⟩ (.string a0)).cell? ⟨w2.heap.size, 2, none⟩ = some (.int .i64 0) := (World.cell?_setCell_other _ _ _ _ (by simp)).trans x2
        have s0 : ((w3.setCell ⟨w2.heap.size, 0, none⟩ (.string a0)).setCell ⟨w2.heap.size, 1, none⟩ (.string a1)).cell? ⟨w2.heap.size, 0, none⟩ = some (.string a0) := (World.cell?_setCell_other _ _ _ _ (by simp)).trans t0
        have s1 : ((w3.setCell ⟨w2.heap.size, 0, none⟩ (.string a0)).setCell ⟨w2.heap.size, 1, none⟩ (.string a1)).cell? ⟨w2.heap.size, 1, none⟩ = some (.string a1) := World.cell?_setCell_same _ _ _ t1
        have s2 : ((w3.setCell ⟨w2.heap.size, 0, none⟩ (.string a0)).setCell ⟨w2.heap.size, 1, none⟩ (.string a1)).cell? ⟨w2.heap.size, 2, none⟩ = some (.int .i64 0) := (World.cell?_setCell_other _ _ _ _ (by simp)).trans t2
        obtain ⟨U, hU⟩ : ∃ U, ((w3.setCell ⟨w2.heap.size, 0, none⟩ (.string a0)).setCell ⟨w2.heap.size, 1, none⟩ (.string a1)).setCell ⟨w2.heap.size, 2, none⟩ (.int .i64 a2) = U := ⟨_, rfl⟩
        have y0 : U.cell? ⟨w2.heap.size, 0, none⟩ = some (.string a0) := by rw [← hU]; exact (World.cell?_setCell_other _ _ _ _ (by simp)).trans s0
        have y1 : U.cell? ⟨w2.heap.size, 1, none⟩ = some (.string a1) := by rw [← hU]; exact (World.cell?_setCell_other _ _ _ _ (by simp)).trans s1
        have y2 : U.cell? ⟨w2.heap.size, 2, none⟩ = some (.int .i64 a2) := by rw [← hU]; exact World.cell?_setCell_same _ _ _ s2
        have hs4 : Scan U g line F fs.length c k (wayP line fs st.ls) := by rw [← hU]; exact scan_set (scan_set (scan_set hs3 x0 hgx) t0 hgx) s0 hgx
        have ho4 : Only g w2 U := by rw [← hU]; exact only_setCell (only_setCell (only_setCell ((Only.later (Only.refl g w2) (ext_alloc (Below.refl _ _) _)).trans ho3) (Or.inr (Nat.le_refl _)) _) (Or.inr (Nat.le_refl _)) _) (Or.inr (Nat.le_refl _)) _
        have hG4 := hG2.scan hs2 ho4 (by omega)
        have q4 := (ho4.cell v0 (by omega)).trans q2
        rw [hU]
        have hzU : w.heap.size ≤ U.heap.size := hG4.below.size
        clear t0 t1 t2 s0 s1 s2 hU x0 x1 x2 xf0 xf1 xf2 hs3 ho3 ho4 hG2 hs2 c3 q2 eg hcall hbx
        cases hsp : wayP line fs st.ls with
        | some p =>
          rw [hsp] at hs4 hstep
          obtain ⟨line', col, er⟩ := p
          obtain ⟨h, c3, p0, p1, p2, p3⟩ := scan_some hs4
          dsimp only at p0 p1 p2 p3 hstep
          clear hsp hs4 y0 y1 y2 q4 hP3
          have v1 : g < U.heap.size := World.block_lt_of_cell? _ _ c3
          have v2 : h < U.heap.size := World.block_lt_of_cell? _ _ p0
          go_wp2_with (at_builtin; refine wpList_append_own _ rfl _ _ 38 rfl w.heap.size 82 iP (.agg #[.int .i64 0, .int .i64 0, .int .i64 0, .int .i64 0]) 4 32 Tryd.underlying38 hiP hP0 hP1 hP2 rfl (by decide) _ _ _ rfl (hG4.alloc _).ps ⟨U.heap.size, 0, none⟩ 1 1 (encP (line', col, er)) rfl rfl (new_prob _ _ _ _ _) (one_prob _) ?c3 ?c4 ?c5 ?_)
          case c3 => unfold maxLen; omega
          case c4 => omega
          case c5 => rw [World.size_alloc]; omega
          intro v' w4 hPn hgrow _
          have hGn := (hG4.alloc _).prob (p := (line', col, er)) hgrow hPn
          clear hG4 c3 p0 p1 p2 p3 hPn hgrow
          go_wp2
          go_roundw
          case rel => exact ⟨j + 1, by rw [hNN.out]; omega, by go_num, by rw [hstep.out]; exact hGn⟩
          case measure => simp [intOf]; omega
        | none =>
          rw [hsp] at hs4 hstep
          have hway := hP3 hsp
          have c3 := scan_none hs4
          have v1 : g < U.heap.size := World.block_lt_of_cell? _ _ c3
          have v2 : w2.heap.size < U.heap.size := World.block_lt_of_cell? _ _ y0
          have v3 : wr.heap.size < U.heap.size := World.block_lt_of_cell? _ _ q4
          dsimp only at hstep
          rw [← hway] at hstep
          have n32 : st.lines.length ≤ 64 := by rw [n2.out]; exact n1
          have hn6 : Hid (∀ k, wr.heap.size ≤ k → some k ≠ (Value.slice A6 st.ls.length c6).ownBlock) := hide fun k hk e => by have := hu6.out k e.symm; omega
          have hn7 : Hid (∀ k, wr.heap.size ≤ k → some k ≠ u7.ownBlock) := hide fun k hk e => by have := hu7.out k e.symm; omega
          have e1 := hide (hn6.out w2.heap.size (by omega))
          have e2 := hide (hn6.out wr.heap.size (Nat.le_refl _))
          have e3 := hide (hn7.out w2.heap.size (by omega))
          have e4 := hide (hn7.out wr.heap.size (Nat.le_refl _))
          clear hsp hs4 hway hP3
          go_upto_region 11 with fail
          clear c3
          have hGd := hG4.drew
          have hSd : Cn4 w2.heap.size 0 ((.string a0)) w2.heap.size 1 ((.string a1)) w2.heap.size 2 ((.int .i64 a2)) wr.heap.size 0 ((.int .i64 line)) U.drew := ⟨y0, y1, y2, q4⟩
          have hS0 : Cn4 w2.heap.size 0 ((.string a0)) w2.heap.size 1 ((.string a1)) w2.heap.size 2 ((.int .i64 a2)) wr.heap.size 0 ((.int .i64 line)) U := ⟨y0, y1, y2, q4⟩
          clear y0 y1 y2 q4
          go_region_held3 (fun W' => W'.cell? ⟨w2.heap.size, 0, none⟩ = some ((.string a0)) ∧ W'.cell? ⟨w2.heap.size, 1, none⟩ = some ((.string a1)) ∧ W'.cell? ⟨w2.heap.size, 2, none⟩ = some ((.int .i64 a2)) ∧ W'.cell? ⟨wr.heap.size, 0, none⟩ = some ((.int .i64 line))) (first | ((repeat (first | (with_reducible assumption) | (with_reducible refine Cn4.alloc ?_ _) | (with_reducible refine Cn4.drew ?_) | (with_reducible refine Cn4.set ?_ ?_ ?_ ?_ ?_ _) | omega)); done)) (first | (refine stepw_ls (S := Cn4 w2.heap.size 0 ((.string a0)) w2.heap.size 1 ((.string a1)) w2.heap.size 2 ((.int .i64 a2)) wr.heap.size 0 ((.int .i64 line))) (w0 := w) (u6 := .slice A6 st.ls.length c6) (u7 := u7) (u8 := u8) (ls := st.ls) (lines := st.lines) (ps := st.ps) rfl (.tmp 52) (.tmp 54) rfl (by rfl) (by repeat (first | (with_reducible assumption) | (with_reducible refine GW.alloc ?_ _) | (with_reducible refine GW.drew ?_))) n1 _ _ (by rfl) (a0, a1, a2) (World.news_of_block (cs := #[.string a0, .string a1, .int .i64 a2]) (t := 59) (fr := (0, 0)) (by first | exact heap_alloc_new _ _ | exact heap_new2 _ _ _ | exact (Below.heap_alloc _ _ _ (by first | (simp; done) | (simp; omega))).trans (heap_alloc_new _ _))) (fun W' hg => Cn4.grown (by repeat (first | (with_reducible assumption) | (with_reducible refine Cn4.alloc ?_ _) | (with_reducible refine Cn4.drew ?_))) hg e1.out e1.out e1.out e2.out) ?_; intro gA capA w4 hg2 hgrow hs4) | (refine stepw_ins (S := Cn4 w2.heap.size 0 ((.string a0)) w2.heap.size 1 ((.string a1)) w2.heap.size 2 ((.int .i64 a2)) wr.heap.size 0 ((.int .i64 line))) (w0 := w) (u6 := .slice (some ⟨gA, 0, none⟩) (st.ls.length + 1) capA) (u7 := u7) (u8 := u8) (ls := st.ls ++ [(a0, a1, a2)]) (lines := st.lines) (ps := st.ps) rfl (.tmp 56) (.tmp 59) rfl (by rfl) (by repeat (first | (with_reducible assumption) | (with_reducible refine GW.alloc ?_ _) | (with_reducible refine GW.drew ?_))) n32 _ _ (by rfl) line (World.news_of_block (cs := #[.int .i64 line]) (t := 3) (fr := (0, 0)) (by first | exact heap_alloc_new _ _ | exact heap_new2 _ _ _ | exact (Below.heap_alloc _ _ _ (by first | (simp; done) | (simp; omega))).trans (heap_alloc_new _ _) | exact (hgrow.block _ (by first | (simp; done) | (simp; omega)) (hn6.out _ (by first | omega | (simp; done) | (simp; omega)))).trans (by first | exact heap_alloc_new _ _ | exact heap_new2 _ _ _ | exact (Below.heap_alloc _ _ _ (by first | (simp; done) | (simp; omega))).trans (heap_alloc_new _ _)))) (fun W' hg => Cn4.grown (by repeat (first | (with_reducible assumption) | (with_reducible refine Cn4.alloc ?_ _) | (with_reducible refine Cn4.drew ?_))) hg e3.out e3.out e3.out e4.out) ?_; intro gB capB w5 hg3 hgrow3 hs5))
          all_goals
            clear hGd hSd hS0 hG4
            go_wp2
            go_roundw
            case rel => exact ⟨j + 1, by rw [hNN.out]; omega, by go_num, by rw [hstep.out]; exact hg3⟩
            case measure => simp [intOf]; omega
      · have hm2 : ((fs.length : Int) != 3) = true := by simp; omega
        rw [show wayStep st (line, fs) = ⟨st.ls, st.lines, st.ps ++ [(line, 0, 9)]⟩ from if_neg hm] at hstep
        replace hm := hide hm
        clear hat
        go_wp2_with fail
        rw [hg.out]
        refine (whole_walk g line F fs.length c 0 none true 9 _ hsc0).mono ?_
        rintro e w2 ⟨rfl, hs2, ho2⟩
        obtain ⟨h, c3, p0, p1, p2, p3⟩ := scan_some hs2
        have hb2 : Below wr.heap.size wr w2 := hb1.trans (Only.below ho2 (by omega) hb1.size)
        have hG2 := hG.later hb2
        clear hsc0 hb1 q0 hs2 ho2 hG
        dsimp only at p0 p1 p2 p3
        have v1 := World.block_lt_of_cell? _ _ c3
        have v2 := World.block_lt_of_cell? _ _ p0
        have hz2 := hG2.below.size
        go_wp2_with (at_builtin; refine wpList_append_own _ rfl _ _ 38 rfl w.heap.size 82 iP (.agg #[.int .i64 0, .int .i64 0, .int .i64 0, .int .i64 0]) 4 32 Tryd.underlying38 hiP hP0 hP1 hP2 rfl (by decide) _ _ _ rfl ((hG2.alloc _).alloc _).ps ⟨w2.heap.size + 1, 0, none⟩ 1 1 (encP (line, 0, 9)) rfl rfl ?c0 (one_prob _) ?c3 ?c4 ?c5 ?_)
        case c0 => exact new_prob2 _ _ _ _ _ _
        case c3 => unfold maxLen; omega
        case c4 => omega
        case c5 => rw [World.size_alloc, World.size_alloc]; omega
        intro v' w4 hPn hgrow _
        have hGn := ((hG2.alloc _).alloc _).prob (p := (line, 0, 9)) hgrow hPn
        clear hG2 c3 p0 p1 p2 p3 hb2 hPn hgrow
        go_wp2
        go_roundw
        case rel => exact ⟨j + 1, by rw [hNN.out]; omega, by go_num, by rw [hstep.out]; exact hGn⟩
        case measure => simp [intOf]; omega
    · obtain rfl : j = N := by omega
      have hall : Hid (rs.take j = rs) := hide (by rw [← hNN.out]; exact List.take_length)
      rw [hall.out] at hG
      clear hall
      go_wp2
      go_ret3
      exact ⟨_, _, _, rfl, hG⟩
end Go.Proofs.YtjcfkbichmlgmaaDoor

namespace Go.Proofs.YtjcfkbichmlgmaaDoor
open Go.RowKit
set_option maxRecDepth 100000

theorem idxFrom_has {z : ByteArray} : ∀ {l : List ByteArray} {i : Int}, 0 ≤ i → hasS z l → 0 ≤ idxFrom z l i
  | [], _, _, h => by obtain ⟨y, hy, _⟩ := h; cases hy
  | x :: l, i, hi, h => by
    rw [idxFrom]
    split
    · exact hi
    · rename_i hq
      obtain ⟨y, hy, e⟩ := h
      rcases List.mem_cons.1 hy with rfl | hy
      · exact absurd (by simpa using e) hq
      · exact idxFrom_has (by omega) ⟨y, hy, e⟩
theorem idx_has (z : ByteArray) (l : List ByteArray) : 0 ≤ idxS z l ↔ hasS z l := by
  constructor
  · intro h
    by_cases hh : hasS z l
    · exact hh
    · have := idxS_none (z := z) (xs := l) (fun y hy => by
        cases hq : (y.toList == z.toList) with
        | false => rfl
        | true => exact absurd ⟨y, hy, by simpa using hq⟩ hh)
      omega
  · intro h; exact idxFrom_has (Int.le_refl 0) h
/-- How many of a way's buildings are new. -/
def moreOf (l : List ByteArray) (a b : ByteArray) : Nat := (if idxS a l < 0 then 1 else 0) + (if idxS b l < 0 then 1 else 0)
theorem hasS_snoc {a b : ByteArray} {l : List ByteArray} (h : sameS a b = false) : hasS b (l ++ [a]) ↔ hasS b l := by
  constructor
  · rintro ⟨y, hy, e⟩
    rcases List.mem_append.1 hy with hy | hy
    · exact ⟨y, hy, e⟩
    · obtain rfl := List.mem_singleton.1 hy
      unfold sameS at h
      rw [e] at h
      simp at h
  · rintro ⟨y, hy, e⟩; exact ⟨y, by simp [hy], e⟩
theorem addS_len_eq (l : List ByteArray) (z : ByteArray) : (addS l z).length = l.length + (if idxS z l < 0 then 1 else 0) := by
  unfold addS
  by_cases h : 0 ≤ idxS z l
  · rw [if_pos h, if_neg (by omega)]; rfl
  · rw [if_neg h, if_pos (by omega)]; simp
theorem addV_len_eq (l : List ByteArray) {a b : ByteArray} (n : Int) (h : sameS a b = false) : (addV l (a, b, n)).length = l.length + moreOf l a b := by
  show (addS (addS l a) b).length = _
  rw [addS_len_eq, addS_len_eq]
  have hb : idxS b (addS l a) < 0 ↔ idxS b l < 0 := by
    have h1 := idx_has b (addS l a)
    have h2 := idx_has b l
    have h3 : hasS b (addS l a) ↔ hasS b l := by
      unfold addS
      split
      · exact Iff.rfl
      · exact hasS_snoc h
    have := h1.trans (h3.trans h2.symm)
    omega
  unfold moreOf
  by_cases hq : idxS b l < 0
  · rw [if_pos hq, if_pos (hb.2 hq)]; omega
  · rw [if_neg hq, if_neg (fun e => hq (hb.1 e))]; omega
/-- The number of the field and the error, as the document's reading of one way finds them. -/
def refKE (fs : List Fld) (ws : List Way) (names : List ByteArray) : Option (Int × Int) :=
  if codeB (textAt fs 0) = true then (if codeB (textAt fs 1) = true then (match numE 2 (textAt fs 2) with
    | none => some (2, 4)
    | some n => if 24 < n then some (2, 3) else if sameS (textAt fs 0) (textAt fs 1) = true then some (-1, 1) else if dupTo (wayOf fs) ws = true then some (-1, 11) else if 8 < names.length + moreOf names (textAt fs 0) (textAt fs 1) then some (-1, 2) else none)
    else some (1, 10)) else some (0, 10)
def foundP (line : Int) (fs : List Fld) (ke : Int × Int) : Prob := (line, if ke.1 < 0 then 0 else colAt fs (ke.1.toNat + 1), ke.2)
theorem wayP_ref (line : Int) (fs : List Fld) (ws : List Way) : wayP line fs ws = (refKE fs ws (bldV ws)).map (foundP line fs) := by
  unfold wayP wayP1 refKE
  cases h0 : codeB (textAt fs 0) with
  | false => rfl
  | true =>
    cases h1 : codeB (textAt fs 1) with
    | false => rfl
    | true =>
      cases h2 : numE 2 (textAt fs 2) with
      | none => rfl
      | some n =>
        by_cases h3 : 24 < n
        · simp only [if_pos h3, if_true]; rfl
        · simp only [if_neg h3, if_true]
          unfold wayEnd
          cases h4 : sameS (textAt fs 0) (textAt fs 1) with
          | true => rw [show sameS (wayOf fs).1 (wayOf fs).2.1 = true from h4]; rfl
          | false =>
            rw [show sameS (wayOf fs).1 (wayOf fs).2.1 = false from h4]
            have hl : (addV (bldV ws) (wayOf fs)).length = (bldV ws).length + moreOf (bldV ws) (textAt fs 0) (textAt fs 1) := addV_len_eq _ _ h4
            rw [hl]
            cases h5 : dupTo (wayOf fs) ws with
            | true => rfl
            | false =>
              by_cases h6 : 8 < (bldV ws).length + moreOf (bldV ws) (textAt fs 0) (textAt fs 1)
              · rw [decide_eq_true (by omega : (8 : Int) < (((bldV ws).length + moreOf (bldV ws) (textAt fs 0) (textAt fs 1) : Nat) : Int))]
                simp only [if_pos h6]
                rfl
              · rw [decide_eq_false (by omega : ¬ (8 : Int) < (((bldV ws).length + moreOf (bldV ws) (textAt fs 0) (textAt fs 1) : Nat) : Int))]
                simp only [if_neg h6]
                rfl
end Go.Proofs.YtjcfkbichmlgmaaDoor
