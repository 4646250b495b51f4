/- Walks of fields.Digits, Scanner.Number, timetableref03.number, Digits: texts of digits. Conditions: at most 18 of them. Walks of Scanner.Number (the first digit may be 0), timetableref03.number, timetableref03.Digits. Conditions: at most 18 digits. Walk of Scanner.Number whose first digit is not 0, whether a problem is noted or not. Conditions: at most 18 digits. -/
import Derived.Test.YtimcdikeajbabaaGreatDoorRows
import Derived.WalkKit
import Derived.WalkSpells
import Derived.WalkLawsBesides
import Derived.BigGuardPart
import Derived.Lib.Hide
import Derived.Laws.BitsAllLaws
import Derived.Laws.BitsLemmas
import Derived.Lib.LaidTab
import Derived.Test.YtimcdikeajbabaaGreatDoorShelf
import Derived.Lib.ConvBytes
import Derived.Deep.QuietTactic
import Derived.BigQuiet
import Derived.Laws.ResultCell
import Derived.RegionTactic
import Derived.BigRegion
import Derived.Deep.RegionHeld3
import Derived.Deep.DeepCutAuto
import Derived.Lib.SmallJoins
import Derived.Lib.SplitLaws
import Derived.Lib.CountLaws
import Derived.Lib.IndexMore
import Derived.Lib.Split
import Derived.Lib.Join
import Derived.Test.YtimcdikeajbabaaGreatDoorShelfT
import Derived.Test.YtimcdikeajbabaaGreatDoorZSameL
namespace Go.Proofs.YtimcdikeajbabaaGreatDoor
open Go.RowKit
set_option maxRecDepth 100000

def cutDigits : ByteArray := ⟨#[48, 49, 50, 51, 52, 53, 54, 55, 56, 57]⟩
theorem trim_walk (s : ByteArray) (w : World) (hs : s.size ≤ 9223372036854775807) :
    Calls Tryz.prog 139 #[.string s, .string cutDigits] w fun e w' => e = .returned (.string ⟨(Lib.trimS s.data.toList cutDigits.data.toList).toArray⟩) ∧ Below w.heap.size w w' :=
  Any.strings_Trim_laid Tryz.lays160 (by kernel_rfl) s cutDigits w hs (by decide) (ascii_of_all (by decide))
/-- All bytes are digits. -/
def digS (s : ByteArray) : Bool := s.data.toList.all fun b => digN b.toNat
theorem cut_has (b : UInt8) : cutDigits.data.toList.contains b = digN b.toNat := by
  have h : ∀ n : Fin 256, cutDigits.data.toList.contains (UInt8.ofNat n.val) = digN n.val := by decide
  have := h ⟨b.toNat, b.toNat_lt⟩
  simpa using this
theorem drop_all {p : UInt8 → Bool} : ∀ {l : List UInt8}, l.all p = true → l.dropWhile p = []
  | [], _ => rfl
  | b :: l, h => by
    rw [List.all_cons, Bool.and_eq_true] at h
    rw [List.dropWhile_cons, if_pos h.1]
    exact drop_all h.2
theorem all_drop {p : UInt8 → Bool} : ∀ {l : List UInt8}, l.dropWhile p = [] → l.all p = true
  | [], _ => rfl
  | b :: l, h => by
    rw [List.dropWhile_cons] at h
    split at h
    · rename_i hb; rw [List.all_cons, hb, all_drop h]; rfl
    · cases h
theorem trim_all (s : ByteArray) : Lib.trimS s.data.toList cutDigits.data.toList = [] ↔ digS s = true := by
  have hf : (fun b => cutDigits.data.toList.contains b) = fun b : UInt8 => digN b.toNat := funext cut_has
  unfold Lib.trimS Lib.trimLeftS Lib.trimRightS digS
  rw [hf]
  constructor
  · intro h
    have h1 := all_drop h
    rw [List.all_reverse] at h1
    cases hd : List.dropWhile (fun b : UInt8 => digN b.toNat) s.data.toList.reverse with
    | nil => have := all_drop hd; rwa [List.all_reverse] at this
    | cons a t =>
      rw [hd, List.all_cons, Bool.and_eq_true] at h1
      have : ∀ {l : List UInt8}, List.dropWhile (fun b : UInt8 => digN b.toNat) l = a :: t → digN a.toNat = false := by
        intro l
        induction l with
        | nil => intro h; cases h
        | cons b l ih =>
          intro h
          rw [List.dropWhile_cons] at h
          split at h
          · exact ih h
          · rename_i hb; injection h with h2; subst h2; simpa using hb
      rw [this hd] at h1
      cases h1.1
  · intro h
    rw [drop_all (l := s.data.toList.reverse) (by rw [List.all_reverse]; exact h)]
    rfl
/-- The number that digits spell. -/
def valS (s : ByteArray) : Nat := (Lib.decFrom 0 s.data.toList).getD 0
def valTo (s : ByteArray) (k : Nat) : Nat := (Lib.decFrom 0 (s.data.toList.take k)).getD 0
theorem dec_some : ∀ {l : List UInt8} (a : Nat), (l.all fun b => digN b.toNat) = true → ∃ n, Lib.decFrom a l = some n ∧ n + 1 ≤ (a + 1) * 10 ^ l.length
  | [], a, _ => ⟨a, rfl, by simp⟩
  | b :: l, a, h => by
    rw [List.all_cons, Bool.and_eq_true] at h
    obtain ⟨h1, h2⟩ := h
    have h1 : 48 ≤ b.toNat ∧ b.toNat ≤ 57 := of_decide_eq_true h1
    obtain ⟨n, hn, hb⟩ := dec_some (a * 10 + (b.toNat - 48)) h2
    refine ⟨n, by simp only [Lib.decFrom, Lib.digitVal, if_pos h1]; exact hn, ?_⟩
    rw [List.length_cons, Nat.pow_succ, Nat.mul_comm (10 ^ _) 10, ← Nat.mul_assoc]
    exact Nat.le_trans hb (Nat.mul_le_mul_right _ (by omega))
theorem dig_val {s : ByteArray} (h : digS s = true) : Lib.decFrom 0 s.data.toList = some (valS s) ∧ valS s + 1 ≤ 10 ^ s.size := by
  obtain ⟨n, hn, hb⟩ := dec_some 0 h
  have e : valS s = n := by unfold valS; rw [hn]; rfl
  rw [e]
  rw [ba_len] at hb
  exact ⟨hn, by omega⟩
theorem dig_first {s : ByteArray} (h : digS s = true) (h0 : 0 < s.size) : 48 ≤ s[0].toNat ∧ s[0].toNat ≤ 57 := by
  have := List.all_eq_true.1 h s[0] (List.mem_of_getElem? (ba_at0 s h0))
  exact of_decide_eq_true this
theorem dig_atoi {s : ByteArray} (h : digS s = true) (h0 : 0 < s.size) : Lib.atoi s.data.toList = some (valS s : Int) := by
  obtain ⟨f1, f2⟩ := dig_first h h0
  have h1 := (dig_val h).1
  have ha := ba_at0 s h0
  obtain ⟨c, hc⟩ : ∃ c, s[0] = c := ⟨_, rfl⟩
  rw [hc] at f1 f2 ha
  cases hl : s.data.toList with
  | nil => rw [hl] at ha; cases ha
  | cons b r =>
    rw [hl] at ha h1
    obtain rfl : b = c := by simpa using ha
    have h43 : ¬ b = 43 := by rintro rfl; revert f1; decide
    have h45 : ¬ b = 45 := by rintro rfl; revert f1; decide
    simp [Lib.atoi, h43, h45, Lib.decNat, h1]
/-- The number of a text of at most so many digits. -/
def numE (most : Nat) (s : ByteArray) : Option Nat := if 1 ≤ s.size ∧ s.size ≤ most ∧ digS s = true then some (valS s) else none
def digV (o : Option Nat) : Value := .tuple #[.int .i64 ((o.getD 0 : Nat) : Int), .bool o.isSome]
set_option maxHeartbeats 1000000 in
theorem digits_walk (s : ByteArray) (most : Nat) (hm : most ≤ 18) (w : World) (hs : s.size ≤ 9223372036854775807) :
    Calls Tryz.prog 102 #[.string s, .int .i64 most] w fun e w' => e = .returned (digV (numE most s)) ∧ Below w.heap.size w w' := by
  by_cases h0 : 1 ≤ s.size
  · by_cases h1 : s.size ≤ most
    · have ht := trim_walk s
      cases hd : digS s with
      | true =>
        rw [show numE most s = some (valS s) from if_pos ⟨h0, h1, hd⟩]
        have hat := hide (dig_atoi hd (by omega))
        rw [(trim_all s).2 hd] at ht
        obtain ⟨v, hv⟩ : ∃ v, valS s = v := ⟨_, rfl⟩
        rw [hv] at hat
        show Calls Tryz.prog 102 #[.string s, .int .i64 most] w fun e w' => e = .returned (.tuple #[.int .i64 (valS s : Int), .bool true]) ∧ Below w.heap.size w w'
        rw [hv]
        clear hd hv
        have hmi : (s.size : Int) ≤ most := by omega
        go_enter Tryz.func102, Tryz.ntmps102
        go_wp2_with fail
        all_goals try (exfalso; omega)
        go_at_call 139
        refine (ht _ hs).mono ?_
        rintro e w1 ⟨rfl, b1⟩
        clear ht
        go_wp2_with (go_at_call 140; refine (Tryz.strconv_Atoi s v (by omega) hat.out _).mono ?_; rintro e w' ⟨rfl, t, rfl⟩)
        go_quiet (fail)
        go_wp2
        go_ret2
        exact ⟨rfl, ext_trans b1 (below_drewN (Joins.below_bytesWorld _ _ _ _ (Nat.le_refl _)) _)⟩
      | false =>
        rw [show numE most s = none from if_neg (fun ⟨_, _, hh⟩ => by rw [hd] at hh; cases hh)]
        have hne : Lib.trimS s.data.toList cutDigits.data.toList ≠ [] := fun h => by rw [(trim_all s).1 h] at hd; cases hd
        obtain ⟨z, hz⟩ : ∃ z : ByteArray, (⟨(Lib.trimS s.data.toList cutDigits.data.toList).toArray⟩ : ByteArray) = z := ⟨_, rfl⟩
        rw [hz] at ht
        have hzn : 0 < z.size := by
          rw [← hz]; show 0 < (Lib.trimS s.data.toList cutDigits.data.toList).toArray.size; rw [List.size_toArray]; exact List.length_pos_iff.2 hne
        have hze := isEmpty_false z (by omega)
        clear hd hz hne
        show Calls Tryz.prog 102 #[.string s, .int .i64 most] w fun e w' => e = .returned (.tuple #[.int .i64 0, .bool false]) ∧ Below w.heap.size w w'
        have hmi : (s.size : Int) ≤ most := by omega
        go_enter Tryz.func102, Tryz.ntmps102
        go_wp2_with fail
        all_goals try (exfalso; omega)
        go_at_call 139
        refine (ht _ hs).mono ?_
        rintro e w1 ⟨rfl, b1⟩
        clear ht
        go_wp2
        all_goals
          go_ret2
          exact ⟨rfl, b1⟩
    · rw [show numE most s = none from if_neg (fun ⟨_, hh, _⟩ => h1 hh)]
      have hmi : ¬ (s.size : Int) ≤ most := by omega
      show Calls Tryz.prog 102 #[.string s, .int .i64 most] w fun e w' => e = .returned (.tuple #[.int .i64 0, .bool false]) ∧ Below w.heap.size w w'
      go_enter Tryz.func102, Tryz.ntmps102
      go_wp2
      all_goals try (exfalso; omega)
      all_goals
        go_ret2
        exact ⟨rfl, Below.refl _ _⟩
  · rw [show numE most s = none from if_neg (fun ⟨hh, _⟩ => h0 hh)]
    show Calls Tryz.prog 102 #[.string s, .int .i64 most] w fun e w' => e = .returned (.tuple #[.int .i64 0, .bool false]) ∧ Below w.heap.size w w'
    go_enter Tryz.func102, Tryz.ntmps102
    go_wp2
    all_goals try (exfalso; omega)
    all_goals
      go_ret2
      exact ⟨rfl, Below.refl _ _⟩
end Go.Proofs.YtimcdikeajbabaaGreatDoor

namespace Go.Proofs.YtimcdikeajbabaaGreatDoor
open Go.RowKit
set_option maxRecDepth 100000

def numP (o : Option Nat) (p : Prob) : Option Prob := if o.isSome then none else some p
set_option maxHeartbeats 800000 in
theorem fnum_walk (B g : Nat) (line : Int) (F : Option Addr) (fs : List Fld) (c k most : Nat) (w : World) (h : Scan w g line F fs.length c k none) (hF : FieldsAt B w F fs) (h2 : k < fs.length) (hm : fs.length ≤ 1000) (hB : B ≤ g) (h18 : most ≤ 18) (hsz : (textAt fs k).size ≤ 9223372036854775807) :
    Calls Tryz.prog 67 #[.pointer (some ⟨g, 0, none⟩), .int .i64 most, .bool true] w fun end' w' => end' = .returned (.int .i64 (((numE most (textAt fs k)).getD 0 : Nat) : Int)) ∧ Scan w' g line F fs.length c (k + 1) (numP (numE most (textAt fs k)) (line, colAt fs (k + 1), 4)) ∧ Only g w w' := by
  have hlt := h.lt
  obtain ⟨o, ho⟩ : ∃ o, numE most (textAt fs k) = o := ⟨_, rfl⟩
  rw [ho]
  replace ho := hide ho
  cases o with
  | none =>
    show Calls Tryz.prog 67 #[.pointer (some ⟨g, 0, none⟩), .int .i64 most, .bool true] w fun end' w' => end' = .returned (.int .i64 0) ∧ Scan w' g line F fs.length c (k + 1) (some (line, colAt fs (k + 1), 4)) ∧ Only g w w'
    go_enter Tryz.func67, Tryz.ntmps67
    go_wp2_with fail
    refine (fnext_go B g line F fs c k w h hF h2 hm hB).mono ?_
    rintro e w1 ⟨rfl, hs1, ho1⟩
    go_wp2_with fail
    refine (digits_walk (textAt fs k) most h18 w1 hsz).mono ?_
    rintro e w2 ⟨rfl, hb2⟩
    rw [ho.out, show digV none = .tuple #[.int .i64 0, .bool false] from rfl]
    have hs2 := hs1.later hb2
    have ho2 := ho1.later hb2
    go_wp2_with fail
    refine (fail_walk B g line F fs c (k + 1) none 4 w2 hs2 (hF.only ho2 hB (by omega)) (by omega) (by omega) hm).mono ?_
    rintro e w3 ⟨rfl, hs3, ho3⟩
    go_wp2
    go_ret
    exact ⟨rfl, hs3, ho2.trans ho3⟩
  | some n =>
    show Calls Tryz.prog 67 #[.pointer (some ⟨g, 0, none⟩), .int .i64 most, .bool true] w fun end' w' => end' = .returned (.int .i64 n) ∧ Scan w' g line F fs.length c (k + 1) none ∧ Only g w w'
    go_enter Tryz.func67, Tryz.ntmps67
    go_wp2_with fail
    refine (fnext_go B g line F fs c k w h hF h2 hm hB).mono ?_
    rintro e w1 ⟨rfl, hs1, ho1⟩
    go_wp2_with fail
    refine (digits_walk (textAt fs k) most h18 w1 hsz).mono ?_
    rintro e w2 ⟨rfl, hb2⟩
    rw [ho.out, show digV (some n) = .tuple #[.int .i64 n, .bool true] from rfl]
    have hs2 := hs1.later hb2
    have ho2 := ho1.later hb2
    go_wp2_with fail
    go_ret
    exact ⟨rfl, hs2, ho2⟩
theorem numE_none (most : Nat) : numE most ⟨#[]⟩ = none := if_neg (fun h => by have := h.1; revert this; decide)
set_option maxHeartbeats 800000 in
theorem fnum_stop (B g : Nat) (line : Int) (F : Option Addr) (fs : List Fld) (c k most : Nat) (p : Prob) (w : World) (h : Scan w g line F fs.length c k (some p)) (hF : FieldsAt B w F fs) (h1 : 1 ≤ k) (h2 : k ≤ fs.length) (hm : fs.length ≤ 1000) (hB : B ≤ g) (h18 : most ≤ 18) :
    Calls Tryz.prog 67 #[.pointer (some ⟨g, 0, none⟩), .int .i64 most, .bool true] w fun end' w' => end' = .returned (.int .i64 0) ∧ Scan w' g line F fs.length c k (some p) ∧ Only g w w' := by
  have hlt := h.lt
  go_enter Tryz.func67, Tryz.ntmps67
  go_wp2_with fail
  refine (fnext_stop g line F fs.length c k p w h).mono ?_
  rintro e w1 ⟨rfl, rfl⟩
  go_wp2_with fail
  refine (digits_walk ⟨#[]⟩ most h18 w (by decide)).mono ?_
  rintro e w2 ⟨rfl, hb2⟩
  rw [numE_none, show digV none = .tuple #[.int .i64 0, .bool false] from rfl]
  have hs2 := h.later hb2
  have ho2 := (Only.refl g w).later hb2
  go_wp2_with fail
  refine (fail_walk B g line F fs c k (some p) 4 w2 hs2 (hF.only ho2 hB (by omega)) h1 h2 hm).mono ?_
  rintro e w3 ⟨rfl, hs3, ho3⟩
  go_wp2
  go_ret
  exact ⟨rfl, hs3, ho2.trans ho3⟩
theorem valTo_all (s : ByteArray) : valTo s s.size = valS s := by unfold valTo valS; rw [List.take_of_length_le (Nat.le_of_eq (ba_len s))]
theorem dig_at {s : ByteArray} {k : Nat} (h : k < s.size) (hd : digS s = true) : digN s[k].toNat = true :=
  List.all_eq_true.1 hd s[k] (List.mem_of_getElem? (by rw [List.getElem?_eq_getElem (by rw [ba_len]; exact h)]; rfl))
theorem valTo_step {s : ByteArray} {k : Nat} (h : k < s.size) (hd : digS s = true) : valTo s (k + 1) = 10 * valTo s k + (s[k].toNat - 48) ∧ 48 ≤ s[k].toNat ∧ s[k].toNat ≤ 57 ∧ valTo s k + 1 ≤ 10 ^ k := by
  have hk := dig_at h hd
  have hr : 48 ≤ s[k].toNat ∧ s[k].toNat ≤ 57 := of_decide_eq_true hk
  have ht : ((s.data.toList.take k).all fun b => digN b.toNat) = true := List.all_eq_true.2 fun b hb => List.all_eq_true.1 hd b (List.mem_of_mem_take hb)
  obtain ⟨n, hn, hb⟩ := dec_some 0 ht
  have hg : s.data.toList[k]? = some s[k] := by rw [List.getElem?_eq_getElem (by rw [ba_len]; exact h)]; rfl
  have hs := Lib.decFrom_take s.data.toList k 0 n s[k] (s[k].toNat - 48) hn hg (by unfold Lib.digitVal; rw [if_pos hr])
  unfold valTo
  rw [hs, hn]
  have hl : (s.data.toList.take k).length = k := by rw [List.length_take, ba_len]; omega
  rw [hl] at hb
  exact ⟨by show n * 10 + _ = 10 * n + _; omega, hr.1, hr.2, by show n + 1 ≤ _; omega⟩
theorem pow18 {k : Nat} (h : k ≤ 17) : 10 ^ k ≤ 100000000000000000 := Nat.le_trans (Nat.pow_le_pow_right (by omega) h) (by decide)
set_option maxHeartbeats 800000 in
theorem r3number_walk (s : ByteArray) (h18 : s.size ≤ 18) (hd : digS s = true) (w : World) :
    Calls Tryz.prog 133 #[.string s] w fun e w' => e = .returned (.int .i64 (valS s : Int)) ∧ w = w' := by
  have hall := hide (valTo_all s)
  go_enter Tryz.func133, Tryz.ntmps133
  go_wp2
  go_loop [3, 4] (fun n i => ∃ k : Nat, k ≤ s.size ∧ i = .int .i64 k ∧ n = .int .i64 (valTo s k)) (fun _ i => s.size - (intOf i).toNat)
  case atStart => exact ⟨0, Nat.zero_le _, rfl, rfl⟩
  case round =>
    obtain ⟨k, hk, rfl, rfl⟩ := hrel
    by_cases hlt : k < s.size
    · obtain ⟨hst, r1, r2, hb⟩ := valTo_step hlt hd
      have hp := pow18 (k := k) (by omega)
      obtain ⟨b, hbb⟩ : ∃ b, s[k].toNat = b := ⟨_, rfl⟩
      rw [hbb] at hst r1 r2
      obtain ⟨v, hv⟩ : ∃ v, valTo s k = v := ⟨_, rfl⟩
      rw [hv] at hst hb ⊢
      replace hst := hide hst
      have e1 : IntKind.i64.wrap (10 * (v : Int)) = 10 * (v : Int) := IntWalk.i64_in _ (by omega)
      clear hv hd
      go_wp2
      go_round
      case rel => exact ⟨k + 1, by omega, by go_num, by rw [hst.out]; go_num⟩
      case measure => simp [intOf]; omega
    · obtain rfl : k = s.size := by omega
      rw [hall.out]
      go_wp2
      go_ret
      exact ⟨rfl, rfl⟩
set_option maxHeartbeats 2000000 in
theorem r3digits_walk (s : ByteArray) (most : Nat) (h18 : most ≤ 18) (w : World) :
    Calls Tryz.prog 117 #[.string s, .int .i64 most, .bool false] w fun e w' => e = .returned (digV (numE most s)) ∧ w = w' := by
  by_cases h0 : 1 ≤ s.size ∧ s.size ≤ most
  · obtain ⟨h0, h1⟩ := h0
    have hmi : (s.size : Int) ≤ most := by omega
    have hyes : digS s = true → Hid (digV (numE most s) = .tuple #[.int .i64 (valS s : Int), .bool true]) := fun hd => hide (by rw [show numE most s = some (valS s) from if_pos ⟨h0, h1, hd⟩]; rfl)
    have hno : digS s = false → Hid (digV (numE most s) = .tuple #[.int .i64 0, .bool false]) := fun hd => hide (by rw [show numE most s = none from if_neg (fun ⟨_, _, hh⟩ => by rw [hd] at hh; cases hh)]; rfl)
    obtain ⟨V, hV⟩ : ∃ V, digV (numE most s) = V := ⟨_, rfl⟩
    rw [hV] at hyes hno ⊢
    clear hV
    have hto : ∀ k, k ≤ s.size → (∀ (j : Nat) (hj : j < k) (hj2 : j < s.size), digN s[j].toNat = true) → k = s.size → digS s = true := by
      intro k hk hall he
      refine List.all_eq_true.2 fun b hb => ?_
      obtain ⟨j, hj, rfl⟩ := List.mem_iff_getElem.1 hb
      rw [ba_len] at hj
      exact hall j (by omega) hj
    have hbad : ∀ k (hk : k < s.size), digN s[k].toNat = false → digS s = false := by
      intro k hk hf
      cases hd : digS s with
      | false => rfl
      | true => rw [dig_at hk hd] at hf; cases hf
    go_enter Tryz.func117, Tryz.ntmps117
    go_wp2
    all_goals try (exfalso; omega)
    go_loop [8] (fun i => ∃ k : Nat, k ≤ s.size ∧ i = .int .i64 k ∧ ∀ (j : Nat) (hj : j < k) (hj2 : j < s.size), digN s[j].toNat = true) (fun i => s.size - (intOf i).toNat)
    case atStart => exact ⟨0, Nat.zero_le _, rfl, fun j hj => absurd hj (by omega)⟩
    case round =>
      obtain ⟨k, hk, rfl, hall⟩ := hrel
      by_cases hlt : k < s.size
      · have hb := hbad k hlt
        have hnx : digN s[k].toNat = true → ∀ (j : Nat) (hj : j < k + 1) (hj2 : j < s.size), digN s[j].toNat = true := by
          intro h j hj hj2
          by_cases e : j = k
          · subst e; exact h
          · exact hall j (by omega) hj2
        obtain ⟨D, hD⟩ : ∃ D, digN s[k].toNat = D := ⟨_, rfl⟩
        have hcall := r3digN_at hD
        rw [hD] at hb hnx
        clear hD hall hto hbad hyes
        cases D with
        | true =>
          clear hb hno
          go_wp2_with (go_at_call 130; refine (hcall _).mono ?_; rintro e w' ⟨rfl, rfl⟩)
          go_round
          case rel => exact ⟨k + 1, by omega, by go_num, hnx (by first | trivial | rfl)⟩
          case measure => simp [intOf]; omega
        | false =>
          have hN := hno (hb rfl)
          clear hb hno hnx
          go_wp2_with (go_at_call 130; refine (hcall _).mono ?_; rintro e w' ⟨rfl, rfl⟩)
          go_ret2
          exact ⟨by rw [hN.out]; rfl, rfl⟩
      · obtain rfl : k = s.size := by omega
        have hd := hto s.size hk hall rfl
        have hY := hyes hd
        have hcall := r3number_walk s (by omega) hd
        clear hall hto hbad hyes hno hd
        go_wp2_with (go_at_call 133; refine (hcall _).mono ?_; rintro e w' ⟨rfl, rfl⟩)
        go_ret2
        exact ⟨by rw [hY.out]; rfl, rfl⟩
  · rw [show numE most s = none from if_neg (fun ⟨hh, hh2, _⟩ => h0 ⟨hh, hh2⟩)]
    have hmi : ¬ (1 ≤ (s.size : Int) ∧ (s.size : Int) ≤ most) := by omega
    show Calls Tryz.prog 117 #[.string s, .int .i64 most, .bool false] w fun e w' => e = .returned (.tuple #[.int .i64 0, .bool false]) ∧ w = w'
    go_enter Tryz.func117, Tryz.ntmps117
    go_wp2
    all_goals try (exfalso; omega)
    all_goals
      go_ret2
      exact ⟨rfl, rfl⟩
end Go.Proofs.YtimcdikeajbabaaGreatDoor

namespace Go.Proofs.YtimcdikeajbabaaGreatDoor
open Go.RowKit
set_option maxRecDepth 100000

/-- A number of at most so many digits that does not begin with 0. -/
def zeroS (s : ByteArray) : Bool := if h : 0 < s.size then decide (s[0].toNat = 48) else false
def numS (most : Nat) (s : ByteArray) : Option Nat := if zeroS s = true then none else numE most s
def NumAnyS (most g : Nat) (line : Int) (F : Option Addr) (fs : List Fld) (c k : Nat) (pr : Option Prob) (w : World) (e : Ending) (w' : World) : Prop :=
  ∃ (k' n : Nat) (pr' : Option Prob), e = .returned (.int .i64 (n : Int)) ∧ Scan w' g line F fs.length c k' pr' ∧ Only g w w' ∧ 1 ≤ k' ∧ k' ≤ k + 1 ∧ (pr = none → k' = k + 1 ∧ n = (numE most (textAt fs k)).getD 0 ∧ pr' = numP (numS most (textAt fs k)) (line, colAt fs (k + 1), 4)) ∧ (∀ p, pr = some p → pr' = some p ∧ n = 0)
set_option maxHeartbeats 800000 in
theorem num_anyS (B g : Nat) (line : Int) (F : Option Addr) (fs : List Fld) (c k most : Nat) (pr : Option Prob) (w : World) (h : Scan w g line F fs.length c k pr) (hF : FieldsAt B w F fs) (h2 : k < fs.length) (hm : fs.length ≤ 1000) (hB : B ≤ g) (h1 : ∀ p, pr = some p → 1 ≤ k) (h18 : most ≤ 18) (hsz : (textAt fs k).size ≤ 9223372036854775807) :
    Calls Tryz.prog 67 #[.pointer (some ⟨g, 0, none⟩), .int .i64 most, .bool false] w fun e w' => NumAnyS most g line F fs c k pr w e w' := by
  have hlt := h.lt
  cases pr with
  | none =>
    obtain ⟨s, hs⟩ : ∃ s, textAt fs k = s := ⟨_, rfl⟩
    have hgo := fnext_go B g line F fs c k w h hF h2 hm hB
    have hdig := fun (V : World) => digits_walk s most h18 V (by rw [← hs]; exact hsz)
    rw [hs] at hgo
    cases ho : numE most s with
    | none =>
      have hfin : Hid (numP (numS most (textAt fs k)) (line, colAt fs (k + 1), 4) = some (line, colAt fs (k + 1), 4) ∧ (numE most (textAt fs k)).getD 0 = 0) := hide (by
        rw [hs, ho]
        refine ⟨?_, rfl⟩
        unfold numS
        split
        · rfl
        · rw [ho]; rfl)
      rw [ho] at hdig
      replace hdig := hide hdig
      replace hs := hide hs
      replace ho := hide ho
      go_enter Tryz.func67, Tryz.ntmps67
      go_wp2_with fail
      refine hgo.mono ?_
      rintro e w1 ⟨rfl, hs1, ho1⟩
      go_wp2_with fail
      refine (hdig.out w1).mono ?_
      rintro e w2 ⟨rfl, hb2⟩
      rw [show digV none = .tuple #[.int .i64 0, .bool false] from rfl]
      have hs2 := hs1.later hb2
      have ho2 := ho1.later hb2
      go_wp2_with fail
      refine (fail_walk B g line F fs c (k + 1) none 4 w2 hs2 (hF.only ho2 hB (by omega)) (by omega) (by omega) hm).mono ?_
      rintro e w3 ⟨rfl, hs3, ho3⟩
      go_wp2
      go_ret
      exact ⟨k + 1, 0, _, rfl, hs3, ho2.trans ho3, by omega, Nat.le_refl _, fun _ => ⟨rfl, hfin.out.2.symm, hfin.out.1.symm⟩, fun p hp => by cases hp⟩
    | some n =>
      have hpos : 0 < s.size := by
        apply Classical.byContradiction
        intro hn
        unfold numE at ho
        rw [if_neg (fun h => hn h.1)] at ho
        cases ho
      have h0 : (0 : Int) < (s.size : Int) := by omega
      rw [ho] at hdig
      by_cases hz : s[0].toNat = 48
      · have hzi : ((s[0].toNat : Nat) : Int) = 48 := by omega
        have hfin : Hid (numP (numS most (textAt fs k)) (line, colAt fs (k + 1), 4) = some (line, colAt fs (k + 1), 4) ∧ (numE most (textAt fs k)).getD 0 = n) := hide (by
          rw [hs, ho]
          refine ⟨?_, rfl⟩
          unfold numS
          rw [if_pos (by unfold zeroS; rw [dif_pos hpos]; simpa using hz)]; rfl)
        replace hdig := hide hdig
        replace hs := hide hs
        replace ho := hide ho
        go_enter Tryz.func67, Tryz.ntmps67
        go_wp2_with fail
        refine hgo.mono ?_
        rintro e w1 ⟨rfl, hs1, ho1⟩
        go_wp2_with fail
        refine (hdig.out w1).mono ?_
        rintro e w2 ⟨rfl, hb2⟩
        rw [show digV (some n) = .tuple #[.int .i64 n, .bool true] from rfl]
        have hs2 := hs1.later hb2
        have ho2 := ho1.later hb2
        go_wp2_with fail
        refine (fail_walk B g line F fs c (k + 1) none 4 w2 hs2 (hF.only ho2 hB (by omega)) (by omega) (by omega) hm).mono ?_
        rintro e w3 ⟨rfl, hs3, ho3⟩
        go_wp2
        go_ret
        exact ⟨k + 1, n, _, rfl, hs3, ho2.trans ho3, by omega, Nat.le_refl _, fun _ => ⟨rfl, hfin.out.2.symm, hfin.out.1.symm⟩, fun p hp => by cases hp⟩
      · have hzi : ¬ ((s[0].toNat : Nat) : Int) = 48 := by omega
        have hfin : Hid (numP (numS most (textAt fs k)) (line, colAt fs (k + 1), 4) = none ∧ (numE most (textAt fs k)).getD 0 = n) := hide (by
          rw [hs, ho]
          refine ⟨?_, rfl⟩
          unfold numS
          rw [if_neg (by unfold zeroS; rw [dif_pos hpos]; simpa using hz), ho]; rfl)
        replace hdig := hide hdig
        replace hs := hide hs
        replace ho := hide ho
        go_enter Tryz.func67, Tryz.ntmps67
        go_wp2_with fail
        refine hgo.mono ?_
        rintro e w1 ⟨rfl, hs1, ho1⟩
        go_wp2_with fail
        refine (hdig.out w1).mono ?_
        rintro e w2 ⟨rfl, hb2⟩
        rw [show digV (some n) = .tuple #[.int .i64 n, .bool true] from rfl]
        have hs2 := hs1.later hb2
        have ho2 := ho1.later hb2
        go_wp2_with fail
        go_ret
        exact ⟨k + 1, n, _, rfl, hs2, ho2, by omega, Nat.le_refl _, fun _ => ⟨rfl, hfin.out.2.symm, hfin.out.1.symm⟩, fun p hp => by cases hp⟩
  | some p =>
    have hk := h1 p rfl
    go_enter Tryz.func67, Tryz.ntmps67
    go_wp2_with fail
    refine (fnext_stop g line F fs.length c k p w h).mono ?_
    rintro e w1 ⟨rfl, rfl⟩
    go_wp2_with fail
    refine (digits_walk ⟨#[]⟩ most h18 w (by decide)).mono ?_
    rintro e w2 ⟨rfl, hb2⟩
    rw [numE_none, show digV none = .tuple #[.int .i64 0, .bool false] from rfl]
    have hs2 := h.later hb2
    have ho2 := (Only.refl g w).later hb2
    go_wp2_with fail
    refine (fail_walk B g line F fs c k (some p) 4 w2 hs2 (hF.only ho2 hB (by omega)) hk (by omega) hm).mono ?_
    rintro e w3 ⟨rfl, hs3, ho3⟩
    go_wp2
    go_ret
    exact ⟨k, 0, _, rfl, hs3, ho2.trans ho3, hk, by omega, (fun hp => by cases hp), fun q hq => ⟨hq, rfl⟩⟩
end Go.Proofs.YtimcdikeajbabaaGreatDoor
