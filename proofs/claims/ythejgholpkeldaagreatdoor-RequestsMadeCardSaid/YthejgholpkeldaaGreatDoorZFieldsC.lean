/- Walks of codes.Valid and timetableref03.Valid. No condition but the string's size. Walks of fields.Scanner: Fail, Whole, Next, Code. Conditions: the scanner's cells are as Scan says. Walks of fields.Scanner: Code, Parts. Conditions: the scanner's cells are as Scan says; texts shorter than 2^30 bytes. Walk of fields.Scanner.Times. Conditions: the scanner's cells are as Scan says; texts shorter than 2^30 bytes. -/
import Derived.Test.YthejgholpkeldaaGreatDoorRows
import Derived.WalkKit
import Derived.WalkSpells
import Derived.WalkLawsBesides
import Derived.BigGuardPart
import Derived.Lib.Hide
import Derived.Laws.BitsAllLaws
import Derived.Laws.BitsLemmas
import Derived.Lib.LaidTab
import Derived.Test.YthejgholpkeldaaGreatDoorShelf
import Derived.Lib.ConvBytes
import Derived.Deep.QuietTactic
import Derived.BigQuiet
import Derived.Test.YthejgholpkeldaaGreatDoorZEnds
import Derived.Laws.ResultCell
import Derived.RegionTactic
import Derived.BigRegion
import Derived.Deep.RegionHeld3
import Derived.Deep.DeepCutAuto
import Derived.Test.YthejgholpkeldaaGreatDoorZDice
import Derived.Lib.SmallJoins
import Derived.Lib.SplitLaws
import Derived.Lib.CountLaws
import Derived.Lib.IndexMore
import Derived.Lib.Split
import Derived.Lib.Join
import Derived.Lib.ItoaNum
import Derived.Laws.AppendOwn
import Derived.Test.YthejgholpkeldaaGreatDoorZTgE
import Derived.Test.YthejgholpkeldaaGreatDoorZTwo
namespace Go.Proofs.YthejgholpkeldaaGreatDoor
open Go.RowKit

def digN (c : Nat) : Bool := decide (48 ≤ c ∧ c ≤ 57)
def letN (c : Nat) : Bool := decide ((65 ≤ c ∧ c ≤ 90) ∨ (97 ≤ c ∧ c ≤ 122))
def dashN (c : Nat) : Bool := decide (c = 95 ∨ c = 45)
/-- May byte c stand at place j of a code. -/
def signN (j c : Nat) : Bool := digN c || letN c || (decide (0 < j) && dashN c)
/-- Do the first k bytes of a text suit a code. -/
def codeTo (s : ByteArray) : Nat → Bool
  | 0 => true
  | k + 1 => codeTo s k && signN k (s.data.toList.getD k 0).toNat
/-- Is a text a code. -/
def codeB (s : ByteArray) : Bool := decide (1 ≤ s.size ∧ s.size ≤ 16) && codeTo s s.size
theorem codeTo_false {s : ByteArray} {k : Nat} (h : signN k (s.data.toList.getD k 0).toNat = false) : ∀ n, k < n → codeTo s n = false
  | 0, hk => by omega
  | n + 1, hk => by
    unfold codeTo
    by_cases e : k = n
    · subst e; rw [h, Bool.and_false]
    · rw [codeTo_false h n (by omega), Bool.false_and]
theorem codeB_no {s : ByteArray} (h : ¬ (1 ≤ s.size ∧ s.size ≤ 16)) : codeB s = false := by
  unfold codeB; rw [decide_eq_false h, Bool.false_and]
theorem codeB_yes {s : ByteArray} (h : 1 ≤ s.size ∧ s.size ≤ 16) : codeB s = codeTo s s.size := by
  unfold codeB; rw [decide_eq_true h, Bool.true_and]
theorem byte_at (s : ByteArray) (k : Nat) (h : k < s.size) : s.data.toList.getD k 0 = s[k] := by
  rw [List.getD_eq_getElem?_getD, List.getElem?_eq_getElem (by rw [Array.length_toList]; exact h)]; rfl
theorem codeB_bad {s : ByteArray} {k : Nat} (h : k < s.size) (hb : signN k s[k].toNat = false) : codeB s = false := by
  unfold codeB
  rw [codeTo_false (k := k) (by rw [byte_at s k h]; exact hb) s.size h, Bool.and_false]
theorem codeTo_next {s : ByteArray} {k : Nat} (h : k < s.size) (h1 : codeTo s k = true) (hb : signN k s[k].toNat = true) : codeTo s (k + 1) = true := by
  unfold codeTo; rw [h1, byte_at s k h, hb]; rfl

-- <dig>
set_option maxHeartbeats 400000 in
theorem cdigit_walk (c : Nat) (w : World) : Calls Tryz.prog 105 #[.int .u8 c] w fun e w' => e = .returned (.bool (digN c)) ∧ w = w' := by
  by_cases h : 48 ≤ c ∧ c ≤ 57
  · rw [show digN c = true from decide_eq_true h]
    obtain ⟨h1, h2⟩ := h
    go_enter Tryz.func105, Tryz.ntmps105
    go_wp2
    all_goals
      go_ret
      exact ⟨ret_bool (by simp; try omega), rfl⟩
  · rw [show digN c = false from decide_eq_false h]
    go_enter Tryz.func105, Tryz.ntmps105
    go_wp2
    all_goals
      go_ret
      exact ⟨ret_bool (by simp; try omega), rfl⟩
-- </dig>
set_option maxHeartbeats 400000 in
theorem r3digit_walk (c : Nat) (w : World) : Calls Tryz.prog 47 #[.int .u8 c] w fun e w' => e = .returned (.bool (digN c)) ∧ w = w' := by
  by_cases h : 48 ≤ c ∧ c ≤ 57
  · rw [show digN c = true from decide_eq_true h]
    obtain ⟨h1, h2⟩ := h
    go_enter Tryz.func47, Tryz.ntmps47
    go_wp2
    all_goals
      go_ret
      exact ⟨ret_bool (by simp; try omega), rfl⟩
  · rw [show digN c = false from decide_eq_false h]
    go_enter Tryz.func47, Tryz.ntmps47
    go_wp2
    all_goals
      go_ret
      exact ⟨ret_bool (by simp; try omega), rfl⟩

-- <let>
set_option maxHeartbeats 400000 in
theorem cletter_walk (c : Nat) (w : World) : Calls Tryz.prog 114 #[.int .u8 c] w fun e w' => e = .returned (.bool (letN c)) ∧ w = w' := by
  by_cases h : (65 ≤ c ∧ c ≤ 90) ∨ (97 ≤ c ∧ c ≤ 122)
  · rw [show letN c = true from decide_eq_true h]
    go_enter Tryz.func114, Tryz.ntmps114
    go_wp2
    all_goals
      go_ret
      exact ⟨ret_bool (by simp; try omega), rfl⟩
  · rw [show letN c = false from decide_eq_false h]
    go_enter Tryz.func114, Tryz.ntmps114
    go_wp2
    all_goals
      go_ret
      exact ⟨ret_bool (by simp; try omega), rfl⟩
-- </let>
set_option maxHeartbeats 400000 in
theorem r3letter_walk (c : Nat) (w : World) : Calls Tryz.prog 79 #[.int .u8 c] w fun e w' => e = .returned (.bool (letN c)) ∧ w = w' := by
  by_cases h : (65 ≤ c ∧ c ≤ 90) ∨ (97 ≤ c ∧ c ≤ 122)
  · rw [show letN c = true from decide_eq_true h]
    go_enter Tryz.func79, Tryz.ntmps79
    go_wp2
    all_goals
      go_ret
      exact ⟨ret_bool (by simp; try omega), rfl⟩
  · rw [show letN c = false from decide_eq_false h]
    go_enter Tryz.func79, Tryz.ntmps79
    go_wp2
    all_goals
      go_ret
      exact ⟨ret_bool (by simp; try omega), rfl⟩

theorem digN_at {c : Nat} {b : Bool} (h : digN c = b) (w : World) : Calls Tryz.prog 105 #[.int .u8 c] w fun e w' => e = .returned (.bool b) ∧ w = w' := by
  have := cdigit_walk c w; rw [h] at this; exact this
theorem letN_at {c : Nat} {b : Bool} (h : letN c = b) (w : World) : Calls Tryz.prog 114 #[.int .u8 c] w fun e w' => e = .returned (.bool b) ∧ w = w' := by
  have := cletter_walk c w; rw [h] at this; exact this
theorem r3digN_at {c : Nat} {b : Bool} (h : digN c = b) (w : World) : Calls Tryz.prog 47 #[.int .u8 c] w fun e w' => e = .returned (.bool b) ∧ w = w' := by
  have := r3digit_walk c w; rw [h] at this; exact this
theorem r3letN_at {c : Nat} {b : Bool} (h : letN c = b) (w : World) : Calls Tryz.prog 79 #[.int .u8 c] w fun e w' => e = .returned (.bool b) ∧ w = w' := by
  have := r3letter_walk c w; rw [h] at this; exact this

theorem sign_eq {j c : Nat} {D L q1 q2 : Bool} (hD : digN c = D) (hL : letN c = L) (h1 : ((c : Int) == 95) = q1) (h2 : ((c : Int) == 45) = q2) : signN j c = (D || L || (decide (0 < j) && (q1 || q2))) := by
  have e : dashN c = (q1 || q2) := by
    rw [← h1, ← h2, Bool.eq_iff_iff]; simp [dashN]; omega
  unfold signN
  rw [hD, hL, e]
set_option maxHeartbeats 4000000 in
theorem cvalid_walk (s : ByteArray) (w : World) : Calls Tryz.prog 84 #[.string s] w fun e w' => e = .returned (.bool (codeB s)) ∧ w = w' := by
  by_cases hl : 1 ≤ s.size ∧ s.size ≤ 16
  · obtain ⟨l1, l2⟩ := hl
    have HC := hide (codeB_yes ⟨l1, l2⟩)
    go_enter Tryz.func84, Tryz.ntmps84
    go_wp2
    all_goals try (exfalso; omega)
    go_loop [15] (fun i => ∃ k : Nat, k ≤ s.size ∧ i = .int .i64 k ∧ Hid (codeTo s k = true)) (fun i => s.size - (intOf i).toNat)
    case atStart => exact ⟨0, Nat.zero_le _, rfl, rfl⟩
    case round =>
      obtain ⟨k, hk, rfl, hc⟩ := hrel
      by_cases hlt : k < s.size
      · have nxt := fun h => hide (codeTo_next hlt hc.out h)
        have bad := fun h => hide (codeB_bad hlt h)
        obtain ⟨c, hcc⟩ : ∃ c, s[k].toNat = c := ⟨_, rfl⟩
        rw [hcc] at nxt bad
        clear HC
        obtain ⟨D, hD⟩ : ∃ D, digN c = D := ⟨_, rfl⟩
        obtain ⟨L, hL⟩ : ∃ L, letN c = L := ⟨_, rfl⟩
        obtain ⟨q1, hq1⟩ : ∃ q1, ((c : Int) == 95) = q1 := ⟨_, rfl⟩
        obtain ⟨q2, hq2⟩ : ∃ q2, ((c : Int) == 45) = q2 := ⟨_, rfl⟩
        have hs : Hid (signN k c = (D || L || (decide (0 < k) && (q1 || q2)))) := hide (sign_eq hD hL hq1 hq2)
        replace hD := hide hD
        replace hL := hide hL
        by_cases h0 : 0 < k
        all_goals
          first | rw [decide_eq_true h0] at hs | rw [decide_eq_false h0] at hs
          go_wp2_with (first | (go_at_call 105; refine (digN_at hD.out _).mono ?_; rintro e w' ⟨rfl, rfl⟩) | (go_at_call 114; refine (letN_at hL.out _).mono ?_; rintro e w' ⟨rfl, rfl⟩))
          all_goals first
            | (go_ret
               refine ⟨ret_bool (bad ?_).out.symm, rfl⟩
               rw [hs.out]
               first
                 | (simp [*]; done)
                 | (have h' : (!q2) = true := by assumption
                    cases q2 <;> simp_all))
            | (go_round
               case rel => exact ⟨k + 1, by omega, by go_num, nxt (by rw [hs.out]; first | (simp [*]; done) | (rw [show q2 = true from by cases q2 with | false => exact absurd (show (!false) = false from by assumption) (by decide) | true => rfl]; simp))⟩
               case measure => simp [intOf]; omega)
      · obtain rfl : k = s.size := by omega
        go_wp2
        go_ret
        exact ⟨ret_bool (by rw [HC.out, hc.out]), rfl⟩
  · rw [codeB_no hl]
    go_enter Tryz.func84, Tryz.ntmps84
    go_wp2
    all_goals try (exfalso; omega)
    all_goals
      go_ret
      exact ⟨rfl, rfl⟩
theorem head_dash {s : ByteArray} (h : 0 < s.size) (hb : s[0].toNat = 95 ∨ s[0].toNat = 45) : codeB s = false := by
  refine codeB_bad h ?_
  unfold signN digN letN
  have h1 : ¬ (48 ≤ s[0].toNat ∧ s[0].toNat ≤ 57) := by omega
  have h2 : ¬ ((65 ≤ s[0].toNat ∧ s[0].toNat ≤ 90) ∨ (97 ≤ s[0].toNat ∧ s[0].toNat ≤ 122)) := by omega
  rw [decide_eq_false h1, decide_eq_false h2]
  simp
set_option maxHeartbeats 4000000 in
theorem r3valid_walk (s : ByteArray) (w : World) : Calls Tryz.prog 52 #[.string s] w fun e w' => e = .returned (.bool (codeB s)) ∧ w = w' := by
  by_cases hl : 1 ≤ s.size ∧ s.size ≤ 16
  · obtain ⟨l1, l2⟩ := hl
    have HC := hide (codeB_yes ⟨l1, l2⟩)
    have l3 : 1 ≤ (s.size : Int) := by omega
    have l4 : (s.size : Int) ≤ 16 := by omega
    have l0 : 0 < s.size := by omega
    by_cases hd : s[0].toNat = 95 ∨ s[0].toNat = 45
    · rw [head_dash l0 hd]
      clear HC
      go_enter Tryz.func52, Tryz.ntmps52
      go_wp2
      all_goals try (exfalso; omega)
      all_goals
        go_ret
        exact ⟨rfl, rfl⟩
    · obtain ⟨c0, hc0⟩ : ∃ c0, s[0].toNat = c0 := ⟨_, rfl⟩
      rw [hc0] at hd
      have n1 : ((c0 : Int) == 95) = false := by simp; omega
      have n2 : ((c0 : Int) == 45) = false := by simp; omega
      go_enter Tryz.func52, Tryz.ntmps52
      go_wp2
      all_goals try (exfalso; omega)
      clear hd
      replace n1 := hide n1
      replace n2 := hide n2
      replace hc0 := hide hc0
      go_loop [3] (fun i => ∃ k : Nat, k ≤ s.size ∧ i = .int .i64 k ∧ Hid (codeTo s k = true)) (fun i => s.size - (intOf i).toNat)
      case atStart => exact ⟨0, Nat.zero_le _, rfl, rfl⟩
      case round =>
        obtain ⟨k, hk, rfl, hc⟩ := hrel
        by_cases hlt : k < s.size
        · have nxt := fun h => hide (codeTo_next hlt hc.out h)
          have bad := fun h => hide (codeB_bad hlt h)
          obtain ⟨c, hcc⟩ : ∃ c, s[k].toNat = c := ⟨_, rfl⟩
          rw [hcc] at nxt bad
          clear HC
          obtain ⟨D, hD⟩ : ∃ D, digN c = D := ⟨_, rfl⟩
          obtain ⟨L, hL⟩ : ∃ L, letN c = L := ⟨_, rfl⟩
          obtain ⟨q1, hq1⟩ : ∃ q1, ((c : Int) != 95) = q1 := ⟨_, rfl⟩
          obtain ⟨q2, hq2⟩ : ∃ q2, ((c : Int) != 45) = q2 := ⟨_, rfl⟩
          have hs : Hid (signN k c = (D || L || !(q1 && q2))) := by
            have e1 : ((c : Int) == 95) = !q1 := by rw [← hq1, bne, Bool.not_not]
            have e2 : ((c : Int) == 45) = !q2 := by rw [← hq2, bne, Bool.not_not]
            refine hide ((sign_eq hD hL e1 e2).trans ?_)
            by_cases h0 : 0 < k
            · rw [decide_eq_true h0, Bool.true_and, Bool.not_and]
            · obtain rfl : k = 0 := by omega
              obtain rfl : c = c0 := hcc.symm.trans hc0.out
              rw [n1.out] at e1
              rw [n2.out] at e2
              rw [← e1, ← e2, Bool.not_and, ← e1, ← e2]; simp
          replace hD := hide hD
          replace hL := hide hL
          clear n1 n2 hc0
          go_wp2_with (first | (go_at_call 47; refine (r3digN_at hD.out _).mono ?_; rintro e w' ⟨rfl, rfl⟩) | (go_at_call 79; refine (r3letN_at hL.out _).mono ?_; rintro e w' ⟨rfl, rfl⟩))
          all_goals first
            | (go_ret
               refine ⟨ret_bool (bad ?_).out.symm, rfl⟩
               rw [hs.out]
               simp [*])
            | (go_round
               case rel => exact ⟨k + 1, by omega, by go_num, nxt (by rw [hs.out]; simp [*])⟩
               case measure => simp [intOf]; omega)
        · obtain rfl : k = s.size := by omega
          go_wp2
          go_ret
          exact ⟨ret_bool (by rw [HC.out, hc.out]), rfl⟩
  · rw [codeB_no hl]
    go_enter Tryz.func52, Tryz.ntmps52
    go_wp2
    all_goals try (exfalso; omega)
    all_goals
      go_ret
      exact ⟨rfl, rfl⟩
end Go.Proofs.YthejgholpkeldaaGreatDoor

namespace Go.Proofs.YthejgholpkeldaaGreatDoor
open Go.RowKit
set_option maxRecDepth 100000

/-- A field of a record: its text, its column, whether it was quoted. -/
abbrev Fld := ByteArray × Int × Bool
/-- A problem: line, column, code. -/
abbrev Prob := Int × Int × Int
/-- Block h holds a problem. -/
def ProbAt (w : World) (h : Nat) (p : Prob) : Prop := w.heap[h]? = some (.cells #[.int .i64 0, .int .i64 p.1, .int .i64 p.2.1, .int .i64 p.2.2] 102 (0, 0))
/-- What the pointer to the problem says. -/
def ProbIs (w : World) (v : Value) : Option Prob → Prop
  | none => v = .pointer none
  | some p => ∃ h, v = .pointer (some ⟨h, 0, none⟩) ∧ ProbAt w h p
/-- Block g is a scanner of a record, at field k, with a problem or none. -/
def Scan (w : World) (g : Nat) (line : Int) (F : Option Addr) (m c k : Nat) (pr : Option Prob) : Prop :=
  ∃ v, w.heap[g]? = some (.cells #[.int .i64 line, .slice F m c, .int .i64 k, v] 129 (0, 0)) ∧ ProbIs w v pr
/-- The fields of a record, in blocks below B. -/
def FieldsAt (B : Nat) (w : World) (F : Option Addr) (fs : List Fld) : Prop :=
  0 < fs.length → ∃ b off, F = some ⟨b, off, none⟩ ∧ b < B ∧ ∀ j (hj : j < fs.length), w.cell? ⟨b, off + j * 3, none⟩ = some (.string fs[j].1) ∧ w.cell? ⟨b, off + j * 3 + 1, none⟩ = some (.int .i64 fs[j].2.1) ∧ w.cell? ⟨b, off + j * 3 + 2, none⟩ = some (.bool fs[j].2.2)
theorem FieldsAt.kept {B : Nat} {w w' : World} {F : Option Addr} {fs : List Fld} (h : FieldsAt B w F fs) (hk : ∀ b o, b < B → w'.cell? ⟨b, o, none⟩ = w.cell? ⟨b, o, none⟩) : FieldsAt B w' F fs := by
  intro hn
  obtain ⟨b, off, e, hb, hc⟩ := h hn
  exact ⟨b, off, e, hb, fun j hj => by obtain ⟨c0, c1, c2⟩ := hc j hj; exact ⟨(hk _ _ hb).trans c0, (hk _ _ hb).trans c1, (hk _ _ hb).trans c2⟩⟩
theorem FieldsAt.below {B : Nat} {w w' : World} {F : Option Addr} {fs : List Fld} (h : FieldsAt B w F fs) (hb : Below B w w') : FieldsAt B w' F fs := h.kept fun b o hlt => hb.cell (p := ⟨b, o, none⟩) hlt
theorem FieldsAt.more {B C : Nat} {w : World} {F : Option Addr} {fs : List Fld} (h : FieldsAt B w F fs) (hB : B ≤ C) : FieldsAt C w F fs := by
  intro hn
  obtain ⟨b, off, e, hb, hc⟩ := h hn
  exact ⟨b, off, e, by omega, hc⟩
/-- Of what was there, block g alone may have turned. -/
abbrev Only (g : Nat) (w w' : World) : Prop := w.grownBy w' (some g)
theorem Only.refl (g : Nat) (w : World) : Only g w w := World.grownBy.refl _ _
theorem Only.below {B g : Nat} {w w' : World} (h : Only g w w') (hB : B ≤ g) (hw : B ≤ w.heap.size) : Below B w w' :=
  Below.grown (Below.refl _ _) h hw (fun k hk => by injection hk with hk; omega)
theorem Only.later {g : Nat} {a b c : World} (h : Only g a b) (k : Below b.heap.size b c) : Only g a c := h.trans (only_of_below k _)
theorem ProbAt.of_block {w w' : World} {h : Nat} {p : Prob} (hp : ProbAt w h p) (hb : w'.heap[h]? = w.heap[h]?) : ProbAt w' h p := hb.trans hp
theorem blk_lt {w : World} {h : Nat} {o : Obj} (e : w.heap[h]? = some o) : h < w.heap.size := (Array.getElem?_eq_some_iff.1 e).1
theorem ProbIs.later {w w' : World} {v : Value} {pr : Option Prob} (h : ProbIs w v pr) (hb : Below w.heap.size w w') : ProbIs w' v pr := by
  cases pr with
  | none => exact h
  | some p => obtain ⟨x, e, hp⟩ := h; exact ⟨x, e, hp.of_block (hb.block x (blk_lt hp))⟩
theorem Scan.later {w w' : World} {g : Nat} {line : Int} {F : Option Addr} {m c k : Nat} {pr : Option Prob} (h : Scan w g line F m c k pr) (hb : Below w.heap.size w w') : Scan w' g line F m c k pr := by
  obtain ⟨v, hg, hp⟩ := h
  exact ⟨v, (hb.block g (blk_lt hg)).trans hg, hp.later hb⟩
theorem Scan.lt {w : World} {g : Nat} {line : Int} {F : Option Addr} {m c k : Nat} {pr : Option Prob} (h : Scan w g line F m c k pr) : g < w.heap.size := by
  obtain ⟨v, hg, _⟩ := h; exact blk_lt hg
/-- A problem is noted, if there was none. -/
def noted (pr : Option Prob) (wrong : Bool) (p : Prob) : Option Prob := match pr with
  | some q => some q
  | none => if wrong then some p else none
def colAt (fs : List Fld) (k : Nat) : Int := (fs.getD (k - 1) (⟨#[]⟩, 0, false)).2.1
def textAt (fs : List Fld) (k : Nat) : ByteArray := (fs.getD k (⟨#[]⟩, 0, false)).1
theorem scan_cells {w : World} {g : Nat} {x0 x1 x2 x3 : Value} {t : TypeId} (h : w.heap[g]? = some (.cells #[x0, x1, x2, x3] t (0, 0))) :
    w.cell? ⟨g, 0, none⟩ = some x0 ∧ w.cell? ⟨g, 1, none⟩ = some x1 ∧ w.cell? ⟨g, 2, none⟩ = some x2 ∧ w.cell? ⟨g, 3, none⟩ = some x3 ∧ ∀ j, w.frozen? ⟨g, j, none⟩ = false := by
  refine ⟨?_, ?_, ?_, ?_, fun j => by simp [World.frozen?, h]⟩ <;> rw [cell_of_row w g _ _ _ _ h] <;> rfl

theorem scan_new {w : World} {g x : Nat} {line : Int} {F : Option Addr} {m c k : Nat} {p : Prob} {v : Value}
    (hg : w.heap[g]? = some (.cells #[.int .i64 line, .slice F m c, .int .i64 k, v] 129 (0, 0))) (hx : x = w.heap.size) :
    Scan ((w.setCell ⟨g, 3, none⟩ (.pointer (some ⟨x, 0, none⟩))).alloc (.cells #[.int .i64 0, .int .i64 p.1, .int .i64 p.2.1, .int .i64 p.2.2] 102)) g line F m c k (some p) ∧
      Only g w ((w.setCell ⟨g, 3, none⟩ (.pointer (some ⟨x, 0, none⟩))).alloc (.cells #[.int .i64 0, .int .i64 p.1, .int .i64 p.2.1, .int .i64 p.2.2] 102)) := by
  subst hx
  have hlt := blk_lt hg
  have hz : (w.setCell ⟨g, 3, none⟩ (.pointer (some ⟨w.heap.size, 0, none⟩))).heap.size = w.heap.size := by simp [World.setCell]
  refine ⟨⟨.pointer (some ⟨w.heap.size, 0, none⟩), ?_, w.heap.size, rfl, ?_⟩, only_alloc (only_setCell (World.grownBy.refl _ _) (Or.inl rfl) _) _⟩
  · rw [Below.heap_alloc _ _ g (by rw [hz]; exact hlt)]
    simp only [World.setCell, Array.getElem?_modify, hg]
    rfl
  · have := heap_alloc_new (w.setCell ⟨g, 3, none⟩ (.pointer (some ⟨w.heap.size, 0, none⟩))) (.cells #[.int .i64 0, .int .i64 p.1, .int .i64 p.2.1, .int .i64 p.2.2] 102)
    rw [hz] at this
    exact this
set_option maxHeartbeats 800000 in
theorem whole_walk (g : Nat) (line : Int) (F : Option Addr) (m c k : Nat) (pr : Option Prob) (wrong : Bool) (e : Int) (w : World) (h : Scan w g line F m c k pr) :
    Calls Tryz.prog 69 #[.pointer (some ⟨g, 0, none⟩), .bool wrong, .int .i64 e] w fun end' w' => end' = .returned (.tuple #[]) ∧ Scan w' g line F m c k (noted pr wrong (line, 0, e)) ∧ Only g w w' := by
  have hS := h
  obtain ⟨v, hg, hp⟩ := h
  have hlt := blk_lt hg
  obtain ⟨c0, c1, c2, c3, hf⟩ := scan_cells hg
  have f3 := hf 3
  clear hf
  cases pr with
  | some p =>
    obtain ⟨x, rfl, hx⟩ := hp
    go_enter Tryz.func69, Tryz.ntmps69
    go_wp2
    go_end0
    exact ⟨rfl, hS, Only.refl _ _⟩
  | none =>
    obtain rfl := hp
    cases wrong with
    | false =>
      go_enter Tryz.func69, Tryz.ntmps69
      go_wp2
      go_end0
      exact ⟨rfl, hS, Only.refl _ _⟩
    | true =>
      have hN := scan_new (p := (line, 0, e)) hg rfl
      clear hS
      replace hg := hide hg
      replace hN := hide hN
      go_enter Tryz.func69, Tryz.ntmps69
      go_wp2
      go_end0
      exact ⟨rfl, hN.out⟩
set_option maxHeartbeats 800000 in
theorem fail_walk (B g : Nat) (line : Int) (F : Option Addr) (fs : List Fld) (c k : Nat) (pr : Option Prob) (e : Int) (w : World) (h : Scan w g line F fs.length c k pr) (hF : FieldsAt B w F fs) (h1 : 1 ≤ k) (h2 : k ≤ fs.length) (hm : fs.length ≤ 1000) :
    Calls Tryz.prog 68 #[.pointer (some ⟨g, 0, none⟩), .int .i64 e] w fun end' w' => end' = .returned (.tuple #[]) ∧ Scan w' g line F fs.length c k (noted pr (decide (e ≠ 0)) (line, colAt fs k, e)) ∧ Only g w w' := by
  have hS := h
  obtain ⟨v, hg, hp⟩ := h
  have hlt := blk_lt hg
  obtain ⟨c0, c1, c2, c3, hf⟩ := scan_cells hg
  have f3 := hf 3
  clear hf
  cases pr with
  | some p =>
    obtain ⟨x, rfl, hx⟩ := hp
    clear hF
    go_enter Tryz.func68, Tryz.ntmps68
    go_wp2
    go_end0
    exact ⟨rfl, hS, Only.refl _ _⟩
  | none =>
    obtain rfl := hp
    by_cases he : e = 0
    · subst he
      clear hF
      go_enter Tryz.func68, Tryz.ntmps68
      go_wp2
      go_end0
      exact ⟨rfl, hS, Only.refl _ _⟩
    · obtain ⟨b, off, rfl, hb, hcell⟩ := hF (by omega)
      obtain ⟨-, d1, -⟩ := hcell (k - 1) (by omega)
      have hcol : (fs[k - 1]'(by omega)).2.1 = colAt fs k := by
        unfold colAt; rw [List.getD_eq_getElem?_getD, List.getElem?_eq_getElem (by omega)]; rfl
      rw [hcol] at d1
      have hN := scan_new (p := (line, colAt fs k, e)) hg rfl
      rw [show noted none (decide (e ≠ 0)) (line, colAt fs k, e) = some (line, colAt fs k, e) from by simp [noted, he]]
      have he' : (e != 0) = true := by simpa using he
      clear hS hcell hcol hF
      obtain ⟨col, hcol⟩ : ∃ col, colAt fs k = col := ⟨_, rfl⟩
      rw [hcol] at d1 hN ⊢
      clear hcol
      obtain ⟨j, rfl⟩ : ∃ j, k = j + 1 := ⟨k - 1, by omega⟩
      rw [show j + 1 - 1 = j from rfl] at d1
      obtain ⟨m, hm'⟩ : ∃ m, fs.length = m := ⟨_, rfl⟩
      rw [hm'] at h2 hm c1 hg ⊢
      rw [hm'] at hN
      clear hm' he
      replace hg := hide hg
      replace hN := hide hN
      have e1 : IntKind.i64.wrap (((j + 1 : Nat) : Int) - 1) = (j : Int) := by rw [IntWalk.i64_in _ (by omega)]; omega
      go_enter Tryz.func68, Tryz.ntmps68
      go_wp2
      go_region
      all_goals
        go_wp2
        go_end0
        exact ⟨rfl, hN.out.1.later (ext_drew (Below.refl _ _)), hN.out.2.later (ext_drew (Below.refl _ _))⟩
set_option maxHeartbeats 800000 in
theorem fnext_stop (g : Nat) (line : Int) (F : Option Addr) (m c k : Nat) (p : Prob) (w : World) (h : Scan w g line F m c k (some p)) :
    Calls Tryz.prog 90 #[.pointer (some ⟨g, 0, none⟩)] w fun end' w' => end' = .returned (.string ⟨#[]⟩) ∧ w = w' := by
  obtain ⟨v, hg, x, rfl, hx⟩ := h
  obtain ⟨c0, c1, c2, c3, hf⟩ := scan_cells hg
  clear hf
  go_enter Tryz.func90, Tryz.ntmps90
  go_wp2
  go_ret
  exact ⟨rfl, rfl⟩
set_option maxHeartbeats 800000 in
theorem fnext_go (B g : Nat) (line : Int) (F : Option Addr) (fs : List Fld) (c k : Nat) (w : World) (h : Scan w g line F fs.length c k none) (hF : FieldsAt B w F fs) (h2 : k < fs.length) (hm : fs.length ≤ 1000) (hB : B ≤ g) :
    Calls Tryz.prog 90 #[.pointer (some ⟨g, 0, none⟩)] w fun end' w' => end' = .returned (.string (textAt fs k)) ∧ Scan w' g line F fs.length c (k + 1) none ∧ Only g w w' := by
  obtain ⟨v, hg, rfl⟩ := h
  have hlt := blk_lt hg
  obtain ⟨c0, c1, c2, c3, hf⟩ := scan_cells hg
  have f2 := hf 2
  clear hf
  obtain ⟨b, off, rfl, hb, hcell⟩ := hF (by omega)
  obtain ⟨d0, -, -⟩ := hcell k (by omega)
  have htx : (fs[k]'(by omega)).1 = textAt fs k := by
    unfold textAt; rw [List.getD_eq_getElem?_getD, List.getElem?_eq_getElem (by omega)]; rfl
  rw [htx] at d0
  clear htx hcell hF
  have hne : b ≠ g := by omega
  obtain ⟨text, htx⟩ : ∃ text, textAt fs k = text := ⟨_, rfl⟩
  rw [htx] at d0 ⊢
  obtain ⟨m, hm'⟩ : ∃ m, fs.length = m := ⟨_, rfl⟩
  rw [hm'] at h2 hm c1 hg ⊢
  clear hm' htx
  have hN : Scan (w.setCell ⟨g, 2, none⟩ (.int .i64 ((k : Int) + 1))) g line (some ⟨b, off, none⟩) m c (k + 1) none ∧ Only g w (w.setCell ⟨g, 2, none⟩ (.int .i64 ((k : Int) + 1))) := by
    refine ⟨⟨.pointer none, ?_, rfl⟩, only_setCell (World.grownBy.refl _ _) (Or.inl rfl) _⟩
    simp only [World.setCell, Array.getElem?_modify, hg]
    rfl
  replace hg := hide hg
  replace hN := hide hN
  have e1 : IntKind.i64.wrap ((k : Int) + 1 - 1) = (k : Int) := by rw [IntWalk.i64_in _ (by omega)]; omega
  go_enter Tryz.func90, Tryz.ntmps90
  go_wp2
  go_region
  all_goals
    go_wp2
    go_ret
    exact ⟨rfl, hN.out.1.later (ext_drew (Below.refl _ _)), hN.out.2.later (ext_drew (Below.refl _ _))⟩
end Go.Proofs.YthejgholpkeldaaGreatDoor

namespace Go.Proofs.YthejgholpkeldaaGreatDoor
open Go.RowKit
set_option maxRecDepth 100000

theorem Only.std {g : Nat} {w w' : World} (h : Only g w w') (hS : Std w) (hg : 9 ≤ g) : Std w' := hS.below (h.below (B := 9) hg hS.big) (Nat.le_refl _)
theorem Only.cell {g b o : Nat} {w w' : World} (h : Only g w w') (hb : b < w.heap.size) (hne : b ≠ g) : w'.cell? ⟨b, o, none⟩ = w.cell? ⟨b, o, none⟩ :=
  World.cell?_of_block (w := w) (h.block b hb (fun e => hne (by injection e)))
theorem Only.frozen {g b o : Nat} {w w' : World} (h : Only g w w') (hb : b < w.heap.size) (hne : b ≠ g) : w'.frozen? ⟨b, o, none⟩ = w.frozen? ⟨b, o, none⟩ :=
  World.frozen?_of_block (w := w) (h.block b hb (fun e => hne (by injection e)))
theorem FieldsAt.only {B g : Nat} {w w' : World} {F : Option Addr} {fs : List Fld} (h : FieldsAt B w F fs) (ho : Only g w w') (hB : B ≤ g) (hw : B ≤ w.heap.size) : FieldsAt B w' F fs :=
  h.below (ho.below hB hw)

set_option maxHeartbeats 800000 in
theorem fcode_walk (B g : Nat) (line : Int) (F : Option Addr) (fs : List Fld) (c k : Nat) (w : World) (h : Scan w g line F fs.length c k none) (hF : FieldsAt B w F fs) (h2 : k < fs.length) (hm : fs.length ≤ 1000) (hB : B ≤ g) :
    Calls Tryz.prog 64 #[.pointer (some ⟨g, 0, none⟩)] w fun end' w' => end' = .returned (.string (textAt fs k)) ∧ Scan w' g line F fs.length c (k + 1) (if codeB (textAt fs k) then none else some (line, colAt fs (k + 1), 10)) ∧ Only g w w' := by
  have hlt := h.lt
  cases hc : codeB (textAt fs k)
  all_goals
    replace hc := hide hc
    go_enter Tryz.func64, Tryz.ntmps64
    go_wp2_with fail
    refine (fnext_go B g line F fs c k w h hF h2 hm hB).mono ?_
    rintro e w1 ⟨rfl, hs1, ho1⟩
    go_wp2_with fail
    refine (cvalid_walk _ _).mono ?_
    rintro e w2 ⟨rfl, rfl⟩
    rw [hc.out]
    go_wp2_with fail
  · refine (fail_walk B g line F fs c (k + 1) none 10 w1 hs1 (hF.only ho1 hB (by omega)) (by omega) (by omega) hm).mono ?_
    rintro e w3 ⟨rfl, hs3, ho3⟩
    go_wp2
    go_ret
    exact ⟨rfl, hs3, ho1.trans ho3⟩
  · go_ret
    exact ⟨rfl, hs1, ho1⟩

/-- The parts of a text between semicolons; an empty one has none. -/
def partsOf (s : ByteArray) : List ByteArray := if s.size = 0 then [] else Lib.splitB ⟨#[59]⟩ 0 (Lib.countB s ⟨#[59]⟩) s
end Go.Proofs.YthejgholpkeldaaGreatDoor

namespace Go.Proofs.YthejgholpkeldaaGreatDoor
open Go.RowKit
set_option maxRecDepth 100000

abbrev T4 := Int × Int × Int × Int
def encT (t : T4) : List Value := [.int .i64 t.1, .int .i64 t.2.1, .int .i64 t.2.2.1, .int .i64 t.2.2.2]
theorem owns_lower {w : World} {B C : Nat} {e : TypeId} {k n : Nat} {v : Value} {xs : List Value} (h : w.ownsRow B e k v n xs) (hc : C ≤ B) : w.ownsRow C e k v n xs := by
  refine ⟨h.1, ?_⟩
  rcases h.2 with h0 | ⟨g, cap, cur, e1, hb, r⟩
  · exact .inl h0
  · exact .inr ⟨g, cap, cur, e1, by omega, r⟩
theorem owns_later {w w' : World} {B : Nat} {e : TypeId} {k n : Nat} {v : Value} {xs : List Value} (h : w.ownsRow B e k v n xs) (hb : Below w.heap.size w w') : w'.ownsRow B e k v n xs :=
  h.kept (row := none) ⟨hb.os, hb.tape, hb.output, hb.size, fun k hk _ => hb.block k hk⟩ (by cases v.ownBlock <;> simp)
theorem partsOf_len (s : ByteArray) : (partsOf s).length ≤ s.size + 1 := by
  unfold partsOf
  split
  · simp
  · rw [splitB_len]
    have := Lib.countB_le ⟨#[59]⟩ (Nat.le_refl 1) _ s (Nat.le_refl _)
    omega
theorem partsOf_mem (s : ByteArray) : ∀ z ∈ partsOf s, z.size ≤ s.size := by
  unfold partsOf
  split
  · intro z hz; cases hz
  · intro z hz; exact splitB_mem rfl hz
theorem new_four (w : World) (a b c d : Int) (t : TypeId) : ∀ (j : Nat) (u : Value), (encT (a, b, c, d))[j]? = some u → (w.alloc (.cells #[.int .i64 a, .int .i64 b, .int .i64 c, .int .i64 d] t)).cell? ((⟨w.heap.size, 0, none⟩ : Addr).add j) = some u := by
  intro j u hu
  match j, hu with
  | 0, hu => simp [encT] at hu; subst hu; simp [Addr.add]
  | 1, hu => simp [encT] at hu; subst hu; simp [Addr.add]
  | 2, hu => simp [encT] at hu; subst hu; simp [Addr.add]
  | 3, hu => simp [encT] at hu; subst hu; simp [Addr.add]
  | j + 4, hu => simp [encT] at hu
theorem owns_form {w : World} {B : Nat} {e : TypeId} {k n : Nat} {v : Value} {xs : List Value} (h : w.ownsRow B e k v n xs) : ∃ A c, v = .slice A n c := by
  rcases h.2 with ⟨h1, h2⟩ | ⟨g, cap, cur, h1, _⟩
  · subst h2; exact ⟨none, 0, h1⟩
  · exact ⟨_, _, h1⟩
theorem own_far {w : World} {B g : Nat} {e : TypeId} {k n : Nat} {v : Value} {xs : List Value} (h : w.ownsRow B e k v n xs) (hg : g < B) : some g ≠ v.ownBlock := by
  intro e
  have := (h.lt g e.symm).1
  omega
end Go.Proofs.YthejgholpkeldaaGreatDoor
