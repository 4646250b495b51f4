/- Walks of codes.Valid and timetableref03.Valid. No condition but the string's size. Walks of fields.Scanner: Fail, Whole, Next, Code. Conditions: the scanner's cells are as Scan says. Walks of fields.Scanner: Code, Parts. Conditions: the scanner's cells are as Scan says; texts shorter than 2^30 bytes. Walk of fields.Scanner.Times. Conditions: the scanner's cells are as Scan says; texts shorter than 2^30 bytes. -/
import Derived.Test.YtdnnahdafhddlaaGreatDoorYTgF
namespace Go.Proofs.YtdnnahdafhddlaaGreatDoor
open Go.RowKit

def digN (c : Nat) : Bool := decide (48 ≤ c ∧ c ≤ 57)
def letN (c : Nat) : Bool := decide ((65 ≤ c ∧ c ≤ 90) ∨ (97 ≤ c ∧ c ≤ 122))
def dashN (c : Nat) : Bool := decide (c = 95 ∨ c = 45)
/-- May byte c stand at place j of a code. -/
def signN (j c : Nat) : Bool := digN c || letN c || (decide (0 < j) && dashN c)
/-- Do the first k bytes of a text suit a code. -/
def codeTo (s : ByteArray) : Nat → Bool
  | 0 => true
  | k + 1 => codeTo s k && signN k (s.data.toList.getD k 0).toNat
/-- Is a text a code. -/
def codeB (s : ByteArray) : Bool := decide (1 ≤ s.size ∧ s.size ≤ 16) && codeTo s s.size
theorem codeTo_false {s : ByteArray} {k : Nat} (h : signN k (s.data.toList.getD k 0).toNat = false) : ∀ n, k < n → codeTo s n = false
  | 0, hk => by omega
  | n + 1, hk => by
    unfold codeTo
    by_cases e : k = n
    · subst e; rw [h, Bool.and_false]
    · rw [codeTo_false h n (by omega), Bool.false_and]
theorem codeB_no {s : ByteArray} (h : ¬ (1 ≤ s.size ∧ s.size ≤ 16)) : codeB s = false := by
  unfold codeB; rw [decide_eq_false h, Bool.false_and]
theorem codeB_yes {s : ByteArray} (h : 1 ≤ s.size ∧ s.size ≤ 16) : codeB s = codeTo s s.size := by
  unfold codeB; rw [decide_eq_true h, Bool.true_and]
theorem byte_at (s : ByteArray) (k : Nat) (h : k < s.size) : s.data.toList.getD k 0 = s[k] := by
  rw [List.getD_eq_getElem?_getD, List.getElem?_eq_getElem (by rw [Array.length_toList]; exact h)]; rfl
theorem codeB_bad {s : ByteArray} {k : Nat} (h : k < s.size) (hb : signN k s[k].toNat = false) : codeB s = false := by
  unfold codeB
  rw [codeTo_false (k := k) (by rw [byte_at s k h]; exact hb) s.size h, Bool.and_false]
theorem codeTo_next {s : ByteArray} {k : Nat} (h : k < s.size) (h1 : codeTo s k = true) (hb : signN k s[k].toNat = true) : codeTo s (k + 1) = true := by
  unfold codeTo; rw [h1, byte_at s k h, hb]; rfl

-- <dig>
set_option maxHeartbeats 400000 in
theorem cdigit_walk (c : Nat) (w : World) : Calls Tryz.prog 67 #[.int .u8 c] w fun e w' => e = .returned (.bool (digN c)) ∧ w = w' := by
  by_cases h : 48 ≤ c ∧ c ≤ 57
  · rw [show digN c = true from decide_eq_true h]
    obtain ⟨h1, h2⟩ := h
    go_enter Tryz.func67, Tryz.ntmps67
    go_wp2
    all_goals
      go_ret
      exact ⟨ret_bool (by simp; try omega), rfl⟩
  · rw [show digN c = false from decide_eq_false h]
    go_enter Tryz.func67, Tryz.ntmps67
    go_wp2
    all_goals
      go_ret
      exact ⟨ret_bool (by simp; try omega), rfl⟩
-- </dig>
set_option maxHeartbeats 400000 in
theorem r3digit_walk (c : Nat) (w : World) : Calls Tryz.prog 72 #[.int .u8 c] w fun e w' => e = .returned (.bool (digN c)) ∧ w = w' := by
  by_cases h : 48 ≤ c ∧ c ≤ 57
  · rw [show digN c = true from decide_eq_true h]
    obtain ⟨h1, h2⟩ := h
    go_enter Tryz.func72, Tryz.ntmps72
    go_wp2
    all_goals
      go_ret
      exact ⟨ret_bool (by simp; try omega), rfl⟩
  · rw [show digN c = false from decide_eq_false h]
    go_enter Tryz.func72, Tryz.ntmps72
    go_wp2
    all_goals
      go_ret
      exact ⟨ret_bool (by simp; try omega), rfl⟩

-- <let>
set_option maxHeartbeats 400000 in
theorem cletter_walk (c : Nat) (w : World) : Calls Tryz.prog 68 #[.int .u8 c] w fun e w' => e = .returned (.bool (letN c)) ∧ w = w' := by
  by_cases h : (65 ≤ c ∧ c ≤ 90) ∨ (97 ≤ c ∧ c ≤ 122)
  · rw [show letN c = true from decide_eq_true h]
    go_enter Tryz.func68, Tryz.ntmps68
    go_wp2
    all_goals
      go_ret
      exact ⟨ret_bool (by simp; try omega), rfl⟩
  · rw [show letN c = false from decide_eq_false h]
    go_enter Tryz.func68, Tryz.ntmps68
    go_wp2
    all_goals
      go_ret
      exact ⟨ret_bool (by simp; try omega), rfl⟩
-- </let>
set_option maxHeartbeats 400000 in
theorem r3letter_walk (c : Nat) (w : World) : Calls Tryz.prog 73 #[.int .u8 c] w fun e w' => e = .returned (.bool (letN c)) ∧ w = w' := by
  by_cases h : (65 ≤ c ∧ c ≤ 90) ∨ (97 ≤ c ∧ c ≤ 122)
  · rw [show letN c = true from decide_eq_true h]
    go_enter Tryz.func73, Tryz.ntmps73
    go_wp2
    all_goals
      go_ret
      exact ⟨ret_bool (by simp; try omega), rfl⟩
  · rw [show letN c = false from decide_eq_false h]
    go_enter Tryz.func73, Tryz.ntmps73
    go_wp2
    all_goals
      go_ret
      exact ⟨ret_bool (by simp; try omega), rfl⟩

theorem digN_at {c : Nat} {b : Bool} (h : digN c = b) (w : World) : Calls Tryz.prog 67 #[.int .u8 c] w fun e w' => e = .returned (.bool b) ∧ w = w' := by
  have := cdigit_walk c w; rw [h] at this; exact this
theorem letN_at {c : Nat} {b : Bool} (h : letN c = b) (w : World) : Calls Tryz.prog 68 #[.int .u8 c] w fun e w' => e = .returned (.bool b) ∧ w = w' := by
  have := cletter_walk c w; rw [h] at this; exact this
theorem r3digN_at {c : Nat} {b : Bool} (h : digN c = b) (w : World) : Calls Tryz.prog 72 #[.int .u8 c] w fun e w' => e = .returned (.bool b) ∧ w = w' := by
  have := r3digit_walk c w; rw [h] at this; exact this
theorem r3letN_at {c : Nat} {b : Bool} (h : letN c = b) (w : World) : Calls Tryz.prog 73 #[.int .u8 c] w fun e w' => e = .returned (.bool b) ∧ w = w' := by
  have := r3letter_walk c w; rw [h] at this; exact this

theorem sign_eq {j c : Nat} {D L q1 q2 : Bool} (hD : digN c = D) (hL : letN c = L) (h1 : ((c : Int) == 95) = q1) (h2 : ((c : Int) == 45) = q2) : signN j c = (D || L || (decide (0 < j) && (q1 || q2))) := by
  have e : dashN c = (q1 || q2) := by
    rw [← h1, ← h2, Bool.eq_iff_iff]; simp [dashN]; omega
  unfold signN
  rw [hD, hL, e]
set_option maxHeartbeats 4000000 in
theorem cvalid_walk (s : ByteArray) (w : World) : Calls Tryz.prog 32 #[.string s] w fun e w' => e = .returned (.bool (codeB s)) ∧ w = w' := by
  by_cases hl : 1 ≤ s.size ∧ s.size ≤ 16
  · obtain ⟨l1, l2⟩ := hl
    have HC := hide (codeB_yes ⟨l1, l2⟩)
    go_enter Tryz.func32, Tryz.ntmps32
    go_wp2
    all_goals try (exfalso; omega)
    go_loop [15] (fun i => ∃ k : Nat, k ≤ s.size ∧ i = .int .i64 k ∧ Hid (codeTo s k = true)) (fun i => s.size - (intOf i).toNat)
    case atStart => exact ⟨0, Nat.zero_le _, rfl, rfl⟩
    case round =>
      obtain ⟨k, hk, rfl, hc⟩ := hrel
      by_cases hlt : k < s.size
      · have nxt := fun h => hide (codeTo_next hlt hc.out h)
        have bad := fun h => hide (codeB_bad hlt h)
        obtain ⟨c, hcc⟩ : ∃ c, s[k].toNat = c := ⟨_, rfl⟩
        rw [hcc] at nxt bad
        clear HC
        obtain ⟨D, hD⟩ : ∃ D, digN c = D := ⟨_, rfl⟩
        obtain ⟨L, hL⟩ : ∃ L, letN c = L := ⟨_, rfl⟩
        obtain ⟨q1, hq1⟩ : ∃ q1, ((c : Int) == 95) = q1 := ⟨_, rfl⟩
        obtain ⟨q2, hq2⟩ : ∃ q2, ((c : Int) == 45) = q2 := ⟨_, rfl⟩
        have hs : Hid (signN k c = (D || L || (decide (0 < k) && (q1 || q2)))) := hide (sign_eq hD hL hq1 hq2)
        replace hD := hide hD
        replace hL := hide hL
        by_cases h0 : 0 < k
        all_goals
          first | rw [decide_eq_true h0] at hs | rw [decide_eq_false h0] at hs
          go_wp2_with (first | (go_at_call 67; refine (digN_at hD.out _).mono ?_; rintro e w' ⟨rfl, rfl⟩) | (go_at_call 68; refine (letN_at hL.out _).mono ?_; rintro e w' ⟨rfl, rfl⟩))
          all_goals first
            | (go_ret
               refine ⟨ret_bool (bad ?_).out.symm, rfl⟩
               rw [hs.out]
               first
                 | (simp [*]; done)
                 | (have h' : (!q2) = true := by assumption
                    cases q2 <;> simp_all))
            | (go_round
               case rel => exact ⟨k + 1, by omega, by go_num, nxt (by rw [hs.out]; first | (simp [*]; done) | (rw [show q2 = true from by cases q2 with | false => exact absurd (show (!false) = false from by assumption) (by decide) | true => rfl]; simp))⟩
               case measure => simp [intOf]; omega)
      · obtain rfl : k = s.size := by omega
        go_wp2
        go_ret
        exact ⟨ret_bool (by rw [HC.out, hc.out]), rfl⟩
  · rw [codeB_no hl]
    go_enter Tryz.func32, Tryz.ntmps32
    go_wp2
    all_goals try (exfalso; omega)
    all_goals
      go_ret
      exact ⟨rfl, rfl⟩
theorem head_dash {s : ByteArray} (h : 0 < s.size) (hb : s[0].toNat = 95 ∨ s[0].toNat = 45) : codeB s = false := by
  refine codeB_bad h ?_
  unfold signN digN letN
  have h1 : ¬ (48 ≤ s[0].toNat ∧ s[0].toNat ≤ 57) := by omega
  have h2 : ¬ ((65 ≤ s[0].toNat ∧ s[0].toNat ≤ 90) ∨ (97 ≤ s[0].toNat ∧ s[0].toNat ≤ 122)) := by omega
  rw [decide_eq_false h1, decide_eq_false h2]
  simp
set_option maxHeartbeats 4000000 in
theorem r3valid_walk (s : ByteArray) (w : World) : Calls Tryz.prog 36 #[.string s] w fun e w' => e = .returned (.bool (codeB s)) ∧ w = w' := by
  by_cases hl : 1 ≤ s.size ∧ s.size ≤ 16
  · obtain ⟨l1, l2⟩ := hl
    have HC := hide (codeB_yes ⟨l1, l2⟩)
    have l3 : 1 ≤ (s.size : Int) := by omega
    have l4 : (s.size : Int) ≤ 16 := by omega
    have l0 : 0 < s.size := by omega
    by_cases hd : s[0].toNat = 95 ∨ s[0].toNat = 45
    · rw [head_dash l0 hd]
      clear HC
      go_enter Tryz.func36, Tryz.ntmps36
      go_wp2
      all_goals try (exfalso; omega)
      all_goals
        go_ret
        exact ⟨rfl, rfl⟩
    · obtain ⟨c0, hc0⟩ : ∃ c0, s[0].toNat = c0 := ⟨_, rfl⟩
      rw [hc0] at hd
      have n1 : ((c0 : Int) == 95) = false := by simp; omega
      have n2 : ((c0 : Int) == 45) = false := by simp; omega
      go_enter Tryz.func36, Tryz.ntmps36
      go_wp2
      all_goals try (exfalso; omega)
      clear hd
      replace n1 := hide n1
      replace n2 := hide n2
      replace hc0 := hide hc0
      go_loop [3] (fun i => ∃ k : Nat, k ≤ s.size ∧ i = .int .i64 k ∧ Hid (codeTo s k = true)) (fun i => s.size - (intOf i).toNat)
      case atStart => exact ⟨0, Nat.zero_le _, rfl, rfl⟩
      case round =>
        obtain ⟨k, hk, rfl, hc⟩ := hrel
        by_cases hlt : k < s.size
        · have nxt := fun h => hide (codeTo_next hlt hc.out h)
          have bad := fun h => hide (codeB_bad hlt h)
          obtain ⟨c, hcc⟩ : ∃ c, s[k].toNat = c := ⟨_, rfl⟩
          rw [hcc] at nxt bad
          clear HC
          obtain ⟨D, hD⟩ : ∃ D, digN c = D := ⟨_, rfl⟩
          obtain ⟨L, hL⟩ : ∃ L, letN c = L := ⟨_, rfl⟩
          obtain ⟨q1, hq1⟩ : ∃ q1, ((c : Int) != 95) = q1 := ⟨_, rfl⟩
          obtain ⟨q2, hq2⟩ : ∃ q2, ((c : Int) != 45) = q2 := ⟨_, rfl⟩
          have hs : Hid (signN k c = (D || L || !(q1 && q2))) := by
            have e1 : ((c : Int) == 95) = !q1 := by rw [← hq1, bne, Bool.not_not]
            have e2 : ((c : Int) == 45) = !q2 := by rw [← hq2, bne, Bool.not_not]
            refine hide ((sign_eq hD hL e1 e2).trans ?_)
            by_cases h0 : 0 < k
            · rw [decide_eq_true h0, Bool.true_and, Bool.not_and]
            · obtain rfl : k = 0 := by omega
              obtain rfl : c = c0 := hcc.symm.trans hc0.out
              rw [n1.out] at e1
              rw [n2.out] at e2
              rw [← e1, ← e2, Bool.not_and, ← e1, ← e2]; simp
          replace hD := hide hD
          replace hL := hide hL
          clear n1 n2 hc0
          go_wp2_with (first | (go_at_call 72; refine (r3digN_at hD.out _).mono ?_; rintro e w' ⟨rfl, rfl⟩) | (go_at_call 73; refine (r3letN_at hL.out _).mono ?_; rintro e w' ⟨rfl, rfl⟩))
          all_goals first
            | (go_ret
               refine ⟨ret_bool (bad ?_).out.symm, rfl⟩
               rw [hs.out]
               simp [*])
            | (go_round
               case rel => exact ⟨k + 1, by omega, by go_num, nxt (by rw [hs.out]; simp [*])⟩
               case measure => simp [intOf]; omega)
        · obtain rfl : k = s.size := by omega
          go_wp2
          go_ret
          exact ⟨ret_bool (by rw [HC.out, hc.out]), rfl⟩
  · rw [codeB_no hl]
    go_enter Tryz.func36, Tryz.ntmps36
    go_wp2
    all_goals try (exfalso; omega)
    all_goals
      go_ret
      exact ⟨rfl, rfl⟩
end Go.Proofs.YtdnnahdafhddlaaGreatDoor

namespace Go.Proofs.YtdnnahdafhddlaaGreatDoor
open Go.RowKit
set_option maxRecDepth 100000

/-- A problem: line, column, code. -/
abbrev Prob := Int × Int × Int
/-- Of what was there, block g alone may have turned. -/
abbrev Only (g : Nat) (w w' : World) : Prop := w.grownBy w' (some g)
theorem Only.refl (g : Nat) (w : World) : Only g w w := World.grownBy.refl _ _
theorem Only.below {B g : Nat} {w w' : World} (h : Only g w w') (hB : B ≤ g) (hw : B ≤ w.heap.size) : Below B w w' :=
  Below.grown (Below.refl _ _) h hw (fun k hk => by injection hk with hk; omega)
theorem Only.later {g : Nat} {a b c : World} (h : Only g a b) (k : Below b.heap.size b c) : Only g a c := h.trans (only_of_below k _)
theorem blk_lt {w : World} {h : Nat} {o : Obj} (e : w.heap[h]? = some o) : h < w.heap.size := (Array.getElem?_eq_some_iff.1 e).1
end Go.Proofs.YtdnnahdafhddlaaGreatDoor

namespace Go.Proofs.YtdnnahdafhddlaaGreatDoor
open Go.RowKit
set_option maxRecDepth 100000

theorem Only.std {g : Nat} {w w' : World} (h : Only g w w') (hS : Std w) (hg : 12 ≤ g) : Std w' := hS.below (h.below (B := 12) hg hS.big) (Nat.le_refl _)
theorem Only.cell {g b o : Nat} {w w' : World} (h : Only g w w') (hb : b < w.heap.size) (hne : b ≠ g) : w'.cell? ⟨b, o, none⟩ = w.cell? ⟨b, o, none⟩ :=
  World.cell?_of_block (w := w) (h.block b hb (fun e => hne (by injection e)))
/-- The parts of a text between semicolons; an empty one has none. -/
def partsOf (s : ByteArray) : List ByteArray := if s.size = 0 then [] else Lib.splitB ⟨#[59]⟩ 0 (Lib.countB s ⟨#[59]⟩) s
end Go.Proofs.YtdnnahdafhddlaaGreatDoor

namespace Go.Proofs.YtdnnahdafhddlaaGreatDoor
open Go.RowKit
set_option maxRecDepth 100000

abbrev T4 := Int × Int × Int × Int
def encT (t : T4) : List Value := [.int .i64 t.1, .int .i64 t.2.1, .int .i64 t.2.2.1, .int .i64 t.2.2.2]
/-- Times, in memory of their own. -/
def TimesOwn (B : Nat) (w : World) (v : Value) (ts : List T4) : Prop := w.ownsRow B 67 4 v ts.length (ts.flatMap encT)
theorem infoTime : (Tryz.prog.info? 67).map (fun i => (i.zero, i.size, i.bytes)) = some (some (.agg #[.int .i64 0, .int .i64 0, .int .i64 0, .int .i64 0]), 4, 32) := by kernel_rfl
theorem owns_lower {w : World} {B C : Nat} {e : TypeId} {k n : Nat} {v : Value} {xs : List Value} (h : w.ownsRow B e k v n xs) (hc : C ≤ B) : w.ownsRow C e k v n xs := by
  refine ⟨h.1, ?_⟩
  rcases h.2 with h0 | ⟨g, cap, cur, e1, hb, r⟩
  · exact .inl h0
  · exact .inr ⟨g, cap, cur, e1, by omega, r⟩
theorem owns_later {w w' : World} {B : Nat} {e : TypeId} {k n : Nat} {v : Value} {xs : List Value} (h : w.ownsRow B e k v n xs) (hb : Below w.heap.size w w') : w'.ownsRow B e k v n xs :=
  h.kept (row := none) ⟨hb.os, hb.tape, hb.output, hb.size, fun k hk _ => hb.block k hk⟩ (by cases v.ownBlock <;> simp)
theorem owns_only {w w' : World} {B g : Nat} {e : TypeId} {k n : Nat} {v : Value} {xs : List Value} (h : w.ownsRow B e k v n xs) (hb : Only g w w') (hg : g < B) : w'.ownsRow B e k v n xs :=
  h.kept hb (by
    cases hv : v.ownBlock with
    | none => exact .inl rfl
    | some x =>
      refine .inr fun e => ?_
      injection e with e
      have := (h.lt x hv).1
      omega)
/-- What a piece of a list of times is read as. -/
def pieceT (d sl b m n : Int) (z : ByteArray) : Int × Int × Int × Int × Int := parseT d sl b m n (Lib.splitB ⟨#[32]⟩ 0 (Lib.countB z ⟨#[32]⟩) z)
def pieceV (d sl b m n : Int) (z : ByteArray) : T4 := ((pieceT d sl b m n z).1, (pieceT d sl b m n z).2.1, (pieceT d sl b m n z).2.2.1, (pieceT d sl b m n z).2.2.2.1)
def pieceE (d sl b m n : Int) (z : ByteArray) : Int := (pieceT d sl b m n z).2.2.2.2
/-- The first error of pieces, 0 if there is none. -/
def firstE (f : ByteArray → Int) : List ByteArray → Int
  | [] => 0
  | z :: r => if f z = 0 then firstE f r else f z
theorem firstE_snoc (f : ByteArray → Int) (z : ByteArray) : ∀ l, firstE f (l ++ [z]) = if firstE f l = 0 then f z else firstE f l
  | [] => by simp only [List.nil_append, firstE]; by_cases h : f z = 0 <;> simp [h]
  | x :: l => by
    simp only [List.cons_append, firstE]
    by_cases h : f x = 0
    · simp only [h, if_true]; exact firstE_snoc f z l
    · simp only [h, if_false]
theorem flatT_snoc (ts : List T4) (t : T4) : (ts ++ [t]).flatMap encT = ts.flatMap encT ++ encT t := by simp
theorem Box4.only {w w' : World} {g b : Nat} {x0 x1 x2 x3 : Value} (h : Box4 w b x0 x1 x2 x3) (ho : Only g w w') (hne : b ≠ g) : Box4 w' b x0 x1 x2 x3 := by
  have hlt := h.lt
  exact ⟨(ho.cell hlt hne).trans h.c0, (ho.cell hlt hne).trans h.c1, (ho.cell hlt hne).trans h.c2, (ho.cell hlt hne).trans h.c3⟩

theorem partsOf_len (s : ByteArray) : (partsOf s).length ≤ s.size + 1 := by
  unfold partsOf
  split
  · simp
  · rw [splitB_len]
    have := Lib.countB_le ⟨#[59]⟩ (Nat.le_refl 1) _ s (Nat.le_refl _)
    omega
theorem partsOf_mem (s : ByteArray) : ∀ z ∈ partsOf s, z.size ≤ s.size := by
  unfold partsOf
  split
  · intro z hz; cases hz
  · intro z hz; exact splitB_mem rfl hz
theorem take_map {α β : Type} (f : α → β) (l : List α) (j : Nat) (z : α) (h : l[j]? = some z) : (l.take (j + 1)).map f = (l.take j).map f ++ [f z] := by
  rw [List.take_add_one, h]; simp
theorem take_first (f : ByteArray → Int) (l : List ByteArray) (j : Nat) (z : ByteArray) (h : l[j]? = some z) : firstE f (l.take (j + 1)) = if firstE f (l.take j) = 0 then f z else firstE f (l.take j) := by
  rw [List.take_add_one, h]; exact firstE_snoc f z _
theorem one_times (t : T4) : ∀ u ∈ encT t, u.oneCell' = true := by
  intro u hu; simp [encT] at hu; rcases hu with rfl | rfl | rfl | rfl <;> rfl

theorem new_four (w : World) (a b c d : Int) (t : TypeId) : ∀ (j : Nat) (u : Value), (encT (a, b, c, d))[j]? = some u → (w.alloc (.cells #[.int .i64 a, .int .i64 b, .int .i64 c, .int .i64 d] t)).cell? ((⟨w.heap.size, 0, none⟩ : Addr).add j) = some u := by
  intro j u hu
  match j, hu with
  | 0, hu => simp [encT] at hu; subst hu; simp [Addr.add]
  | 1, hu => simp [encT] at hu; subst hu; simp [Addr.add]
  | 2, hu => simp [encT] at hu; subst hu; simp [Addr.add]
  | 3, hu => simp [encT] at hu; subst hu; simp [Addr.add]
  | j + 4, hu => simp [encT] at hu
theorem owns_form {w : World} {B : Nat} {e : TypeId} {k n : Nat} {v : Value} {xs : List Value} (h : w.ownsRow B e k v n xs) : ∃ A c, v = .slice A n c := by
  rcases h.2 with ⟨h1, h2⟩ | ⟨g, cap, cur, h1, _⟩
  · subst h2; exact ⟨none, 0, h1⟩
  · exact ⟨_, _, h1⟩
theorem own_far {w : World} {B g : Nat} {e : TypeId} {k n : Nat} {v : Value} {xs : List Value} (h : w.ownsRow B e k v n xs) (hg : g < B) : some g ≠ v.ownBlock := by
  intro e
  have := (h.lt g e.symm).1
  omega
theorem own_high {w : World} {B C : Nat} {e : TypeId} {k n : Nat} {v : Value} {xs : List Value} (h : w.ownsRow B e k v n xs) (hc : C ≤ B) : ∀ x, v.ownBlock = some x → C ≤ x := by
  intro x e
  have := (h.lt x e).1
  omega
theorem Only.trans_own {g : Nat} {a b c : World} {v : Value} (h : Only g a b) (k : b.grownBy c v.ownBlock) (hv : ∀ x, v.ownBlock = some x → a.heap.size ≤ x) : Only g a c :=
  ⟨k.os.trans h.os, k.tape.trans h.tape, k.output.trans h.output, Nat.le_trans h.size k.size, fun i hi hne => (k.block i (Nat.lt_of_lt_of_le hi h.size) (fun e => by have := hv i e.symm; omega)).trans (h.block i hi hne)⟩
theorem tgParse_at {d sl b m n : Int} {z : ByteArray} {x1 x2 x3 x4 er : Int} (hT : pieceT d sl b m n z = (x1, x2, x3, x4, er)) (hs : z.size < 1073741824) (w : World) (hS : Std w) :
    Calls Tryz.prog 97 #[.agg #[.int .i64 d, .int .i64 sl, .int .i64 b, .int .i64 m], .int .i64 n, .string z] w fun e w' => e = .returned (.tuple #[.agg #[.int .i64 x1, .int .i64 x2, .int .i64 x3, .int .i64 x4], .int .i64 er]) ∧ Below w.heap.size w w' := by
  have := tgParse_walk d sl b m n z hs w hS
  unfold pieceT at hT
  rw [hT] at this
  exact this
end Go.Proofs.YtdnnahdafhddlaaGreatDoor
