/- Plain: a number written in a width is read again; what a list that is one range says. No condition. Plain: what a list of codes is joined to, and that it is listed again. No condition. Walk of timetablelaw03.wide. Conditions: a number that is an int; a width of at most 1000. -/
import Derived.Test.YthejgholpkeldaaGreatDoorShelfS
import Derived.Test.YthejgholpkeldaaGreatDoorRows
import Derived.WalkKit
import Derived.WalkSpells
import Derived.WalkLawsBesides
import Derived.BigGuardPart
import Derived.Lib.Hide
import Derived.Laws.BitsAllLaws
import Derived.Laws.BitsLemmas
import Derived.Lib.LaidTab
import Derived.Test.YthejgholpkeldaaGreatDoorShelf
import Derived.Lib.ConvBytes
import Derived.Deep.QuietTactic
import Derived.BigQuiet
import Derived.Laws.ResultCell
import Derived.RegionTactic
import Derived.BigRegion
import Derived.Deep.RegionHeld3
import Derived.Deep.DeepCutAuto
import Derived.Lib.SmallJoins
import Derived.Lib.SplitLaws
import Derived.Lib.CountLaws
import Derived.Lib.IndexMore
import Derived.Lib.Split
import Derived.Lib.Join
import Derived.Lib.ItoaNum
import Derived.Laws.AppendOwn
import Derived.Test.YthejgholpkeldaaGreatDoorShelfT
import Derived.Lib.ItoaLen
import Derived.Lib.AppendIntMem
import Derived.Deep.AppendLies
import Derived.Lib.PathFns
import Derived.Maps.Range
import Derived.Lib.OwnBridge
import Derived.Sort.OwnSorted
import Derived.Test.YthejgholpkeldaaGreatDoorZListC
import Derived.Test.YthejgholpkeldaaGreatDoorZSameL
import Derived.Test.YthejgholpkeldaaGreatDoorZIdxS
namespace Go.Proofs.YthejgholpkeldaaGreatDoor
open Go.RowKit
set_option maxRecDepth 100000

theorem decd_big {n : Nat} (h : ¬ n < 10) : Lib.decDigits n = Lib.decDigits (n / 10) ++ [UInt8.ofNat (48 + n % 10)] := by rw [Lib.decDigits, dif_neg h]
theorem digval_fin : ∀ d : Fin 10, Lib.digitVal (UInt8.ofNat (48 + d.val)) = some d.val := by decide +kernel
theorem digval {d : Nat} (h : d < 10) : Lib.digitVal (UInt8.ofNat (48 + d)) = some d := digval_fin ⟨d, h⟩
theorem decFrom_snoc {l : List UInt8} {a n d : Nat} {b : UInt8} (h : Lib.decFrom a l = some n) (hb : Lib.digitVal b = some d) : Lib.decFrom a (l ++ [b]) = some (n * 10 + d) := by
  have h1 := Lib.decFrom_take (l ++ [b]) l.length a n b d (by rw [List.take_left]; exact h) (by simp) hb
  rw [List.take_of_length_le (by simp)] at h1
  exact h1
theorem read_decd (n : Nat) : Lib.decFrom 0 (Lib.decDigits n) = some n := by
  induction n using Nat.strongRecOn with
  | _ n ih =>
    by_cases h : n < 10
    · rw [Lib.decDigits_one h, Lib.decFrom, digval h]
      simp [Lib.decFrom]
    · rw [decd_big h, decFrom_snoc (ih (n / 10) (by omega)) (digval (Nat.mod_lt _ (by decide)))]
      congr 1
      omega
theorem read_zeros (l : List UInt8) : ∀ k, Lib.decFrom 0 (List.replicate k 48 ++ l) = Lib.decFrom 0 l
  | 0 => by simp
  | k + 1 => by
    rw [List.replicate_succ, List.cons_append, Lib.decFrom, show Lib.digitVal 48 = some 0 from by decide]
    exact read_zeros l k
theorem wrL_eq (n w : Nat) : wrL n w = List.replicate (w - Lib.nDigits n) 48 ++ Lib.decDigits n := by
  unfold wrL
  rw [Lib.itoa_nonneg, Lib.decDigits_length]
theorem read_wrL (n w : Nat) : Lib.decFrom 0 (wrL n w) = some n := by rw [wrL_eq, read_zeros, read_decd]
theorem val_wrL (n w : Nat) : valL (wrL n w) = n := by unfold valL; rw [read_wrL]; rfl
theorem len_wrL (n w : Nat) : (wrL n w).length = max w (Lib.nDigits n) := by
  rw [wrL_eq, List.length_append, List.length_replicate, Lib.decDigits_length]; omega
theorem digs_of {l : List UInt8} {n : Nat} (h : Lib.decFrom 0 l = some n) : ∀ b ∈ l, digN b.toNat = true := by
  intro b hb
  obtain ⟨k, hk⟩ := List.getElem?_of_mem hb
  obtain ⟨d, hd⟩ := Lib.digit_of_decFrom l 0 n h k b hk
  unfold Lib.digitVal at hd
  split at hd
  · rename_i h2; exact decide_eq_true h2
  · cases hd
theorem digs_wrL (n w : Nat) : ∀ b ∈ wrL n w, digN b.toNat = true := digs_of (read_wrL n w)
theorem nDigits_le : ∀ (k n : Nat), n < 10 ^ (k + 1) → Lib.nDigits n ≤ k + 1
  | 0, n, h => by rw [Lib.nDigits_small (by simpa using h)]; exact Nat.le_refl _
  | k + 1, n, h => by
    by_cases h1 : n < 10
    · rw [Lib.nDigits_small h1]; omega
    · rw [Lib.nDigits_big h1]
      have := nDigits_le k (n / 10) (by rw [Nat.pow_succ] at h; omega)
      omega
/-! Where the last number begins. -/
theorem dgAt_mk (l : List UInt8) (j : Nat) : dgAt (mkB l) j = digN (l.getD j 0).toNat := by unfold dgAt; rw [mkB_list]
theorem tlN_digits (s : ByteArray) (n : Nat) : ∀ k, (∀ j, j < k → dgAt s (n + j) = true) → tlN s (n + k) = tlN s n
  | 0, _ => rfl
  | k + 1, h => by
    rw [show n + (k + 1) = (n + k) + 1 from rfl, tlN, if_pos (h k (Nat.lt_succ_self _))]
    exact tlN_digits s n k fun j hj => h j (by omega)
theorem tail_app (p ds : List UInt8) (hd : ∀ b ∈ ds, digN b.toNat = true) (hp : ∀ q b, p = q ++ [b] → digN b.toNat = false) : tailAt (mkB (p ++ ds)) = p.length := by
  unfold tailAt
  rw [mkB_size, List.length_append, tlN_digits _ p.length ds.length]
  · rcases List.eq_nil_or_concat p with rfl | ⟨q, b, e⟩
    · rfl
    · rw [List.concat_eq_append] at e
      subst e
      rw [List.length_append]
      show tlN _ (q.length + 1) = q.length + 1
      rw [tlN, if_neg]
      rw [dgAt_mk]
      simp only [List.append_assoc, List.getD_eq_getElem?_getD]
      rw [List.getElem?_append_right (Nat.le_refl _)]
      simp [hp q b rfl]
  · intro j hj
    rw [dgAt_mk, List.getD_eq_getElem?_getD, List.getElem?_append_right (by omega), show p.length + j - p.length = j from by omega, List.getElem?_eq_getElem hj]
    exact hd _ (List.getElem_mem _)
theorem pre_app {p ds : List UInt8} (hd : ∀ b ∈ ds, digN b.toNat = true) (hp : ∀ q b, p = q ++ [b] → digN b.toNat = false) : preL (mkB (p ++ ds)) = p := by
  unfold preL; rw [tail_app p ds hd hp, mkB_list, List.take_left]
theorem num_app {p ds : List UInt8} (hd : ∀ b ∈ ds, digN b.toNat = true) (hp : ∀ q b, p = q ++ [b] → digN b.toNat = false) : numT (mkB (p ++ ds)) = valL ds := by
  unfold numT; rw [tail_app p ds hd hp, mkB_list, List.drop_left]
/-- The prefix of a code ends with no digit. -/
theorem pre_end (a : ByteArray) : ∀ q b, preL a = q ++ [b] → digN b.toNat = false := by
  intro q b h
  have hl := congrArg List.length h
  unfold preL at h hl
  rw [List.length_take, len_size, List.length_append] at hl
  have hle := tail_le a
  have ht : tailAt a = q.length + 1 := by simp at hl; omega
  have hd : dgAt a q.length = false := by
    cases hc : dgAt a q.length with
    | false => rfl
    | true =>
      exfalso
      -- the search stopped at a place behind a digit
      have hst : ∀ n, tlN a n = q.length + 1 → q.length + 1 ≤ n → False := by
        intro n
        induction n with
        | zero => intro _ h2; omega
        | succ n ih =>
          intro h1 h2
          rw [tlN] at h1
          split at h1
          · rename_i hdn
            by_cases e : n = q.length
            · have := tlN_le a n; omega
            · exact ih h1 (by omega)
          · rename_i hdn
            have : n = q.length := by omega
            rw [this] at hdn; exact hdn hc
      exact hst a.size ht (by omega)
  rw [ht] at h
  unfold dgAt at hd
  have hb : a.data.toList[q.length]? = some b := by
    have := congrArg (fun l : List UInt8 => l[q.length]?) h
    rw [List.getElem?_take, if_pos (by omega)] at this
    rw [this]; simp
  rw [List.getD_eq_getElem?_getD, hb] at hd
  exact hd
theorem ran_pre (a : ByteArray) (k : Nat) : preL (ranF a k) = preL a := pre_app (digs_wrL _ _) (pre_end a)
theorem ran_num (a : ByteArray) (k : Nat) : numT (ranF a k) = numT a + k := (num_app (digs_wrL _ _) (pre_end a)).trans (val_wrL _ _)
theorem ran_tail (a : ByteArray) (k : Nat) : tailAt (ranF a k) < (ranF a k).size := by
  unfold ranF
  rw [tail_app _ _ (digs_wrL _ _) (pre_end a), mkB_size, List.length_append, len_wrL]
  have := Lib.nDigits_pos (numT a + k)
  omega
/-! Cutting at the first two dots. -/
/-! What a code's bytes are. -/
theorem dat_inj {X Y : ByteArray} (h : X.data.toList = Y.data.toList) : X = Y := by rw [mkB_of h]; rfl
end Go.Proofs.YthejgholpkeldaaGreatDoor

namespace Go.Proofs.YthejgholpkeldaaGreatDoor
open Go.RowKit
set_option maxRecDepth 100000

/-! Digits written in their own width are themselves. -/
theorem wr_snoc (n w : Nat) (hw : 1 ≤ w) : wrL n (w + 1) = wrL (n / 10) w ++ [UInt8.ofNat (48 + n % 10)] := by
  rw [wrL_eq, wrL_eq]
  by_cases h : n < 10
  · obtain ⟨v, rfl⟩ : ∃ v, w = v + 1 := ⟨w - 1, by omega⟩
    rw [Lib.nDigits_small h, Lib.decDigits_one h, show n / 10 = 0 from by omega, Lib.nDigits_small (u := 0) (by decide), Lib.decDigits_one (i := 0) (by decide), Nat.mod_eq_of_lt h]
    simp only [Nat.add_sub_cancel]
    rw [List.replicate_succ', List.append_assoc, List.append_assoc]
    rfl
  · rw [Lib.nDigits_big h, decd_big h, ← List.append_assoc, show w + 1 - (Lib.nDigits (n / 10) + 1) = w - Lib.nDigits (n / 10) from by omega]
theorem byte_back_fin : ∀ b : Fin 256, 48 ≤ b.val → b.val ≤ 57 → UInt8.ofNat (48 + (b.val - 48)) = UInt8.ofNat b.val := by decide +kernel
theorem byte_back {b : UInt8} (h : digN b.toNat = true) : UInt8.ofNat (48 + (b.toNat - 48)) = b := by
  have h := of_decide_eq_true h
  have := byte_back_fin ⟨b.toNat, b.toNat_lt⟩ h.1 h.2
  simpa using this
theorem digval_of {b : UInt8} (h : digN b.toNat = true) : Lib.digitVal b = some (b.toNat - 48) := by unfold Lib.digitVal; rw [if_pos (of_decide_eq_true h)]
theorem dec_val {l : List UInt8} (h : ∀ b ∈ l, digN b.toNat = true) : Lib.decFrom 0 l = some (valL l) := by
  obtain ⟨n, hn, -⟩ := dec_some (l := l) 0 (List.all_eq_true.2 h)
  unfold valL
  rw [hn]; rfl
theorem wr_read : ∀ (k : Nat) (ds : List UInt8), ds.length = k + 1 → (∀ b ∈ ds, digN b.toNat = true) → wrL (valL ds) (k + 1) = ds := by
  intro k
  induction k with
  | zero =>
    intro ds hl hd
    match ds, hl with
    | [b], _ =>
      have hb := hd b (by simp)
      have hv : valL [b] = b.toNat - 48 := by unfold valL; rw [Lib.decFrom, digval_of hb]; simp [Lib.decFrom]
      have h2 := of_decide_eq_true hb
      rw [hv, wrL_eq, Lib.nDigits_small (by omega), Lib.decDigits_one (by omega), byte_back hb]
      rfl
  | succ k ih =>
    intro ds hl hd
    rcases List.eq_nil_or_concat ds with rfl | ⟨es, b, e⟩
    · cases hl
    · rw [List.concat_eq_append] at e
      subst e
      have he : ∀ b ∈ es, digN b.toNat = true := fun x hx => hd x (List.mem_append_left _ hx)
      have hb := hd b (by simp)
      have hv : valL (es ++ [b]) = valL es * 10 + (b.toNat - 48) := by
        have := decFrom_snoc (dec_val he) (digval_of hb)
        unfold valL at this ⊢
        rw [this]; rfl
      have h2 := of_decide_eq_true hb
      have hel : es.length = k + 1 := by rw [List.length_append] at hl; simp at hl; omega
      rw [wr_snoc _ _ (by omega), hv, show (valL es * 10 + (b.toNat - 48)) / 10 = valL es from by omega, show (valL es * 10 + (b.toNat - 48)) % 10 = b.toNat - 48 from by omega, byte_back hb, ih es hel he]
theorem ran_zero {a : ByteArray} (h : tailAt a < a.size) : ranF a 0 = a := by
  unfold ranF
  have hw : (a.data.toList.drop (tailAt a)).length = (widT a - 1) + 1 := by rw [List.length_drop, len_size]; unfold widT; omega
  have hd : ∀ b ∈ a.data.toList.drop (tailAt a), digN b.toNat = true := by
    have := tail_digS a
    unfold digS at this
    rw [ext_list, List.take_of_length_le (by simp), List.all_eq_true] at this
    exact this
  have := wr_read _ _ hw hd
  rw [show widT a - 1 + 1 = widT a from by unfold widT; omega] at this
  rw [Nat.add_zero, show numT a = valL (a.data.toList.drop (tailAt a)) from rfl, this]
  unfold preL
  rw [List.take_append_drop]
  exact (mkB_of rfl).symm
/-! Runs of codes. -/
/-- How many of the codes behind the first one go on with its range, from number j on. -/
def runC (a : ByteArray) : Nat → List ByteArray → Nat
  | _, [] => 0
  | j, b :: r => if b = ranF a j then runC a (j + 1) r + 1 else 0
def runV : List ByteArray → Nat
  | [] => 0
  | a :: r => if tailAt a < a.size then runC a 1 r + 1 else 1
/-- Goes a code on behind another one. -/
def folB (b a : ByteArray) (w : Nat) : Bool := decide (tailAt a < a.size ∧ b = mkB (preL a ++ wrL (numT a + 1) w))
theorem fol_ran {a b : ByteArray} {j : Nat} : folB b (ranF a j) (widT a) = decide (b = ranF a (j + 1)) := by
  unfold folB
  rw [ran_pre, ran_num]
  by_cases e : b = ranF a (j + 1)
  · rw [decide_eq_true e, decide_eq_true ⟨ran_tail a j, e⟩]
  · rw [decide_eq_false e, decide_eq_false fun h2 => e h2.2]
theorem runC_le (a : ByteArray) : ∀ (l : List ByteArray) (j : Nat), runC a j l ≤ l.length
  | [], _ => Nat.le_refl _
  | b :: r, j => by
    rw [runC]
    split
    · exact Nat.succ_le_succ (runC_le a r (j + 1))
    · exact Nat.zero_le _
/-- Step by step: the codes so far go on, the next one too or not. -/
theorem runC_next {a : ByteArray} : ∀ {l : List ByteArray} {j k : Nat}, k < runC a j l → l[k]? = some (ranF a (j + k))
  | [], _, k, h => by simp [runC] at h
  | b :: r, j, k, h => by
    rw [runC] at h
    split at h
    · rename_i hb
      cases k with
      | zero => rw [hb]; rfl
      | succ k =>
        have ih := runC_next (a := a) (l := r) (j := j + 1) (k := k) (by omega)
        rw [List.getElem?_cons_succ, ih, show j + 1 + k = j + (k + 1) from by omega]
    · omega
theorem runC_stop {a : ByteArray} : ∀ {l : List ByteArray} {j : Nat} {x : ByteArray}, l[runC a j l]? = some x → x ≠ ranF a (j + runC a j l)
  | [], _, _, h => by simp at h
  | b :: r, j, x, h => by
    rw [runC] at h ⊢
    split at h
    · rename_i hb
      rw [if_pos hb]
      rw [List.getElem?_cons_succ] at h
      have := runC_stop h
      rw [show j + (runC a (j + 1) r + 1) = j + 1 + runC a (j + 1) r from by omega]
      exact this
    · rename_i hb
      rw [if_neg hb]
      obtain rfl := Option.some.inj h
      exact hb
theorem runV_pos {a : ByteArray} {r : List ByteArray} : 1 ≤ runV (a :: r) := by
  rw [runV]; split
  · omega
  · exact Nat.le_refl _
theorem runV_le (l : List ByteArray) : runV l ≤ l.length := by
  match l with
  | [] => exact Nat.le_refl _
  | a :: r =>
    rw [runV]
    split
    · exact Nat.succ_le_succ (runC_le a r 1)
    · simp
/-- The text of a range: its two ends. -/
def rangeT (a b : ByteArray) : ByteArray := mkB (a.data.toList ++ 46 :: 46 :: b.data.toList)
/-- The parts of the text of a list, behind some codes that are left out. -/
def pieceS : Nat → List ByteArray → List ByteArray
  | _, [] => []
  | k + 1, _ :: r => pieceS k r
  | 0, a :: r => if 3 ≤ runV (a :: r) then rangeT a ((a :: r).getD (runV (a :: r) - 1) ⟨#[]⟩) :: pieceS (runV (a :: r) - 1) r else a :: pieceS 0 r
theorem pieceS_drop : ∀ (k : Nat) (l : List ByteArray), pieceS k l = pieceS 0 (l.drop k)
  | 0, _ => rfl
  | k + 1, [] => by simp [pieceS]
  | k + 1, _ :: r => by rw [pieceS, List.drop_succ_cons]; exact pieceS_drop k r
theorem piece_run {a : ByteArray} {r : List ByteArray} (h : 3 ≤ runV (a :: r)) : pieceS 0 (a :: r) = rangeT a ((a :: r).getD (runV (a :: r) - 1) ⟨#[]⟩) :: pieceS 0 ((a :: r).drop (runV (a :: r))) := by
  rw [pieceS, if_pos h, pieceS_drop]
  congr 2
  obtain ⟨k, hk⟩ : ∃ k, runV (a :: r) = k + 1 := ⟨runV (a :: r) - 1, by omega⟩
  rw [hk]; rfl
theorem piece_one {a : ByteArray} {r : List ByteArray} (h : ¬ 3 ≤ runV (a :: r)) : pieceS 0 (a :: r) = a :: pieceS 0 r := by rw [pieceS, if_neg h]
/-- What is wrong with code j of a list. -/
def jE (l : List ByteArray) (j : Nat) : Nat := if codeB (l.getD j ⟨#[]⟩) = false then 10 else if 0 ≤ idxS (l.getD j ⟨#[]⟩) (l.take j) then 11 else 0
def jErr (l : List ByteArray) : Nat → Nat
  | 0 => 0
  | n + 1 => if jErr l n ≠ 0 then jErr l n else jE l n
theorem jErr_next {l : List ByteArray} {j : Nat} (h0 : jErr l j = 0) : jErr l (j + 1) = jE l j := by rw [jErr, if_neg (by rw [h0]; simp)]
theorem jErr_hit {l : List ByteArray} {j : Nat} (h0 : jErr l j = 0) (h : jE l j ≠ 0) : ∀ n, j < n → jErr l n = jE l j
  | 0, hj => by omega
  | n + 1, hj => by
    by_cases e : j = n
    · subst e; exact jErr_next h0
    · have ih := jErr_hit h0 h n (by omega)
      rw [jErr, if_pos (by rw [ih]; exact h), ih]
theorem jErr_all {l : List ByteArray} : ∀ {n : Nat}, jErr l n = 0 → ∀ j, j < n → jE l j = 0
  | 0, _, j, hj => by omega
  | n + 1, h, j, hj => by
    by_cases h0 : jErr l n = 0
    · by_cases e : j = n
      · subst e; rw [← jErr_next h0]; exact h
      · exact jErr_all h0 j (by omega)
    · rw [jErr, if_pos h0] at h; exact absurd h h0
/-- What a list of codes is joined to: the error's number, the text. -/
def joinV (l : List ByteArray) : Nat × ByteArray := if 64 < l.length then (2, ⟨#[]⟩) else if jErr l l.length ≠ 0 then (jErr l l.length, ⟨#[]⟩) else (0, mkB (Lib.join ((pieceS 0 l).map (·.data.toList)) [59]))
theorem jErr_code {l : List ByteArray} (h : jErr l l.length = 0) : ∀ x ∈ l, codeB x = true := by
  intro x hx
  obtain ⟨j, hj⟩ := List.getElem?_of_mem hx
  have hl := (List.getElem?_eq_some_iff.1 hj).1
  have := jErr_all h j hl
  unfold jE at this
  rw [List.getD_eq_getElem?_getD, hj] at this
  cases hc : codeB x with
  | true => rfl
  | false => rw [show (some x).getD (⟨#[]⟩ : ByteArray) = x from rfl, hc, if_pos rfl] at this; cases this
/-! Listed again. -/
end Go.Proofs.YthejgholpkeldaaGreatDoor

namespace Go.Proofs.YthejgholpkeldaaGreatDoor
open Go.RowKit
set_option maxRecDepth 100000

/-- What digits are still to be put in front of some. -/
def preN (n : Nat) (s : List UInt8) : List UInt8 := if n = 0 then (if s = [] then [48] else s) else Lib.decDigits n ++ s
theorem preN_start (n : Nat) : preN n [] = Lib.decDigits n := by
  unfold preN
  by_cases h : n = 0
  · subst h; rw [if_pos rfl, if_pos rfl, Lib.decDigits_one (by decide)]; rfl
  · rw [if_neg h, List.append_nil]
theorem preN_step {n : Nat} {s : List UInt8} (h : n ≠ 0 ∨ s = []) : preN (n / 10) (UInt8.ofNat (48 + n % 10) :: s) = preN n s := by
  unfold preN
  by_cases h0 : n = 0
  · subst h0
    rcases h with h | h
    · exact absurd rfl h
    · subst h; rfl
  · rw [if_neg h0]
    by_cases h1 : n < 10
    · rw [if_pos (by omega), if_neg (by simp), Lib.decDigits_one h1, Nat.mod_eq_of_lt h1]; rfl
    · rw [if_neg (by omega), decd_big h1, List.append_assoc]; rfl
theorem preN_end {s : List UInt8} (h : s ≠ []) : preN 0 s = s := by unfold preN; rw [if_pos rfl, if_neg h]
theorem preN_len (n : Nat) (s : List UInt8) : s.length ≤ (preN n s).length := by
  unfold preN
  split
  · split
    · rename_i h; rw [h]; simp
    · exact Nat.le_refl _
  · rw [List.length_append]; omega
theorem rep_snoc (k : Nat) (l : List UInt8) : 48 :: (List.replicate k 48 ++ l) = List.replicate (k + 1) 48 ++ l := by rw [List.replicate_succ]; rfl
end Go.Proofs.YthejgholpkeldaaGreatDoor
