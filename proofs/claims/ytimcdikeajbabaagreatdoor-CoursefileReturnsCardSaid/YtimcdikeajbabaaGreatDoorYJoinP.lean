/- Plain: a number written in a width is read again; what a list that is one range says. No condition. Plain: what a list of codes is joined to, and that it is listed again. No condition. -/
import Derived.Test.YtimcdikeajbabaaGreatDoorShelfS
import Derived.Test.YtimcdikeajbabaaGreatDoorRows
import Derived.WalkKit
import Derived.WalkSpells
import Derived.WalkLawsBesides
import Derived.BigGuardPart
import Derived.Lib.Hide
import Derived.Laws.BitsAllLaws
import Derived.Laws.BitsLemmas
import Derived.Lib.LaidTab
import Derived.Test.YtimcdikeajbabaaGreatDoorShelf
import Derived.Lib.ConvBytes
import Derived.Deep.QuietTactic
import Derived.BigQuiet
import Derived.Laws.ResultCell
import Derived.RegionTactic
import Derived.BigRegion
import Derived.Deep.RegionHeld3
import Derived.Deep.DeepCutAuto
import Derived.Lib.SmallJoins
import Derived.Lib.SplitLaws
import Derived.Lib.CountLaws
import Derived.Lib.IndexMore
import Derived.Lib.Split
import Derived.Lib.Join
import Derived.Lib.ItoaNum
import Derived.Laws.AppendOwn
import Derived.Test.YtimcdikeajbabaaGreatDoorShelfT
import Derived.Lib.ItoaLen
import Derived.Lib.AppendIntMem
import Derived.Deep.AppendLies
import Derived.Lib.PathFns
import Derived.Maps.Range
import Derived.Lib.OwnBridge
import Derived.Sort.OwnSorted
import Derived.Test.YtimcdikeajbabaaGreatDoorYListC
import Derived.Test.YtimcdikeajbabaaGreatDoorYSameL
import Derived.Test.YtimcdikeajbabaaGreatDoorYWriteT
import Derived.Test.YtimcdikeajbabaaGreatDoorYIdxS
namespace Go.Proofs.YtimcdikeajbabaaGreatDoor
open Go.RowKit
set_option maxRecDepth 100000

theorem decd_big {n : Nat} (h : ¬ n < 10) : Lib.decDigits n = Lib.decDigits (n / 10) ++ [UInt8.ofNat (48 + n % 10)] := by rw [Lib.decDigits, dif_neg h]
theorem digval_fin : ∀ d : Fin 10, Lib.digitVal (UInt8.ofNat (48 + d.val)) = some d.val := by decide +kernel
theorem digval {d : Nat} (h : d < 10) : Lib.digitVal (UInt8.ofNat (48 + d)) = some d := digval_fin ⟨d, h⟩
theorem decFrom_snoc {l : List UInt8} {a n d : Nat} {b : UInt8} (h : Lib.decFrom a l = some n) (hb : Lib.digitVal b = some d) : Lib.decFrom a (l ++ [b]) = some (n * 10 + d) := by
  have h1 := Lib.decFrom_take (l ++ [b]) l.length a n b d (by rw [List.take_left]; exact h) (by simp) hb
  rw [List.take_of_length_le (by simp)] at h1
  exact h1
theorem read_decd (n : Nat) : Lib.decFrom 0 (Lib.decDigits n) = some n := by
  induction n using Nat.strongRecOn with
  | _ n ih =>
    by_cases h : n < 10
    · rw [Lib.decDigits_one h, Lib.decFrom, digval h]
      simp [Lib.decFrom]
    · rw [decd_big h, decFrom_snoc (ih (n / 10) (by omega)) (digval (Nat.mod_lt _ (by decide)))]
      congr 1
      omega
theorem read_zeros (l : List UInt8) : ∀ k, Lib.decFrom 0 (List.replicate k 48 ++ l) = Lib.decFrom 0 l
  | 0 => by simp
  | k + 1 => by
    rw [List.replicate_succ, List.cons_append, Lib.decFrom, show Lib.digitVal 48 = some 0 from by decide]
    exact read_zeros l k
theorem wrL_eq (n w : Nat) : wrL n w = List.replicate (w - Lib.nDigits n) 48 ++ Lib.decDigits n := by
  unfold wrL
  rw [Lib.itoa_nonneg, Lib.decDigits_length]
theorem read_wrL (n w : Nat) : Lib.decFrom 0 (wrL n w) = some n := by rw [wrL_eq, read_zeros, read_decd]
theorem val_wrL (n w : Nat) : valL (wrL n w) = n := by unfold valL; rw [read_wrL]; rfl
theorem len_wrL (n w : Nat) : (wrL n w).length = max w (Lib.nDigits n) := by
  rw [wrL_eq, List.length_append, List.length_replicate, Lib.decDigits_length]; omega
theorem digs_of {l : List UInt8} {n : Nat} (h : Lib.decFrom 0 l = some n) : ∀ b ∈ l, digN b.toNat = true := by
  intro b hb
  obtain ⟨k, hk⟩ := List.getElem?_of_mem hb
  obtain ⟨d, hd⟩ := Lib.digit_of_decFrom l 0 n h k b hk
  unfold Lib.digitVal at hd
  split at hd
  · rename_i h2; exact decide_eq_true h2
  · cases hd
theorem digs_wrL (n w : Nat) : ∀ b ∈ wrL n w, digN b.toNat = true := digs_of (read_wrL n w)
/-! Where the last number begins. -/
theorem dgAt_mk (l : List UInt8) (j : Nat) : dgAt (mkB l) j = digN (l.getD j 0).toNat := by unfold dgAt; rw [mkB_list]
theorem tlN_digits (s : ByteArray) (n : Nat) : ∀ k, (∀ j, j < k → dgAt s (n + j) = true) → tlN s (n + k) = tlN s n
  | 0, _ => rfl
  | k + 1, h => by
    rw [show n + (k + 1) = (n + k) + 1 from rfl, tlN, if_pos (h k (Nat.lt_succ_self _))]
    exact tlN_digits s n k fun j hj => h j (by omega)
theorem tail_app (p ds : List UInt8) (hd : ∀ b ∈ ds, digN b.toNat = true) (hp : ∀ q b, p = q ++ [b] → digN b.toNat = false) : tailAt (mkB (p ++ ds)) = p.length := by
  unfold tailAt
  rw [mkB_size, List.length_append, tlN_digits _ p.length ds.length]
  · rcases List.eq_nil_or_concat p with rfl | ⟨q, b, e⟩
    · rfl
    · rw [List.concat_eq_append] at e
      subst e
      rw [List.length_append]
      show tlN _ (q.length + 1) = q.length + 1
      rw [tlN, if_neg]
      rw [dgAt_mk]
      simp only [List.append_assoc, List.getD_eq_getElem?_getD]
      rw [List.getElem?_append_right (Nat.le_refl _)]
      simp [hp q b rfl]
  · intro j hj
    rw [dgAt_mk, List.getD_eq_getElem?_getD, List.getElem?_append_right (by omega), show p.length + j - p.length = j from by omega, List.getElem?_eq_getElem hj]
    exact hd _ (List.getElem_mem _)
theorem pre_app {p ds : List UInt8} (hd : ∀ b ∈ ds, digN b.toNat = true) (hp : ∀ q b, p = q ++ [b] → digN b.toNat = false) : preL (mkB (p ++ ds)) = p := by
  unfold preL; rw [tail_app p ds hd hp, mkB_list, List.take_left]
theorem num_app {p ds : List UInt8} (hd : ∀ b ∈ ds, digN b.toNat = true) (hp : ∀ q b, p = q ++ [b] → digN b.toNat = false) : numT (mkB (p ++ ds)) = valL ds := by
  unfold numT; rw [tail_app p ds hd hp, mkB_list, List.drop_left]
/-- The prefix of a code ends with no digit. -/
theorem pre_end (a : ByteArray) : ∀ q b, preL a = q ++ [b] → digN b.toNat = false := by
  intro q b h
  have hl := congrArg List.length h
  unfold preL at h hl
  rw [List.length_take, len_size, List.length_append] at hl
  have hle := tail_le a
  have ht : tailAt a = q.length + 1 := by simp at hl; omega
  have hd : dgAt a q.length = false := by
    cases hc : dgAt a q.length with
    | false => rfl
    | true =>
      exfalso
      -- the search stopped at a place behind a digit
      have hst : ∀ n, tlN a n = q.length + 1 → q.length + 1 ≤ n → False := by
        intro n
        induction n with
        | zero => intro _ h2; omega
        | succ n ih =>
          intro h1 h2
          rw [tlN] at h1
          split at h1
          · rename_i hdn
            by_cases e : n = q.length
            · have := tlN_le a n; omega
            · exact ih h1 (by omega)
          · rename_i hdn
            have : n = q.length := by omega
            rw [this] at hdn; exact hdn hc
      exact hst a.size ht (by omega)
  rw [ht] at h
  unfold dgAt at hd
  have hb : a.data.toList[q.length]? = some b := by
    have := congrArg (fun l : List UInt8 => l[q.length]?) h
    rw [List.getElem?_take, if_pos (by omega)] at this
    rw [this]; simp
  rw [List.getD_eq_getElem?_getD, hb] at hd
  exact hd
theorem ran_pre (a : ByteArray) (k : Nat) : preL (ranF a k) = preL a := pre_app (digs_wrL _ _) (pre_end a)
theorem ran_num (a : ByteArray) (k : Nat) : numT (ranF a k) = numT a + k := (num_app (digs_wrL _ _) (pre_end a)).trans (val_wrL _ _)
theorem ran_tail (a : ByteArray) (k : Nat) : tailAt (ranF a k) < (ranF a k).size := by
  unfold ranF
  rw [tail_app _ _ (digs_wrL _ _) (pre_end a), mkB_size, List.length_append, len_wrL]
  have := Lib.nDigits_pos (numT a + k)
  omega
/-! Cutting at the first two dots. -/
theorem idx_dots : ∀ (x y : List UInt8), (46 : UInt8) ∉ x → Lib.index (x ++ 46 :: 46 :: y) [46, 46] = x.length
  | [], y, _ => by
    rw [List.nil_append, Lib.index, if_pos (by simp [List.isPrefixOf])]; rfl
  | c :: x, y, h => by
    have hc : ¬ c = 46 := fun e => h (by simp [e])
    have hx : (46 : UInt8) ∉ x := fun e => h (List.mem_cons_of_mem _ e)
    rw [List.cons_append, Lib.index, if_neg (by simp [List.isPrefixOf, Ne.symm hc]), idx_dots x y hx, if_neg (by rw [beq_iff_eq]; omega)]
    rfl
theorem idx_free : ∀ y : List UInt8, (46 : UInt8) ∉ y → Lib.index y [46, 46] = -1
  | [], _ => rfl
  | c :: y, h => by
    have hc : ¬ c = 46 := fun e => h (by simp [e])
    have hy : (46 : UInt8) ∉ y := fun e => h (List.mem_cons_of_mem _ e)
    rw [Lib.index, if_neg (by simp [List.isPrefixOf, Ne.symm hc]), idx_free y hy]
    rfl
theorem cut_dots {x y : List UInt8} (hx : (46 : UInt8) ∉ x) : Lib.cut (x ++ 46 :: 46 :: y) [46, 46] = (x, y, true) := by
  unfold Lib.cut
  rw [idx_dots x y hx, if_pos (by omega), show ((x.length : Int)).toNat = x.length from by omega, List.take_left]
  congr 2
  rw [show x.length + ([46, 46] : List UInt8).length = x.length + 2 from rfl, ← List.drop_drop, List.drop_left]
  rfl
theorem cut_free {y : List UInt8} (hy : (46 : UInt8) ∉ y) : Lib.cut y [46, 46] = (y, [], false) := by
  unfold Lib.cut
  rw [idx_free y hy, if_neg (by omega)]
theorem con_free {y : List UInt8} (hy : (46 : UInt8) ∉ y) : Lib.contains y [46, 46] = false := by
  unfold Lib.contains
  rw [idx_free y hy]; rfl
/-! What a code's bytes are. -/
theorem codeTo_iff (s : ByteArray) : ∀ n, codeTo s n = true ↔ ∀ k, k < n → signN k (s.data.toList.getD k 0).toNat = true
  | 0 => ⟨fun _ k h => by omega, fun _ => rfl⟩
  | n + 1 => by
    rw [codeTo, Bool.and_eq_true, codeTo_iff s n]
    constructor
    · rintro ⟨h1, h2⟩ k hk
      by_cases e : k = n
      · rw [e]; exact h2
      · exact h1 k (by omega)
    · intro h
      exact ⟨fun k hk => h k (by omega), h n (Nat.lt_succ_self _)⟩
theorem code_sign {s : ByteArray} (h : codeB s = true) : ∀ b ∈ s.data.toList, ∃ k, signN k b.toNat = true := by
  have hsz := code_size h
  rw [codeB_yes hsz, codeTo_iff] at h
  intro b hb
  obtain ⟨k, hk⟩ := List.getElem?_of_mem hb
  have hl := (List.getElem?_eq_some_iff.1 hk).1
  rw [len_size] at hl
  refine ⟨k, ?_⟩
  have := h k hl
  rw [List.getD_eq_getElem?_getD, hk] at this
  exact this
theorem code_no46 {s : ByteArray} (h : codeB s = true) : (46 : UInt8) ∉ s.data.toList := by
  intro hb
  obtain ⟨k, hk⟩ := code_sign h 46 hb
  simp [signN, digN, letN, dashN] at hk
theorem code_no59 {s : ByteArray} (h : codeB s = true) : (59 : UInt8) ∉ s.data.toList := by
  intro hb
  obtain ⟨k, hk⟩ := code_sign h 59 hb
  simp [signN, digN, letN, dashN] at hk
theorem dat_inj {X Y : ByteArray} (h : X.data.toList = Y.data.toList) : X = Y := by rw [mkB_of h]; rfl
/-- What the part a..b of a list says. -/
theorem part_ran {a b : ByteArray} (ha : (46 : UInt8) ∉ a.data.toList) (hb : (46 : UInt8) ∉ b.data.toList) (room : Nat) : partV (mkB (a.data.toList ++ 46 :: 46 :: b.data.toList)) room = rangeV a b room := by
  have hc : Lib.cut (mkB (a.data.toList ++ 46 :: 46 :: b.data.toList)).data.toList [46, 46] = (a.data.toList, b.data.toList, true) := by rw [mkB_list]; exact cut_dots ha
  unfold partV
  rw [hc, if_neg, if_pos rfl]
  · rw [← mkB_of (X := a) rfl, ← mkB_of (X := b) rfl]
  · rintro (h | h)
    · rw [mkB_size, List.length_append] at h; simp at h
    · rw [con_free hb] at h; cases h
theorem part_code {p : ByteArray} (h : codeB p = true) (room : Nat) : partV p room = (0, [p]) := by
  have hc := cut_free (code_no46 h)
  unfold partV
  rw [hc, if_neg, if_neg (by simp), if_pos h]
  rintro (h' | h')
  · have := code_size h; omega
  · cases h'
/-- Are the ends of a range. -/
theorem ends_ran {a : ByteArray} {k : Nat} (ht : tailAt a < a.size) : endsB a (ranF a k) = true := by
  refine decide_eq_true ⟨ht, ran_tail a k, (ran_pre a k).symm, by rw [ran_num]; omega, ?_⟩
  rw [ran_num]
  exact (mkB_list _).symm
end Go.Proofs.YtimcdikeajbabaaGreatDoor

namespace Go.Proofs.YtimcdikeajbabaaGreatDoor
open Go.RowKit
set_option maxRecDepth 100000

/-! Digits written in their own width are themselves. -/
theorem wr_snoc (n w : Nat) (hw : 1 ≤ w) : wrL n (w + 1) = wrL (n / 10) w ++ [UInt8.ofNat (48 + n % 10)] := by
  rw [wrL_eq, wrL_eq]
  by_cases h : n < 10
  · obtain ⟨v, rfl⟩ : ∃ v, w = v + 1 := ⟨w - 1, by omega⟩
    rw [Lib.nDigits_small h, Lib.decDigits_one h, show n / 10 = 0 from by omega, Lib.nDigits_small (u := 0) (by decide), Lib.decDigits_one (i := 0) (by decide), Nat.mod_eq_of_lt h]
    simp only [Nat.add_sub_cancel]
    rw [List.replicate_succ', List.append_assoc, List.append_assoc]
    rfl
  · rw [Lib.nDigits_big h, decd_big h, ← List.append_assoc, show w + 1 - (Lib.nDigits (n / 10) + 1) = w - Lib.nDigits (n / 10) from by omega]
theorem byte_back_fin : ∀ b : Fin 256, 48 ≤ b.val → b.val ≤ 57 → UInt8.ofNat (48 + (b.val - 48)) = UInt8.ofNat b.val := by decide +kernel
theorem byte_back {b : UInt8} (h : digN b.toNat = true) : UInt8.ofNat (48 + (b.toNat - 48)) = b := by
  have h := of_decide_eq_true h
  have := byte_back_fin ⟨b.toNat, b.toNat_lt⟩ h.1 h.2
  simpa using this
theorem digval_of {b : UInt8} (h : digN b.toNat = true) : Lib.digitVal b = some (b.toNat - 48) := by unfold Lib.digitVal; rw [if_pos (of_decide_eq_true h)]
theorem dec_val {l : List UInt8} (h : ∀ b ∈ l, digN b.toNat = true) : Lib.decFrom 0 l = some (valL l) := by
  obtain ⟨n, hn, -⟩ := dec_some (l := l) 0 (List.all_eq_true.2 h)
  unfold valL
  rw [hn]; rfl
theorem wr_read : ∀ (k : Nat) (ds : List UInt8), ds.length = k + 1 → (∀ b ∈ ds, digN b.toNat = true) → wrL (valL ds) (k + 1) = ds := by
  intro k
  induction k with
  | zero =>
    intro ds hl hd
    match ds, hl with
    | [b], _ =>
      have hb := hd b (by simp)
      have hv : valL [b] = b.toNat - 48 := by unfold valL; rw [Lib.decFrom, digval_of hb]; simp [Lib.decFrom]
      have h2 := of_decide_eq_true hb
      rw [hv, wrL_eq, Lib.nDigits_small (by omega), Lib.decDigits_one (by omega), byte_back hb]
      rfl
  | succ k ih =>
    intro ds hl hd
    rcases List.eq_nil_or_concat ds with rfl | ⟨es, b, e⟩
    · cases hl
    · rw [List.concat_eq_append] at e
      subst e
      have he : ∀ b ∈ es, digN b.toNat = true := fun x hx => hd x (List.mem_append_left _ hx)
      have hb := hd b (by simp)
      have hv : valL (es ++ [b]) = valL es * 10 + (b.toNat - 48) := by
        have := decFrom_snoc (dec_val he) (digval_of hb)
        unfold valL at this ⊢
        rw [this]; rfl
      have h2 := of_decide_eq_true hb
      have hel : es.length = k + 1 := by rw [List.length_append] at hl; simp at hl; omega
      rw [wr_snoc _ _ (by omega), hv, show (valL es * 10 + (b.toNat - 48)) / 10 = valL es from by omega, show (valL es * 10 + (b.toNat - 48)) % 10 = b.toNat - 48 from by omega, byte_back hb, ih es hel he]
theorem ran_zero {a : ByteArray} (h : tailAt a < a.size) : ranF a 0 = a := by
  unfold ranF
  have hw : (a.data.toList.drop (tailAt a)).length = (widT a - 1) + 1 := by rw [List.length_drop, len_size]; unfold widT; omega
  have hd : ∀ b ∈ a.data.toList.drop (tailAt a), digN b.toNat = true := by
    have := tail_digS a
    unfold digS at this
    rw [ext_list, List.take_of_length_le (by simp), List.all_eq_true] at this
    exact this
  have := wr_read _ _ hw hd
  rw [show widT a - 1 + 1 = widT a from by unfold widT; omega] at this
  rw [Nat.add_zero, show numT a = valL (a.data.toList.drop (tailAt a)) from rfl, this]
  unfold preL
  rw [List.take_append_drop]
  exact (mkB_of rfl).symm
/-! Runs of codes. -/
/-- How many of the codes behind the first one go on with its range, from number j on. -/
def runC (a : ByteArray) : Nat → List ByteArray → Nat
  | _, [] => 0
  | j, b :: r => if b = ranF a j then runC a (j + 1) r + 1 else 0
def runV : List ByteArray → Nat
  | [] => 0
  | a :: r => if tailAt a < a.size then runC a 1 r + 1 else 1
theorem runC_le (a : ByteArray) : ∀ (l : List ByteArray) (j : Nat), runC a j l ≤ l.length
  | [], _ => Nat.le_refl _
  | b :: r, j => by
    rw [runC]
    split
    · exact Nat.succ_le_succ (runC_le a r (j + 1))
    · exact Nat.zero_le _
theorem runC_take (a : ByteArray) : ∀ (l : List ByteArray) (j : Nat), l.take (runC a j l) = (List.range (runC a j l)).map fun i => ranF a (j + i)
  | [], _ => by simp [runC]
  | b :: r, j => by
    rw [runC]
    split
    · rename_i h
      rw [List.take_succ_cons, runC_take a r (j + 1), List.range_succ_eq_map, List.map_cons, List.map_map, h]
      congr 1
      exact List.map_congr_left fun i _ => by
        show ranF a (j + 1 + i) = ranF a (j + (i + 1))
        congr 1; omega
    · rfl
/-- Step by step: the codes so far go on, the next one too or not. -/
theorem runC_next {a : ByteArray} : ∀ {l : List ByteArray} {j k : Nat}, k < runC a j l → l[k]? = some (ranF a (j + k))
  | [], _, k, h => by simp [runC] at h
  | b :: r, j, k, h => by
    rw [runC] at h
    split at h
    · rename_i hb
      cases k with
      | zero => rw [hb]; rfl
      | succ k =>
        have ih := runC_next (a := a) (l := r) (j := j + 1) (k := k) (by omega)
        rw [List.getElem?_cons_succ, ih, show j + 1 + k = j + (k + 1) from by omega]
    · omega
theorem runC_stop {a : ByteArray} : ∀ {l : List ByteArray} {j : Nat} {x : ByteArray}, l[runC a j l]? = some x → x ≠ ranF a (j + runC a j l)
  | [], _, _, h => by simp at h
  | b :: r, j, x, h => by
    rw [runC] at h ⊢
    split at h
    · rename_i hb
      rw [if_pos hb]
      rw [List.getElem?_cons_succ] at h
      have := runC_stop h
      rw [show j + (runC a (j + 1) r + 1) = j + 1 + runC a (j + 1) r from by omega]
      exact this
    · rename_i hb
      rw [if_neg hb]
      obtain rfl := Option.some.inj h
      exact hb
theorem runV_pos {a : ByteArray} {r : List ByteArray} : 1 ≤ runV (a :: r) := by
  rw [runV]; split
  · omega
  · exact Nat.le_refl _
theorem runV_le (l : List ByteArray) : runV l ≤ l.length := by
  match l with
  | [] => exact Nat.le_refl _
  | a :: r =>
    rw [runV]
    split
    · exact Nat.succ_le_succ (runC_le a r 1)
    · simp
theorem runV_take {a : ByteArray} {r : List ByteArray} (h : 3 ≤ runV (a :: r)) : tailAt a < a.size ∧ (a :: r).take (runV (a :: r)) = (List.range (runV (a :: r))).map (ranF a) := by
  rw [runV] at h ⊢
  split at h
  · rename_i ht
    refine ⟨ht, ?_⟩
    rw [if_pos ht, List.take_succ_cons, runC_take, List.range_succ_eq_map, List.map_cons, List.map_map, ran_zero ht]
    congr 1
    exact List.map_congr_left fun i _ => by
      show ranF a (1 + i) = ranF a (i + 1)
      congr 1; omega
  · omega
/-- The text of a range: its two ends. -/
def rangeT (a b : ByteArray) : ByteArray := mkB (a.data.toList ++ 46 :: 46 :: b.data.toList)
/-- The parts of the text of a list, behind some codes that are left out. -/
def pieceS : Nat → List ByteArray → List ByteArray
  | _, [] => []
  | k + 1, _ :: r => pieceS k r
  | 0, a :: r => if 3 ≤ runV (a :: r) then rangeT a ((a :: r).getD (runV (a :: r) - 1) ⟨#[]⟩) :: pieceS (runV (a :: r) - 1) r else a :: pieceS 0 r
theorem pieceS_drop : ∀ (k : Nat) (l : List ByteArray), pieceS k l = pieceS 0 (l.drop k)
  | 0, _ => rfl
  | k + 1, [] => by simp [pieceS]
  | k + 1, _ :: r => by rw [pieceS, List.drop_succ_cons]; exact pieceS_drop k r
theorem piece_run {a : ByteArray} {r : List ByteArray} (h : 3 ≤ runV (a :: r)) : pieceS 0 (a :: r) = rangeT a ((a :: r).getD (runV (a :: r) - 1) ⟨#[]⟩) :: pieceS 0 ((a :: r).drop (runV (a :: r))) := by
  rw [pieceS, if_pos h, pieceS_drop]
  congr 2
  obtain ⟨k, hk⟩ : ∃ k, runV (a :: r) = k + 1 := ⟨runV (a :: r) - 1, by omega⟩
  rw [hk]; rfl
theorem piece_one {a : ByteArray} {r : List ByteArray} (h : ¬ 3 ≤ runV (a :: r)) : pieceS 0 (a :: r) = a :: pieceS 0 r := by rw [pieceS, if_neg h]
/-- What is wrong with code j of a list. -/
def jE (l : List ByteArray) (j : Nat) : Nat := if codeB (l.getD j ⟨#[]⟩) = false then 10 else if 0 ≤ idxS (l.getD j ⟨#[]⟩) (l.take j) then 11 else 0
def jErr (l : List ByteArray) : Nat → Nat
  | 0 => 0
  | n + 1 => if jErr l n ≠ 0 then jErr l n else jE l n
theorem jErr_next {l : List ByteArray} {j : Nat} (h0 : jErr l j = 0) : jErr l (j + 1) = jE l j := by rw [jErr, if_neg (by rw [h0]; simp)]
theorem jErr_hit {l : List ByteArray} {j : Nat} (h0 : jErr l j = 0) (h : jE l j ≠ 0) : ∀ n, j < n → jErr l n = jE l j
  | 0, hj => by omega
  | n + 1, hj => by
    by_cases e : j = n
    · subst e; exact jErr_next h0
    · have ih := jErr_hit h0 h n (by omega)
      rw [jErr, if_pos (by rw [ih]; exact h), ih]
theorem jErr_all {l : List ByteArray} : ∀ {n : Nat}, jErr l n = 0 → ∀ j, j < n → jE l j = 0
  | 0, _, j, hj => by omega
  | n + 1, h, j, hj => by
    by_cases h0 : jErr l n = 0
    · by_cases e : j = n
      · subst e; rw [← jErr_next h0]; exact h
      · exact jErr_all h0 j (by omega)
    · rw [jErr, if_pos h0] at h; exact absurd h h0
/-- What a list of codes is joined to: the error's number, the text. -/
def joinV (l : List ByteArray) : Nat × ByteArray := if 64 < l.length then (2, ⟨#[]⟩) else if jErr l l.length ≠ 0 then (jErr l l.length, ⟨#[]⟩) else (0, mkB (Lib.join ((pieceS 0 l).map (·.data.toList)) [59]))
theorem jErr_code {l : List ByteArray} (h : jErr l l.length = 0) : ∀ x ∈ l, codeB x = true := by
  intro x hx
  obtain ⟨j, hj⟩ := List.getElem?_of_mem hx
  have hl := (List.getElem?_eq_some_iff.1 hj).1
  have := jErr_all h j hl
  unfold jE at this
  rw [List.getD_eq_getElem?_getD, hj] at this
  cases hc : codeB x with
  | true => rfl
  | false => rw [show (some x).getD (⟨#[]⟩ : ByteArray) = x from rfl, hc, if_pos rfl] at this; cases this
/-! Listed again. -/
theorem piece_mem : ∀ (n : Nat) (l : List ByteArray), l.length ≤ n → (∀ x ∈ l, codeB x = true) → ∀ p ∈ pieceS 0 l, (59 : UInt8) ∉ p.data.toList ∧ p.data.toList ≠ []
  | _, [], _, _, p, hp => by simp [pieceS] at hp
  | 0, _ :: _, hn, _, _, _ => by simp at hn
  | n + 1, a :: r, hn, hc, p, hp => by
    have ha := hc a (by simp)
    by_cases h : 3 ≤ runV (a :: r)
    · rw [piece_run h] at hp
      rcases List.mem_cons.1 hp with rfl | hp
      · have hb : codeB ((a :: r).getD (runV (a :: r) - 1) ⟨#[]⟩) = true := by
          have hl := runV_le (a :: r)
          rw [List.getD_eq_getElem?_getD, List.getElem?_eq_getElem (by omega)]
          exact hc _ (List.getElem_mem _)
        unfold rangeT
        rw [mkB_list]
        refine ⟨fun h => ?_, by simp⟩
        rcases List.mem_append.1 h with h | h
        · exact code_no59 ha h
        · rcases List.mem_cons.1 h with h | h
          · cases h
          · rcases List.mem_cons.1 h with h | h
            · cases h
            · exact code_no59 hb h
      · exact piece_mem n _ (by rw [List.length_drop]; simp at hn ⊢; omega) (fun x hx => hc x (List.mem_of_mem_drop hx)) p hp
    · rw [piece_one h] at hp
      rcases List.mem_cons.1 hp with rfl | hp
      · refine ⟨code_no59 ha, fun e => ?_⟩
        have := code_size ha
        rw [← len_size, e] at this
        simp at this
      · exact piece_mem n r (by simpa using hn) (fun x hx => hc x (List.mem_cons_of_mem _ hx)) p hp
theorem last_run {a : ByteArray} {r : List ByteArray} (h : 3 ≤ runV (a :: r)) : (a :: r).getD (runV (a :: r) - 1) ⟨#[]⟩ = ranF a (runV (a :: r) - 1) := by
  have h2 := (runV_take h).2
  have h3 := congrArg (fun l : List ByteArray => l[runV (a :: r) - 1]?) h2
  simp only [List.getElem?_take, List.getElem?_map] at h3
  rw [if_pos (by omega), List.getElem?_range (by omega)] at h3
  rw [List.getD_eq_getElem?_getD, h3]
  rfl
theorem listF_join : ∀ (n : Nat) (r out : List ByteArray), r.length ≤ n → (∀ x ∈ r, codeB x = true) → (out ++ r).length ≤ 64 → (out ++ r).Nodup → listF out (pieceS 0 r) = (0, out ++ r)
  | _, [], out, _, _, _, hn => by
    rw [List.append_nil] at hn ⊢
    rw [show pieceS 0 [] = [] from rfl, listF, if_pos hn]
  | 0, _ :: _, _, hl, _, _, _ => by simp at hl
  | n + 1, a :: r, out, hl, hc, h64, hn => by
    have ha := hc a (by simp)
    rw [List.length_append] at h64
    by_cases h : 3 ≤ runV (a :: r)
    · have hle := runV_le (a :: r)
      obtain ⟨ht, htake⟩ := runV_take h
      have hlast := last_run h
      have hb : codeB (ranF a (runV (a :: r) - 1)) = true := by
        rw [← hlast, List.getD_eq_getElem?_getD, List.getElem?_eq_getElem (by omega)]
        exact hc _ (List.getElem_mem _)
      have hp : partV (rangeT a (ranF a (runV (a :: r) - 1))) (64 - out.length) = (0, (a :: r).take (runV (a :: r))) := by
        unfold rangeT
        rw [part_ran (code_no46 ha) (code_no46 hb)]
        unfold rangeV
        rw [if_pos ⟨ha, hb⟩, if_pos (ends_ran ht), ran_num, if_neg (by omega), htake, show numT a + (runV (a :: r) - 1) - numT a + 1 = runV (a :: r) from by omega]
      rw [piece_run h, hlast, listF, hp, if_neg (by simp), if_neg (by rw [List.length_append, List.length_take]; omega),
        listF_join n _ _ (by rw [List.length_drop]; simp at hl ⊢; omega) (fun x hx => hc x (List.mem_of_mem_drop hx)) (by rw [List.append_assoc, List.take_append_drop, List.length_append]; exact h64) (by rw [List.append_assoc, List.take_append_drop]; exact hn), List.append_assoc, List.take_append_drop]
    · simp only [List.length_cons] at h64
      rw [piece_one h, listF, part_code ha, if_neg (by simp), if_neg (by rw [List.length_append]; simp; omega),
        listF_join n r _ (by simpa using hl) (fun x hx => hc x (List.mem_cons_of_mem _ hx)) (by rw [List.append_assoc, List.length_append]; simp; omega) (by rw [List.append_assoc]; exact hn), List.append_assoc]
      rfl
theorem list_join {l : List ByteArray} (h64 : l.length ≤ 64) (hc : ∀ x ∈ l, codeB x = true) (hn : l.Nodup) : listV (mkB (Lib.join ((pieceS 0 l).map (·.data.toList)) [59])) = (0, l) := by
  have hm := piece_mem _ l (Nat.le_refl _) hc
  match l, h64, hc, hn, hm with
  | [], _, _, _, _ => rfl
  | a :: r, h64, hc, hn, hm =>
    have hp := parts_join (pieceS 0 (a :: r)) (fun x hx => (hm x hx).1) (fun x hx => (hm x hx).2)
    have hne : pieceS 0 (a :: r) ≠ [] := by
      by_cases h : 3 ≤ runV (a :: r)
      · rw [piece_run h]; simp
      · rw [piece_one h]; simp
    have h0 : (mkB (Lib.join ((pieceS 0 (a :: r)).map (·.data.toList)) [59])).size ≠ 0 := by
      rw [mkB_size]
      intro e
      exact join59_ne _ (by simpa using hne) (fun x hx => by
        obtain ⟨p, hp, rfl⟩ := List.mem_map.1 hx
        exact (hm p hp).2) (List.eq_nil_of_length_eq_zero e)
    unfold listV
    rw [if_neg h0]
    have hp' : partsOf (mkB (Lib.join ((pieceS 0 (a :: r)).map (·.data.toList)) [59])) = pieceS 0 (a :: r) := hp
    rw [hp']
    exact listF_join _ (a :: r) [] (Nat.le_refl _) hc (by simpa using h64) (by simpa using hn)
end Go.Proofs.YtimcdikeajbabaaGreatDoor
