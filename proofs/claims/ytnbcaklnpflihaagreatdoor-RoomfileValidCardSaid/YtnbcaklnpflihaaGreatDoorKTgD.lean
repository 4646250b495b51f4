/- Walks of package weekset, on: Parse. Conditions: texts shorter than 2^30 bytes. Walks of package timegrid, on: numbers, slots, names of days. Conditions: texts shorter than 2^30 bytes. -/
import Derived.Test.YtnbcaklnpflihaaGreatDoorKWsC
import Derived.Test.YtnbcaklnpflihaaGreatDoorKPlain
import Derived.Test.YtnbcaklnpflihaaGreatDoorKTgC
namespace Go.Proofs.YtnbcaklnpflihaaGreatDoor
open Go.RowKit

/-- The sets of items joined, and the first error. -/
def itemsV (n : Nat) : List (List UInt8) → Nat → Nat × Nat
  | [], acc => if acc = 0 then (0, 16) else (acc, 0)
  | x :: r, acc => if (itemV x n).2 = 0 then itemsV n r (acc ||| (itemV x n).1) else (0, (itemV x n).2)
/-- The items of a text. -/
def itemsOf (s : ByteArray) : List ByteArray := Lib.splitB ⟨#[44]⟩ 0 (Lib.countB s ⟨#[44]⟩) s
def parseV (s : ByteArray) (n : Int) : Nat × Nat :=
  if n < 1 ∨ 20 < n then (0, 3) else itemsV n.toNat ((itemsOf s).map (·.data.toList)) 0

theorem spanN_lt (a b : Nat) (h : b ≤ 20) : spanN a b < 1048576 := by
  have h1 := maskTo_lt (spanP a) b
  have h2 := pow_small b h
  unfold spanN; omega
theorem everyN_lt (a b : Nat) (h : b ≤ 20) : everyN a b < 1048576 := by
  have h1 := maskTo_lt (everyP a) b
  have h2 := pow_small b h
  unfold everyN; omega
theorem wordVal_lt (n k : Nat) (hn : n ≤ 20) : wordVal n k < 1048576 := by
  unfold wordVal
  split
  · exact spanN_lt _ _ hn
  · exact everyN_lt _ _ hn
  · exact everyN_lt _ _ hn
  · exact spanN_lt _ _ (by omega)
  · exact spanN_lt _ _ hn
theorem itemR_lt (x z : List UInt8) (n : Nat) (hn : n ≤ 20) : (itemR x z n).1 < 1048576 ∧ (itemR x z n).2 ≤ 4 := by
  unfold itemR
  by_cases h2 : numOk x = false ∨ numOk z = false
  · rw [if_pos h2]; exact ⟨by simp, by simp⟩
  · rw [if_neg h2]
    by_cases h3 : n < numV x ∨ n < numV z ∨ numV z < numV x
    · rw [if_pos h3]; exact ⟨by simp, by simp⟩
    · rw [if_neg h3]; exact ⟨spanN_lt _ _ (by omega), by simp⟩
theorem itemV_lt (l : List UInt8) (n : Nat) (hn : n ≤ 20) : (itemV l n).1 < 1048576 ∧ (itemV l n).2 ≤ 4 := by
  unfold itemV
  by_cases h1 : wordIdx l < 5
  · rw [if_pos h1]; exact ⟨wordVal_lt _ _ hn, by simp⟩
  · rw [if_neg h1]; exact itemR_lt _ _ _ hn
theorem or_lt (a b : Nat) (ha : a < 1048576) (hb : b < 1048576) : a ||| b < 1048576 := by
  have := Nat.or_lt_two_pow (n := 20) (by simpa using ha) (by simpa using hb)
  simpa using this
theorem itemsV_cons (n : Nat) (x : List UInt8) (r : List (List UInt8)) (acc : Nat) : itemsV n (x :: r) acc = if (itemV x n).2 = 0 then itemsV n r (acc ||| (itemV x n).1) else (0, (itemV x n).2) := rfl

set_option maxHeartbeats 800000 in
theorem wsParse_walk (s : ByteArray) (n : Int) (hs : s.size < 1073741824) (w : World) (hS : Std w) :
    Calls Tryz.prog 114 #[.string s, .int .i64 n] w fun e w' => e = .returned (.tuple #[.int .i64 (parseV s n).1, .int .i64 (parseV s n).2]) ∧ Below w.heap.size w w' := by
  by_cases hn : n < 1 ∨ 20 < n
  · rw [show parseV s n = (0, 3) from if_pos hn]
    go_enter Tryz.func114, Tryz.ntmps114
    go_wp2
    all_goals try (exfalso; omega)
    all_goals go_ret2
    all_goals exact ⟨rfl, Below.refl _ _⟩
  · have h1 : 1 ≤ n := by omega
    have h2 : n ≤ 20 := by omega
    rw [show parseV s n = itemsV n.toNat ((itemsOf s).map (·.data.toList)) 0 from if_neg hn]
    clear hn
    obtain ⟨m, hm⟩ := hS.maxLen
    obtain ⟨v, hv⟩ : ∃ v, itemsV n.toNat ((itemsOf s).map (·.data.toList)) 0 = v := ⟨_, rfl⟩
    rw [hv]
    have hv := hide hv
    have hlen : (itemsOf s).length = Lib.countB s ⟨#[44]⟩ + 1 := splitB_len 44 s
    have hsz : ∀ x ∈ itemsOf s, x.size ≤ s.size := fun x hx => by
      have h1 : x.data.toList ∈ splitOn1 44 s.data.toList := by rw [← splitB_one]; exact List.mem_map.2 ⟨x, hx, rfl⟩
      have := (splitOn1_mem 44 _ _ h1).1
      rwa [ba_len, ba_len] at this
    have hcl : Lib.countB s ⟨#[44]⟩ ≤ s.size := Lib.countB_le ⟨#[44]⟩ (Nat.le_refl 1) _ s (Nat.le_refl _)
    obtain ⟨n, rfl⟩ := Int.eq_ofNat_of_zero_le (by omega : 0 ≤ n)
    rw [Int.toNat_natCast] at hv
    have hlen := hide hlen
    go_enter Tryz.func114, Tryz.ntmps114
    go_wp2_with (go_at_call 107; refine (Tryz.strings_Split s _ m _ (by omega) hm (by decide)).mono ?_; rintro e w' ⟨rfl, rfl⟩)
    go_loopw [6, 20] (fun a i wr => ∃ k acc : Nat, k ≤ Lib.countB s ⟨#[44]⟩ + 1 ∧ acc < 1048576 ∧ i = .int .i64 k ∧ a = .int .i64 acc ∧ itemsV n (((itemsOf s).map (·.data.toList)).drop k) acc = v ∧ Below (w.heap.size + 1) (w.alloc (.cells ((itemsOf s).map Value.string).toArray 9)) wr) (fun _ i _ => (Lib.countB s ⟨#[44]⟩ + 1 - (intOf i).toNat))
    case atStart => exact ⟨0, 0, Nat.zero_le _, by omega, rfl, rfl, hv.out, Below.refl _ _⟩
    case round =>
      obtain ⟨k, acc, hk, hacc, rfl, rfl, hvv, hb⟩ := hrel
      have hb0 : Below w.heap.size w wr := ((Below.refl _ _).alloc (Nat.le_refl _) _).trans (hb.mono (by omega))
      have hS1 := hS.after hb0
      by_cases hlt : k < Lib.countB s ⟨#[44]⟩ + 1
      · obtain ⟨x, hx⟩ : ∃ x, (itemsOf s)[k]? = some x := ⟨_, List.getElem?_eq_getElem (by rw [hlen.out]; exact hlt)⟩
        have hxm := hsz x (List.mem_of_getElem? hx)
        have hcell : wr.cell? ⟨w.heap.size, k, none⟩ = some (.string x) := (hb.cell (p := ⟨w.heap.size, k, none⟩) (by simp)).trans (by simp [hx])
        have hd : ((itemsOf s).map (·.data.toList)).drop k = x.data.toList :: ((itemsOf s).map (·.data.toList)).drop (k + 1) := by
          rw [List.drop_eq_getElem_cons (by simpa using (List.getElem?_eq_some_iff.1 hx).1)]
          congr 1
          simp [(List.getElem?_eq_some_iff.1 hx).2]
        rw [hd, itemsV_cons] at hvv
        have hil := itemV_lt x.data.toList n (by omega)
        obtain ⟨q, hq⟩ : ∃ q, itemV x.data.toList n = q := ⟨_, rfl⟩
        rw [hq] at hvv hil
        have hq := hide hq
        clear hd hx hsz hv hm
        by_cases he : q.2 = 0
        · rw [if_pos he] at hvv
          have hor := hide (i64_or_nat acc q.1 (by omega) (by omega))
          have hol := or_lt acc q.1 hacc hil.1
          have hvv := hide hvv
          have he' : ((q.2 : Int) != 0) = false := by simp [he]
          have he := hide he
          go_wp2_with fail
          refine (item_walk x n (by omega) (by omega) (by omega) _ hS1).mono ?_
          rintro e w1 ⟨rfl, hb1⟩
          rw [Int.toNat_natCast, hq.out]
          go_wp2
          go_roundw
          case rel => exact ⟨k + 1, acc ||| q.1, hlt, hol, by go_num, by rw [hor.out], hvv.out, hb.trans (hb1.mono (by simpa using hb.size))⟩
          case measure => simp [intOf]; omega
        · rw [if_neg he] at hvv
          have hvv := hide hvv
          have he' : ((q.2 : Int) != 0) = true := by simp [he]
          have he := hide he
          go_wp2_with fail
          refine (item_walk x n (by omega) (by omega) (by omega) _ hS1).mono ?_
          rintro e w1 ⟨rfl, hb1⟩
          rw [Int.toNat_natCast, hq.out]
          go_wp2
          go_ret2
          exact ⟨ret_ii (by rw [← hvv.out]; rfl) (by rw [← hvv.out]), hb0.trans (hb1.mono hb0.size)⟩
      · have hke : k = Lib.countB s ⟨#[44]⟩ + 1 := by omega
        have hnil : itemsV n [] acc = v := by
          rw [← hvv, List.drop_eq_nil_of_le (by rw [List.length_map, hlen.out]; omega)]
        clear hvv hke hv hsz
        by_cases ha : acc = 0
        · have hfin : Hid (v = (0, 16)) := by rw [← hnil]; exact if_pos ha
          clear hnil
          subst ha
          go_wp2
          go_ret2
          exact ⟨ret_ii (by rw [hfin.out]; rfl) (by rw [hfin.out]; rfl), hb0⟩
        · have hfin : Hid (v = (acc, 0)) := by rw [← hnil]; exact if_neg ha
          have ha' : ((acc : Int) == 0) = false := by simp [ha]
          clear hnil
          go_wp2
          go_ret2
          exact ⟨ret_ii (by rw [hfin.out]) (by rw [hfin.out]; rfl), hb0⟩
end Go.Proofs.YtnbcaklnpflihaaGreatDoor

namespace Go.Proofs.YtnbcaklnpflihaaGreatDoor
open Go.RowKit

set_option maxHeartbeats 400000 in
theorem tnumber_yes (s : ByteArray) (n : Nat) (h : numL s.data.toList = some n) (w : World) :
    Calls Tryz.prog 150 #[.string s] w fun e w' => e = .returned (.tuple #[.int .i64 n, .bool true]) ∧ Below w.heap.size w w' := by
  obtain ⟨hl, ⟨a, ha, h1, h2⟩, _, _, hat⟩ := numL_parts h
  rw [ba_len] at hl
  have h0 : 0 < s.size := by
    rw [← ba_len]; exact (List.getElem?_eq_some_iff.1 ha).1
  rw [ba_at0 s h0] at ha
  obtain rfl := Option.some.inj ha
  have hat := hide hat
  clear h ha
  go_enter Tryz.func150, Tryz.ntmps150
  go_wp2_with (go_at_call 103; refine (Tryz.strconv_Atoi s n (by omega) hat.out _).mono ?_; rintro e w' ⟨rfl, t, rfl⟩)
  go_quiet (fail)
  go_wp2
  go_ret2
  exact ⟨rfl, below_drewN (Joins.below_bytesWorld _ _ _ _ (Nat.le_refl _)) _⟩

set_option maxHeartbeats 400000 in
theorem tnumber_no (s : ByteArray) (h : numL s.data.toList = none) (w : World) (hS : Std w) :
    Calls Tryz.prog 150 #[.string s] w fun e w' => e = .returned (.tuple #[.int .i64 0, .bool false]) ∧ Below w.heap.size w w' := by
  by_cases h0 : 1 ≤ s.size ∧ s.size ≤ 2
  · obtain ⟨h0, hl⟩ := h0
    have h0' : 0 < s.size := h0
    by_cases h1 : 49 ≤ (s[0]'h0').toNat ∧ (s[0]'h0').toNat ≤ 57
    · obtain ⟨h1, h2⟩ := h1
      have hat := hide (atoi_none (by rw [ba_len]; exact hl) _ (ba_at0 s h0') h1 h2 h)
      clear h
      obtain ⟨te, pe, hv⟩ := hS.errSyntax
      go_enter Tryz.func150, Tryz.ntmps150
      go_wp2_with (go_at_call 103; refine (Tryz.strconv_Atoi_err s (by omega) hat.out _ _ hv (Or.inr ⟨te, pe, rfl⟩)).mono ?_; rintro e w' ⟨N, rfl, hN, hc, hb⟩)
      all_goals try (exfalso; omega)
      go_quiet (fail)
      go_wp2
      go_ret2
      exact ⟨rfl, below_drewN hb _⟩
    · clear h
      go_enter Tryz.func150, Tryz.ntmps150
      go_wp2
      all_goals try (exfalso; omega)
      all_goals go_ret2
      all_goals exact ⟨rfl, Below.refl _ _⟩
  · clear h
    go_enter Tryz.func150, Tryz.ntmps150
    go_wp2
    all_goals try (exfalso; omega)
    all_goals go_ret2
    all_goals exact ⟨rfl, Below.refl _ _⟩

theorem tnumber_any (l : List UInt8) (w : World) (hS : Std w) :
    Calls Tryz.prog 150 #[.string ⟨l.toArray⟩] w fun e w' => e = .returned (.tuple #[.int .i64 (numV l), .bool (numOk l)]) ∧ Below w.heap.size w w' := by
  cases h : numL l with
  | some n => 
    rw [show numV l = n from by simp [numV, h], show numOk l = true from by simp [numOk, h]]
    exact tnumber_yes ⟨l.toArray⟩ n (by simpa using h) w
  | none =>
    rw [show numV l = 0 from by simp [numV, h], show numOk l = false from by simp [numOk, h]]
    exact tnumber_no ⟨l.toArray⟩ (by simpa using h) w hS


/-- strings.Split at one byte, with its pieces named. -/
theorem split_walk (c : UInt8) (s : ByteArray) (zs : List ByteArray) (hz : Lib.splitB ⟨#[c]⟩ 0 (Lib.countB s ⟨#[c]⟩) s = zs) (hs : s.size < 4294967281) (w : World) (hS : Std w) :
    Calls Tryz.prog 107 #[.string s, .string ⟨#[c]⟩] w fun e w' => e = .returned (.slice (some ⟨w.heap.size, 0, none⟩) zs.length zs.length) ∧ w.alloc (.cells (zs.map Value.string).toArray 9) = w' := by
  obtain ⟨m, hm⟩ := hS.maxLen
  refine (Tryz.strings_Split s ⟨#[c]⟩ m w hs hm (Nat.le_refl 1)).mono fun e w' ⟨he, hw⟩ => ?_
  have hl := splitB_len c s
  rw [hz] at hl hw
  rw [he, hw, hl]
  exact ⟨rfl, rfl⟩

/-- The same with the new world closed: what its block holds. -/
theorem split_walk' (c : UInt8) (s : ByteArray) (zs : List ByteArray) (hz : Lib.splitB ⟨#[c]⟩ 0 (Lib.countB s ⟨#[c]⟩) s = zs) (hs : s.size < 4294967281) (w : World) (hS : Std w) :
    Calls Tryz.prog 107 #[.string s, .string ⟨#[c]⟩] w fun e w' => e = .returned (.slice (some ⟨w.heap.size, 0, none⟩) zs.length zs.length) ∧ Below w.heap.size w w' ∧ ∀ j z, zs[j]? = some z → w'.cell? ⟨w.heap.size, j, none⟩ = some (.string z) := by
  refine (split_walk c s zs hz hs w hS).mono fun e w' ⟨he, hw⟩ => ⟨he, ?_, ?_⟩
  · subst hw; exact ext_alloc (Below.refl _ _) _
  · subst hw
    intro j z hj
    simp [hj]

/-- Two numbers with a sign between, or one. -/
def slotsZ (l : List UInt8) : List UInt8 := if (Lib.cut l [45]).2.2 then (Lib.cut l [45]).2.1 else (Lib.cut l [45]).1
def slotsFrom (l : List UInt8) : Nat := numV (Lib.cut l [45]).1
def slotsTo (l : List UInt8) : Nat := numV (slotsZ l)
def slotsOk (l : List UInt8) : Bool := numOk (Lib.cut l [45]).1 && numOk (slotsZ l)
set_option maxHeartbeats 800000 in
theorem slots_walk (s : ByteArray) (hs : s.size < 4294967281) (w : World) (hS : Std w) :
    Calls Tryz.prog 113 #[.string s] w fun e w' => e = .returned (.tuple #[.int .i64 (slotsFrom s.data.toList), .int .i64 (slotsTo s.data.toList), .bool (slotsOk s.data.toList)]) ∧ Below w.heap.size w w' := by
  obtain ⟨x, y, t, hc⟩ : ∃ x y t, Lib.cut s.data.toList [45] = (x, y, t) := ⟨_, _, _, rfl⟩
  unfold slotsFrom slotsTo slotsOk slotsZ
  rw [hc]
  have hc := hide hc
  cases t with
  | true =>
    dsimp only
    rw [if_pos rfl]
    cases hx : numOk x
    all_goals
      go_enter Tryz.func113, Tryz.ntmps113
      go_wp2_with fail
      refine (cut_walk s _ x y true hs _ hS hc.out).mono ?_
      rintro e w1 ⟨rfl, hb1⟩
      have hS1 := hS.after hb1
      go_wp2_with fail
      refine (tnumber_any _ _ hS1).mono ?_
      rintro e w2 ⟨rfl, hb2⟩
      have hS2 := hS1.after hb2
      go_wp2_with fail
      refine (tnumber_any _ _ hS2).mono ?_
      rintro e w3 ⟨rfl, hb3⟩
      go_wp2
      go_ret3
      exact ⟨rfl, (by repeat (first | exact Below.refl _ _ | refine ext_alloc ?_ _ | refine ext_drewN ?_ _ | refine ext_drew ?_ | refine ext_trans ?_ (by assumption)))⟩
  | false =>
    dsimp only
    rw [if_neg (by simp)]
    cases hx : numOk x
    all_goals
      go_enter Tryz.func113, Tryz.ntmps113
      go_wp2_with fail
      refine (cut_walk s _ x y false hs _ hS hc.out).mono ?_
      rintro e w1 ⟨rfl, hb1⟩
      have hS1 := hS.after hb1
      go_wp2_with fail
      refine (tnumber_any _ _ hS1).mono ?_
      rintro e w2 ⟨rfl, hb2⟩
      have hS2 := hS1.after hb2
      go_wp2_with fail
      refine (tnumber_any _ _ hS2).mono ?_
      rintro e w3 ⟨rfl, hb3⟩
      go_wp2
      go_ret3
      exact ⟨rfl, (by repeat (first | exact Below.refl _ _ | refine ext_alloc ?_ _ | refine ext_drewN ?_ _ | refine ext_drew ?_ | refine ext_trans ?_ (by assumption)))⟩

def dayNames : List ByteArray := [⟨#[77, 111]⟩, ⟨#[84, 117]⟩, ⟨#[87, 101]⟩, ⟨#[84, 104]⟩, ⟨#[70, 114]⟩, ⟨#[83, 97]⟩, ⟨#[83, 117]⟩]
theorem names_walk (w : World) :
    Calls Tryz.prog 128 #[] w fun e w' => e = .returned (.slice (some ⟨w.heap.size, 0, none⟩) 7 7) ∧ w.alloc (.cells (dayNames.map Value.string).toArray 9) = w' := by
  go_enter Tryz.func128, Tryz.ntmps128
  go_wp2
  go_ret
  exact ⟨rfl, rfl⟩
/-- Which day a name is; -1: none. -/
def dayI (x : ByteArray) : Int := Lib.idxOfS dayNames x
theorem idxFromS_bd (x : ByteArray) : ∀ (zs : List ByteArray) (i : Nat), -1 ≤ Lib.idxFromS zs x i ∧ Lib.idxFromS zs x i < i + zs.length ∨ Lib.idxFromS zs x i = -1
  | [], _ => Or.inr rfl
  | z :: zs, i => by
    unfold Lib.idxFromS
    by_cases h : z = x
    · rw [if_pos h]; simp; omega
    · rw [if_neg h]
      have := idxFromS_bd x zs (i + 1)
      simp only [List.length_cons]
      omega
theorem dayI_bd (x : ByteArray) : -1 ≤ dayI x ∧ dayI x ≤ 6 := by
  have h := idxFromS_bd x dayNames 0
  have hl : dayNames.length = 7 := rfl
  rw [hl] at h
  unfold dayI Lib.idxOfS
  omega
theorem day_cells (w : World) (j : Nat) (hj : j < dayNames.length) : (w.alloc (.cells (dayNames.map Value.string).toArray 9)).cell? ⟨w.heap.size, 0 + j, none⟩ = some (.string (dayNames.getD j ByteArray.empty)) := by
  have hl : dayNames.length = 7 := rfl
  simp only [Nat.zero_add]
  have h : ∀ l : List ByteArray, j < l.length → (w.alloc (.cells (l.map Value.string).toArray 9)).cell? ⟨w.heap.size, j, none⟩ = some (.string (l.getD j ByteArray.empty)) := by
    intro l hl
    simp [hl]
  exact h dayNames hj
set_option maxHeartbeats 800000 in
theorem day_walk (x : ByteArray) (w : World) :
    Calls Tryz.prog 112 #[.string x] w fun e w' => e = .returned (.tuple #[.int .i64 (max (dayI x) 0), .bool (decide (0 ≤ dayI x))]) ∧ Below w.heap.size w w' := by
  have hd := dayI_bd x
  obtain ⟨hd1, hd2⟩ := hd
  go_enter Tryz.func112, Tryz.ntmps112
  go_wp2_with fail
  refine (names_walk _).mono ?_
  rintro e w1 ⟨rfl, rfl⟩
  go_wp2_with fail
  refine (Tryz.slices_Index_string w.heap.size 0 7 7 dayNames x _ (by decide) (by omega) (day_cells w)).mono ?_
  rintro e w1 ⟨rfl, rfl⟩
  rw [show dayNames.take 7 = dayNames from rfl, show Lib.idxOfS dayNames x = dayI x from rfl]
  go_wp2
  go_ret2
  exact ⟨ret_ib (by omega) rfl, (by repeat (first | exact Below.refl _ _ | refine ext_alloc ?_ _ | refine ext_drewN ?_ _ | refine ext_drew ?_ | refine ext_trans ?_ (by assumption)))⟩

theorem day_no (x : ByteArray) (h : dayI x < 0) (w : World) :
    Calls Tryz.prog 112 #[.string x] w fun e w' => e = .returned (.tuple #[.int .i64 0, .bool false]) ∧ Below w.heap.size w w' := by
  refine (day_walk x w).mono fun e w' ⟨he, hb⟩ => ⟨?_, hb⟩
  rw [he, show max (dayI x) 0 = 0 from by omega, decide_eq_false (by omega)]
theorem day_yes (x : ByteArray) (h : 0 ≤ dayI x) (w : World) :
    Calls Tryz.prog 112 #[.string x] w fun e w' => e = .returned (.tuple #[.int .i64 (dayI x), .bool true]) ∧ Below w.heap.size w w' := by
  refine (day_walk x w).mono fun e w' ⟨he, hb⟩ => ⟨?_, hb⟩
  rw [he, show max (dayI x) 0 = dayI x from by omega, decide_eq_true (by omega)]
set_option maxHeartbeats 800000 in
theorem name_walk (k : Nat) (hk : k < 7) (w : World) :
    Calls Tryz.prog 91 #[.int .i64 (k : Int)] w fun e w' => e = .returned (.string (dayNames.getD k ByteArray.empty)) ∧ Below w.heap.size w w' := by
  have hcell := day_cells w k hk
  rw [Nat.zero_add] at hcell
  obtain ⟨W, hW⟩ : ∃ W, w.alloc (.cells (dayNames.map Value.string).toArray 9) = W := ⟨_, rfl⟩
  rw [hW] at hcell
  have hb : Below w.heap.size w W := by rw [← hW]; exact (by repeat (first | exact Below.refl _ _ | refine ext_alloc ?_ _ | refine ext_drewN ?_ _ | refine ext_drew ?_ | refine ext_trans ?_ (by assumption)))
  have hW := hide hW
  go_enter Tryz.func91, Tryz.ntmps91
  go_wp2_with fail
  refine (names_walk _).mono ?_
  rintro e w1 ⟨rfl, hw1⟩
  obtain rfl := hw1.symm.trans hW.out
  clear hW hw1
  go_wp2
  go_ret
  exact ⟨rfl, hb⟩
end Go.Proofs.YtnbcaklnpflihaaGreatDoor
