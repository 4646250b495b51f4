/- Walks of package weekset, on: Parse. Conditions: texts shorter than 2^30 bytes. -/
import Derived.Test.YtdnnahdafhddlaaGreatDoorYWsC
import Derived.Test.YtdnnahdafhddlaaGreatDoorYPlain
namespace Go.Proofs.YtdnnahdafhddlaaGreatDoor
open Go.RowKit

/-- The sets of items joined, and the first error. -/
def itemsV (n : Nat) : List (List UInt8) → Nat → Nat × Nat
  | [], acc => if acc = 0 then (0, 16) else (acc, 0)
  | x :: r, acc => if (itemV x n).2 = 0 then itemsV n r (acc ||| (itemV x n).1) else (0, (itemV x n).2)
/-- The items of a text. -/
def itemsOf (s : ByteArray) : List ByteArray := Lib.splitB ⟨#[44]⟩ 0 (Lib.countB s ⟨#[44]⟩) s
def parseV (s : ByteArray) (n : Int) : Nat × Nat :=
  if n < 1 ∨ 20 < n then (0, 3) else itemsV n.toNat ((itemsOf s).map (·.data.toList)) 0

theorem spanN_lt (a b : Nat) (h : b ≤ 20) : spanN a b < 1048576 := by
  have h1 := maskTo_lt (spanP a) b
  have h2 := pow_small b h
  unfold spanN; omega
theorem everyN_lt (a b : Nat) (h : b ≤ 20) : everyN a b < 1048576 := by
  have h1 := maskTo_lt (everyP a) b
  have h2 := pow_small b h
  unfold everyN; omega
theorem wordVal_lt (n k : Nat) (hn : n ≤ 20) : wordVal n k < 1048576 := by
  unfold wordVal
  split
  · exact spanN_lt _ _ hn
  · exact everyN_lt _ _ hn
  · exact everyN_lt _ _ hn
  · exact spanN_lt _ _ (by omega)
  · exact spanN_lt _ _ hn
theorem itemR_lt (x z : List UInt8) (n : Nat) (hn : n ≤ 20) : (itemR x z n).1 < 1048576 ∧ (itemR x z n).2 ≤ 4 := by
  unfold itemR
  by_cases h2 : numOk x = false ∨ numOk z = false
  · rw [if_pos h2]; exact ⟨by simp, by simp⟩
  · rw [if_neg h2]
    by_cases h3 : n < numV x ∨ n < numV z ∨ numV z < numV x
    · rw [if_pos h3]; exact ⟨by simp, by simp⟩
    · rw [if_neg h3]; exact ⟨spanN_lt _ _ (by omega), by simp⟩
theorem itemV_lt (l : List UInt8) (n : Nat) (hn : n ≤ 20) : (itemV l n).1 < 1048576 ∧ (itemV l n).2 ≤ 4 := by
  unfold itemV
  by_cases h1 : wordIdx l < 5
  · rw [if_pos h1]; exact ⟨wordVal_lt _ _ hn, by simp⟩
  · rw [if_neg h1]; exact itemR_lt _ _ _ hn
theorem or_lt (a b : Nat) (ha : a < 1048576) (hb : b < 1048576) : a ||| b < 1048576 := by
  have := Nat.or_lt_two_pow (n := 20) (by simpa using ha) (by simpa using hb)
  simpa using this
theorem itemsV_cons (n : Nat) (x : List UInt8) (r : List (List UInt8)) (acc : Nat) : itemsV n (x :: r) acc = if (itemV x n).2 = 0 then itemsV n r (acc ||| (itemV x n).1) else (0, (itemV x n).2) := rfl

set_option maxHeartbeats 800000 in
theorem wsParse_walk (s : ByteArray) (n : Int) (hs : s.size < 1073741824) (w : World) (hS : Std w) :
    Calls Tryz.prog 143 #[.string s, .int .i64 n] w fun e w' => e = .returned (.tuple #[.int .i64 (parseV s n).1, .int .i64 (parseV s n).2]) ∧ Below w.heap.size w w' := by
  by_cases hn : n < 1 ∨ 20 < n
  · rw [show parseV s n = (0, 3) from if_pos hn]
    go_enter Tryz.func143, Tryz.ntmps143
    go_wp2
    all_goals try (exfalso; omega)
    all_goals go_ret2
    all_goals exact ⟨rfl, Below.refl _ _⟩
  · have h1 : 1 ≤ n := by omega
    have h2 : n ≤ 20 := by omega
    rw [show parseV s n = itemsV n.toNat ((itemsOf s).map (·.data.toList)) 0 from if_neg hn]
    clear hn
    obtain ⟨m, hm⟩ := hS.maxLen
    obtain ⟨v, hv⟩ : ∃ v, itemsV n.toNat ((itemsOf s).map (·.data.toList)) 0 = v := ⟨_, rfl⟩
    rw [hv]
    have hv := hide hv
    have hlen : (itemsOf s).length = Lib.countB s ⟨#[44]⟩ + 1 := splitB_len 44 s
    have hsz : ∀ x ∈ itemsOf s, x.size ≤ s.size := fun x hx => by
      have h1 : x.data.toList ∈ splitOn1 44 s.data.toList := by rw [← splitB_one]; exact List.mem_map.2 ⟨x, hx, rfl⟩
      have := (splitOn1_mem 44 _ _ h1).1
      rwa [ba_len, ba_len] at this
    have hcl : Lib.countB s ⟨#[44]⟩ ≤ s.size := Lib.countB_le ⟨#[44]⟩ (Nat.le_refl 1) _ s (Nat.le_refl _)
    obtain ⟨n, rfl⟩ := Int.eq_ofNat_of_zero_le (by omega : 0 ≤ n)
    rw [Int.toNat_natCast] at hv
    have hlen := hide hlen
    go_enter Tryz.func143, Tryz.ntmps143
    go_wp2_with (go_at_call 50; refine (Tryz.strings_Split s _ m _ (by omega) hm (by decide)).mono ?_; rintro e w' ⟨rfl, rfl⟩)
    go_loopw [6, 20] (fun a i wr => ∃ k acc : Nat, k ≤ Lib.countB s ⟨#[44]⟩ + 1 ∧ acc < 1048576 ∧ i = .int .i64 k ∧ a = .int .i64 acc ∧ itemsV n (((itemsOf s).map (·.data.toList)).drop k) acc = v ∧ Below (w.heap.size + 1) (w.alloc (.cells ((itemsOf s).map Value.string).toArray 9)) wr) (fun _ i _ => (Lib.countB s ⟨#[44]⟩ + 1 - (intOf i).toNat))
    case atStart => exact ⟨0, 0, Nat.zero_le _, by omega, rfl, rfl, hv.out, Below.refl _ _⟩
    case round =>
      obtain ⟨k, acc, hk, hacc, rfl, rfl, hvv, hb⟩ := hrel
      have hb0 : Below w.heap.size w wr := ((Below.refl _ _).alloc (Nat.le_refl _) _).trans (hb.mono (by omega))
      have hS1 := hS.after hb0
      by_cases hlt : k < Lib.countB s ⟨#[44]⟩ + 1
      · obtain ⟨x, hx⟩ : ∃ x, (itemsOf s)[k]? = some x := ⟨_, List.getElem?_eq_getElem (by rw [hlen.out]; exact hlt)⟩
        have hxm := hsz x (List.mem_of_getElem? hx)
        have hcell : wr.cell? ⟨w.heap.size, k, none⟩ = some (.string x) := (hb.cell (p := ⟨w.heap.size, k, none⟩) (by simp)).trans (by simp [hx])
        have hd : ((itemsOf s).map (·.data.toList)).drop k = x.data.toList :: ((itemsOf s).map (·.data.toList)).drop (k + 1) := by
          rw [List.drop_eq_getElem_cons (by simpa using (List.getElem?_eq_some_iff.1 hx).1)]
          congr 1
          simp [(List.getElem?_eq_some_iff.1 hx).2]
        rw [hd, itemsV_cons] at hvv
        have hil := itemV_lt x.data.toList n (by omega)
        obtain ⟨q, hq⟩ : ∃ q, itemV x.data.toList n = q := ⟨_, rfl⟩
        rw [hq] at hvv hil
        have hq := hide hq
        clear hd hx hsz hv hm
        by_cases he : q.2 = 0
        · rw [if_pos he] at hvv
          have hor := hide (i64_or_nat acc q.1 (by omega) (by omega))
          have hol := or_lt acc q.1 hacc hil.1
          have hvv := hide hvv
          have he' : ((q.2 : Int) != 0) = false := by simp [he]
          have he := hide he
          go_wp2_with fail
          refine (item_walk x n (by omega) (by omega) (by omega) _ hS1).mono ?_
          rintro e w1 ⟨rfl, hb1⟩
          rw [Int.toNat_natCast, hq.out]
          go_wp2
          go_roundw
          case rel => exact ⟨k + 1, acc ||| q.1, hlt, hol, by go_num, by rw [hor.out], hvv.out, hb.trans (hb1.mono (by simpa using hb.size))⟩
          case measure => simp [intOf]; omega
        · rw [if_neg he] at hvv
          have hvv := hide hvv
          have he' : ((q.2 : Int) != 0) = true := by simp [he]
          have he := hide he
          go_wp2_with fail
          refine (item_walk x n (by omega) (by omega) (by omega) _ hS1).mono ?_
          rintro e w1 ⟨rfl, hb1⟩
          rw [Int.toNat_natCast, hq.out]
          go_wp2
          go_ret2
          exact ⟨ret_ii (by rw [← hvv.out]; rfl) (by rw [← hvv.out]), hb0.trans (hb1.mono hb0.size)⟩
      · have hke : k = Lib.countB s ⟨#[44]⟩ + 1 := by omega
        have hnil : itemsV n [] acc = v := by
          rw [← hvv, List.drop_eq_nil_of_le (by rw [List.length_map, hlen.out]; omega)]
        clear hvv hke hv hsz
        by_cases ha : acc = 0
        · have hfin : Hid (v = (0, 16)) := by rw [← hnil]; exact if_pos ha
          clear hnil
          subst ha
          go_wp2
          go_ret2
          exact ⟨ret_ii (by rw [hfin.out]; rfl) (by rw [hfin.out]; rfl), hb0⟩
        · have hfin : Hid (v = (acc, 0)) := by rw [← hnil]; exact if_neg ha
          have ha' : ((acc : Int) == 0) = false := by simp [ha]
          clear hnil
          go_wp2
          go_ret2
          exact ⟨ret_ii (by rw [hfin.out]) (by rw [hfin.out]; rfl), hb0⟩
end Go.Proofs.YtdnnahdafhddlaaGreatDoor
