/- Walk of timetablelaw03.wide. Conditions: a number that is an int; a width of at most 1000. -/
import Derived.Test.YtjdhjnciokhbkaaGreatDoorKRanP
import Derived.Lib.ConvBytes
namespace Go.Proofs.YtjdhjnciokhbkaaGreatDoor
open Go.RowKit
set_option maxRecDepth 100000

/-- What digits are still to be put in front of some. -/
def preN (n : Nat) (s : List UInt8) : List UInt8 := if n = 0 then (if s = [] then [48] else s) else Lib.decDigits n ++ s
theorem preN_start (n : Nat) : preN n [] = Lib.decDigits n := by
  unfold preN
  by_cases h : n = 0
  · subst h; rw [if_pos rfl, if_pos rfl, Lib.decDigits_one (by decide)]; rfl
  · rw [if_neg h, List.append_nil]
theorem preN_step {n : Nat} {s : List UInt8} (h : n ≠ 0 ∨ s = []) : preN (n / 10) (UInt8.ofNat (48 + n % 10) :: s) = preN n s := by
  unfold preN
  by_cases h0 : n = 0
  · subst h0
    rcases h with h | h
    · exact absurd rfl h
    · subst h; rfl
  · rw [if_neg h0]
    by_cases h1 : n < 10
    · rw [if_pos (by omega), if_neg (by simp), Lib.decDigits_one h1, Nat.mod_eq_of_lt h1]; rfl
    · rw [if_neg (by omega), decd_big h1, List.append_assoc]; rfl
theorem preN_end {s : List UInt8} (h : s ≠ []) : preN 0 s = s := by unfold preN; rw [if_pos rfl, if_neg h]
theorem preN_len (n : Nat) (s : List UInt8) : s.length ≤ (preN n s).length := by
  unfold preN
  split
  · split
    · rename_i h; rw [h]; simp
    · exact Nat.le_refl _
  · rw [List.length_append]; omega
theorem rep_snoc (k : Nat) (l : List UInt8) : 48 :: (List.replicate k 48 ++ l) = List.replicate (k + 1) 48 ++ l := by rw [List.replicate_succ]; rfl
set_option maxHeartbeats 4000000 in
theorem wide_walk (n width : Nat) (w : World) (hn : n ≤ 9223372036854775807) (hw : width ≤ 1000) :
    Calls Tryz.prog 35 #[.int .i64 n, .int .i64 width] w fun e w' => e = .returned (.string (mkB (wrL n width))) ∧ Below w.heap.size w w' := by
  have hlen := Lib.itoa_length_le n (by omega) (by omega)
  rw [Lib.itoa_nonneg] at hlen
  obtain ⟨F, hF⟩ : ∃ F, Lib.decDigits n = F := ⟨_, rfl⟩
  have hfin : Hid (wrL n width = List.replicate (width - F.length) 48 ++ F) := hide (by rw [wrL_eq, ← hF, Lib.decDigits_length])
  have hst : preN n [] = F := by rw [preN_start, hF]
  have hF1 : 1 ≤ F.length := by rw [← hF, Lib.decDigits_length]; exact Lib.nDigits_pos n
  rw [hF] at hlen
  clear hF
  obtain ⟨W, hWr⟩ : ∃ W, mkB (wrL n width) = W := ⟨_, rfl⟩
  rw [hWr]
  replace hWr := hide hWr
  go_enter Tryz.func35, Tryz.ntmps35
  go_wp2
  go_loopw [0, 5] (fun i v wr => ∃ (m : Nat) (X : ByteArray), m ≤ 9223372036854775807 ∧ i = .int .i64 m ∧ v = .string X ∧ preN m X.data.toList = F ∧ Below w.heap.size w wr) (fun i v _ => (intOf i).toNat + (1 - szV v))
  case atStart => exact ⟨n, ⟨#[]⟩, hn, rfl, rfl, hst, Below.refl _ _⟩
  case round =>
    obtain ⟨m, X, hm, rfl, rfl, hp, hb⟩ := hrel
    have hXl := preN_len m X.data.toList
    rw [hp, len_size] at hXl
    by_cases hc : m = 0 ∧ X.data.toList ≠ []
    · obtain ⟨rfl, hx⟩ := hc
      rw [preN_end hx] at hp
      have hXs : X.size = F.length := by rw [← len_size, hp]
      have e0 := isEmpty_false X (by omega)
      have e1 : X.toList ≠ [] := fun e => by rw [e] at e0; cases e0
      have hsub : Hid (X.data.toList = List.replicate 0 48 ++ F) := hide hp
      clear hst hXl hp hx
      go_wp2_with fail
      go_loopw [5] (fun v wr => ∃ (k : Nat) (X : ByteArray), v = .string X ∧ X.size = k + F.length ∧ X.data.toList = List.replicate k 48 ++ F ∧ (k = 0 ∨ X.size ≤ width) ∧ Below w.heap.size w wr) (fun v _ => width - szV v)
      case atStart => exact ⟨0, X, rfl, by omega, hsub.out, .inl rfl, hb⟩
      case round =>
        obtain ⟨k, Y, rfl, hYs, hY, hk, hb⟩ := hrel
        clear hsub e0 e1
        by_cases hlt : Y.size < width
        · have hli : (Y.size : Int) < (width : Int) := by omega
          have hov : (9223372036854775807 < 1 + Y.size) = False := by simp; omega
          have hn : Hid ((⟨#[48]⟩ ++ Y : ByteArray).data.toList = List.replicate (k + 1) 48 ++ F) := hide (by rw [← rep_snoc, ← hY]; rfl)
          have hns : Hid ((⟨#[48]⟩ ++ Y : ByteArray).size = 1 + Y.size) := hide (by rw [ByteArray.size_append]; rfl)
          clear hY
          go_wp2_with fail
          go_roundw
          case rel => exact ⟨k + 1, _, rfl, by rw [hns.out]; omega, hn.out, .inr (by rw [hns.out]; omega), hb⟩
          case measure => simp only [szV]; have := hns.out; omega
        · have hli : ¬ (Y.size : Int) < (width : Int) := by omega
          have hfe : Y = W := by
            rw [← hWr.out, hfin.out]
            refine mkB_of ?_
            rw [hY, show width - F.length = k from by omega]
          subst hfe
          clear hY hfin
          go_wp2_with fail
          go_ret
          exact ⟨rfl, hb⟩
    · have hcc : m ≠ 0 ∨ X.data.toList = [] := by
        by_cases h : m = 0
        · exact .inr (Classical.byContradiction fun hx => hc ⟨h, hx⟩)
        · exact .inl h
      have hstep := preN_step hcc
      rw [hp] at hstep
      have hov : (9223372036854775807 < 1 + X.size) = False := by simp; omega
      have hm0 : (0 : Int) ≤ (m : Int) := by omega
      have hconv : ∀ cap, (convert 90 9 (.slice (some ⟨wr.heap.size, 0, none⟩) 1 cap)).run Tryz.prog (wr.alloc (.cells #[.int .u8 (48 + (m : Int) % 10)] 5)) = .ok (.string ⟨[UInt8.ofNat (48 + m % 10)].toArray⟩) (wr.alloc (.cells #[.int .u8 (48 + (m : Int) % 10)] 5)) := fun cap =>
        run_convert_bytes_back _ 90 9 5 ⟨wr.heap.size, 0, none⟩ cap [UInt8.ofNat (48 + m % 10)] Tryz.underlying90 Tryz.underlying5 Tryz.underlying9 (by
          intro j hj
          have hj : j = 0 := by simp at hj; omega
          subst hj
          have he : ((UInt8.ofNat (48 + m % 10)).toNat : Int) = 48 + (m : Int) % 10 := by
            rw [UInt8.toNat_ofNat']; omega
          simp [Addr.add]
          omega)
      have hns : Hid ((⟨[UInt8.ofNat (48 + m % 10)].toArray⟩ ++ X : ByteArray).size = 1 + X.size) := hide (by rw [ByteArray.size_append]; rfl)
      have hnl : Hid ((⟨[UInt8.ofNat (48 + m % 10)].toArray⟩ ++ X : ByteArray).data.toList = UInt8.ofNat (48 + m % 10) :: X.data.toList) := hide rfl
      obtain ⟨ch, hch⟩ : ∃ c, UInt8.ofNat (48 + m % 10) = c := ⟨_, rfl⟩
      rw [hch] at hstep hconv hns hnl
      clear hch
      by_cases hmz : 0 < m
      · have hmi : (0 : Int) < (m : Int) := by omega
        clear hst hXl hp hc hcc
        go_wp2_with fail
        go_roundw
        case rel => exact ⟨m / 10, _, by omega, by go_num, rfl, by rw [hnl.out]; exact hstep, ext_alloc hb _⟩
        case measure => simp only [szV, intOf]; have := hns.out; omega
      · obtain rfl : m = 0 := by omega
        have hXe : X = ⟨#[]⟩ := by
          rcases hcc with h | h
          · exact absurd rfl h
          · exact dat_inj h
        subst hXe
        rw [show (48 + ((0 : Nat) : Int) % 10) = 48 from rfl] at hconv
        clear hst hXl hp hc hcc
        go_wp2_with fail
        go_roundw
        case rel => exact ⟨0, _, by omega, by go_num, rfl, by rw [hnl.out]; exact hstep, ext_alloc hb _⟩
        case measure => simp only [szV, intOf]; rw [hns.out]; decide
end Go.Proofs.YtjdhjnciokhbkaaGreatDoor
