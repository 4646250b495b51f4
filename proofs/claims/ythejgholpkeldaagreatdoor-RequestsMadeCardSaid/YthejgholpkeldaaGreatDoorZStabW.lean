/- Walks of slices.swapRangeCmpFunc, rotateCmpFunc at requests, over the worlds of a sort. Conditions: the row's cells. -/
import Derived.Shelf.SlSortCmp.KitK
import Derived.Shelf.SlSortCmp.ReverseRangeK
import Derived.Sort.LotA
import Derived.Test.YthejgholpkeldaaGreatDoorRows
import Derived.WalkKit
import Derived.WalkSpells
import Derived.WalkLawsBesides
import Derived.BigGuardPart
import Derived.Lib.Hide
import Derived.Laws.BitsAllLaws
import Derived.Laws.BitsLemmas
import Derived.Lib.LaidTab
import Derived.Test.YthejgholpkeldaaGreatDoorShelf
import Derived.Lib.ConvBytes
import Derived.Deep.QuietTactic
import Derived.BigQuiet
import Derived.Test.YthejgholpkeldaaGreatDoorZReqP
namespace Go.Proofs.YthejgholpkeldaaGreatDoor
open Go.RowKit Go.Lib Go.Sort Go.Shelf
set_option maxRecDepth 100000

section
variable {α : Type} [Inhabited α]
set_option maxHeartbeats 4000000 in
theorem swapR_walk (k : Nat) (aE : ∀ w, (isAgg 53).run Tryz.prog w = .ok true w) (zE : ∀ w, (Go.sizeOf 53).run Tryz.prog w = .ok k w) (enc : α → List Value) (g : Nat) (cb : Array Value) (blk off cap a b n : Nat) (d0 d : Array α) (w0 w : World) (R : RowK enc k w0 blk off d0) (hs : d0.size = d.size) (S : SWK enc k w0 blk off d w) (ha : a + n ≤ d.size) (hb : b + n ≤ d.size) (hsz : d.size < 4611686018427387904) :
    Calls Tryz.prog 187 #[.slice (some ⟨blk, off, none⟩) d.size cap, .int .i64 a, .int .i64 b, .int .i64 n, .func (.func g) #[] cb] w fun e w' => e = .returned (.tuple #[]) ∧ SWK enc k w0 blk off (swapR d a b n) w' := by
  have mixed : Tryz.prog.follows Departure.mixedOrders = true := by kernel_rfl
  have S0 : Aside (SWK enc k w0 blk off d w) := S
  clear S
  go_enter Tryz.func187, Tryz.ntmps187
  go_wp2
  go_loopg [10] n (fun kx s8 wr => ∃ i : Nat, s8 = .int .i64 i ∧ i ≤ n ∧ n - i ≤ kx ∧ Aside (SWK enc k w0 blk off (swapR d a b i) wr))
  case atStart => exact ⟨0, rfl, Nat.zero_le _, by omega, S0⟩
  case round =>
    clear S0
    obtain ⟨i, rfl, hi, hkx, S1⟩ := hrel
    by_cases hlt : i < n
    · have hlti : (i : Int) < (n : Int) := by omega
      have hz := swapR_size d a b i
      obtain ⟨dk, hdk⟩ : ∃ dk, swapR d a b i = dk := ⟨_, rfl⟩
      rw [hdk] at S1 hz
      have hsw : swapR d a b (i + 1) = swp dk (a + i) (b + i) := by rw [swapR, hdk]
      go_wp2_with fail
      have ea44 : (((a + i : Nat) : Int)).toNat = a + i := by omega
      have pa44 : (0 : Int) ≤ (a : Int) + (i : Int) := by omega
      have ba44 : (a : Int) + (i : Int) < (d.size : Int) := by omega
      have ra44 : IntKind.i64.wrap ((a : Int) + (i : Int)) = (a : Int) + (i : Int) := by rw [IntKind.wrap_i64]; omega
      have pc44 : (0 : Int) ≤ (b : Int) + (i : Int) := by omega
      have bc44 : (b : Int) + (i : Int) < (d.size : Int) := by omega
      have rc44 : IntKind.i64.wrap ((b : Int) + (i : Int)) = (b : Int) + (i : Int) := by rw [IntKind.wrap_i64]; omega
      have ta44 : ((a : Int) + (i : Int)).toNat = a + i := by omega
      have tc44 : ((b : Int) + (i : Int)).toNat = b + i := by omega
      have S2 : Aside (SWK enc k w0 blk off (swp dk (a + i) (b + i)) ((wr.drew.setCells blk (off + (a + i) * k) (enc dk[b + i]!)).setCells blk (off + (b + i) * k) (enc dk[a + i]!))) := S1.out.swapped R (a + i) (b + i) (by omega) (by omega)
      have l44a := S1.out.ld1 R (by omega) Tryz.prog (a + i) (by omega)
      have l44b := S1.out.ld1 R (by omega) Tryz.prog (b + i) (by omega)
      have s44a := S1.out.st1 R (by omega) Tryz.prog (a + i) (by omega) dk[b + i]!
      have s44b := S1.out.st2 R (by omega) Tryz.prog (a + i) (b + i) (by omega) (by omega) dk[b + i]! dk[a + i]!
      have n44a : (enc dk[a + i]!).length = k := R.hk _
      have n44b : (enc dk[b + i]!).length = k := R.hk _
      generalize enc dk[a + i]! = cI44 at S2 l44a s44b n44a
      generalize enc dk[b + i]! = cJ44 at S2 l44b s44a s44b n44b
      clear S1
      go_big_region_o
      clear l44a l44b s44a s44b
      generalize (wr.drew.setCells blk (off + (a + i) * k) cJ44).setCells blk (off + (b + i) * k) cI44 = w2 at S2 ⊢
      go_wp2
      go_roundg (n - (i + 1))
      case measure => omega
      case rel => exact ⟨i + 1, by simp, by omega, Nat.le_refl _, by rw [hsw]; exact S2⟩
    · obtain rfl : i = n := by omega
      go_wp2
      go_end0
      exact ⟨rfl, S1.out⟩
set_option maxHeartbeats 4000000 in
theorem rot_walk (k : Nat) (aE : ∀ w, (isAgg 53).run Tryz.prog w = .ok true w) (zE : ∀ w, (Go.sizeOf 53).run Tryz.prog w = .ok k w) (enc : α → List Value) (g : Nat) (cb : Array Value) (blk off cap a m b : Nat) (d0 d : Array α) (w0 w : World) (R : RowK enc k w0 blk off d0) (hs : d0.size = d.size) (S : SWK enc k w0 blk off d w) (ham : a < m) (hmb : m < b) (hb : b ≤ d.size) (hsz : d.size < 4611686018427387904) :
    Calls Tryz.prog 165 #[.slice (some ⟨blk, off, none⟩) d.size cap, .int .i64 a, .int .i64 m, .int .i64 b, .func (.func g) #[] cb] w fun e w' => e = .returned (.tuple #[]) ∧ SWK enc k w0 blk off (rot d m (b - a) (m - a) (b - m)) w' := by
  have mixed : Tryz.prog.follows Departure.mixedOrders = true := by kernel_rfl
  have S0 : Aside (SWK enc k w0 blk off d w) := S
  have w1 : IntKind.i64.wrap ((m : Int) - (a : Int)) = ((m - a : Nat) : Int) := by rw [IntKind.wrap_i64]; omega
  have w2 : IntKind.i64.wrap ((b : Int) - (m : Int)) = ((b - m : Nat) : Int) := by rw [IntKind.wrap_i64]; omega
  clear S
  obtain ⟨I, hI⟩ : ∃ I, m - a = I := ⟨_, rfl⟩
  obtain ⟨J, hJ⟩ : ∃ J, b - m = J := ⟨_, rfl⟩
  obtain ⟨f0, hf0⟩ : ∃ f0, b - a = f0 := ⟨_, rfl⟩
  rw [hI] at w1
  rw [hJ] at w2
  rw [hI, hJ, hf0]
  have hIJ : 0 < I ∧ 0 < J ∧ I + J ≤ f0 ∧ I ≤ m ∧ m + J ≤ d.size := by omega
  replace hI := hide hI
  replace hJ := hide hJ
  replace hf0 := hide hf0
  go_enter Tryz.func165, Tryz.ntmps165
  go_wp2
  go_loopg [10, 11] f0 (fun kx si sj wr => ∃ (i j : Nat) (dk : Array α), si = .int .i64 i ∧ sj = .int .i64 j ∧ 0 < i ∧ 0 < j ∧ i + j ≤ kx ∧ i ≤ m ∧ m + j ≤ d.size ∧ dk.size = d.size ∧ Aside (SWK enc k w0 blk off dk wr) ∧ rot dk m kx i j = rot d m f0 I J)
  case atStart => exact ⟨I, J, d, rfl, rfl, hIJ.1, hIJ.2.1, hIJ.2.2.1, hIJ.2.2.2.1, hIJ.2.2.2.2, rfl, S0, rfl⟩
  case round =>
    clear S0
    obtain ⟨i, j, dk, rfl, rfl, hi, hj, hk, him, hmj, hds, S1, heq⟩ := hrel
    have w3 : IntKind.i64.wrap ((m : Int) - (i : Int)) = ((m - i : Nat) : Int) := by rw [IntKind.wrap_i64]; omega
    have hkx : ∃ f, gk = f + 1 := ⟨gk - 1, by omega⟩
    obtain ⟨f, rfl⟩ := hkx
    by_cases hij : i = j
    · subst hij
      have hz : rot dk m (f + 1) i i = swapR dk (m - i) m i := by rw [rot, if_pos rfl]
      have hsw := swapR_walk k aE zE enc g cb blk off cap (m - i) m i d0 dk w0 wr R (by omega) S1.out (by omega) (by omega) (by omega)
      rw [hds] at hsw
      have hq : Hid (swapR dk (m - i) m i = rot d m f0 I J) := hide (by rw [← hz, heq])
      obtain ⟨mi, hmi⟩ : ∃ mi, m - i = mi := ⟨_, rfl⟩
      rw [hmi] at w3 hsw hq
      clear heq hz S1
      go_wp2_with fail
      refine hsw.mono ?_
      rintro e w' ⟨rfl, S2⟩
      go_wp2
      go_end0
      exact ⟨rfl, by rw [← hq.out]; exact S2⟩
    · by_cases hji : j < i
      · have hjii : (j : Int) < (i : Int) := by omega
        have hnei : ¬ (i : Int) = (j : Int) := by omega
        have w4 : IntKind.i64.wrap ((i : Int) - (j : Int)) = ((i - j : Nat) : Int) := by rw [IntKind.wrap_i64]; omega
        have hq : Hid (rot (swapR dk (m - i) m j) m f (i - j) j = rot d m f0 I J) := hide (by rw [← heq, rot, if_neg hij, if_pos hji])
        have hsw := swapR_walk k aE zE enc g cb blk off cap (m - i) m j d0 dk w0 wr R (by omega) S1.out (by omega) (by omega) (by omega)
        rw [hds] at hsw
        have hsz2 : Hid ((swapR dk (m - i) m j).size = d.size) := hide (by rw [swapR_size]; exact hds)
        obtain ⟨mi, hmi⟩ : ∃ mi, m - i = mi := ⟨_, rfl⟩
        rw [hmi] at w3 hsw hq hsz2
        obtain ⟨ij, hij2⟩ : ∃ ij, i - j = ij := ⟨_, rfl⟩
        rw [hij2] at w4 hq
        clear heq S1
        go_wp2_with fail
        refine hsw.mono ?_
        rintro e w' ⟨rfl, S2⟩
        go_wp2
        go_roundg f
        case measure => omega
        case rel => exact ⟨ij, j, _, rfl, rfl, by omega, hj, by omega, by omega, hmj, hsz2.out, S2, hq.out⟩
      · have hjii : ¬ (j : Int) < (i : Int) := by omega
        have hnei : ¬ (i : Int) = (j : Int) := by omega
        have w4 : IntKind.i64.wrap ((j : Int) - (i : Int)) = ((j - i : Nat) : Int) := by rw [IntKind.wrap_i64]; omega
        have w5 : IntKind.i64.wrap ((m : Int) + (j : Int)) = (m : Int) + (j : Int) := by rw [IntKind.wrap_i64]; omega
        have w6 : IntKind.i64.wrap ((m : Int) + (j : Int) - (i : Int)) = ((m + j - i : Nat) : Int) := by rw [IntKind.wrap_i64]; omega
        have hq : Hid (rot (swapR dk (m - i) (m + j - i) i) m f i (j - i) = rot d m f0 I J) := hide (by rw [← heq, rot, if_neg hij, if_neg hji])
        have hsw := swapR_walk k aE zE enc g cb blk off cap (m - i) (m + j - i) i d0 dk w0 wr R (by omega) S1.out (by omega) (by omega) (by omega)
        rw [hds] at hsw
        have hsz2 : Hid ((swapR dk (m - i) (m + j - i) i).size = d.size) := hide (by rw [swapR_size]; exact hds)
        obtain ⟨mi, hmi⟩ : ∃ mi, m - i = mi := ⟨_, rfl⟩
        rw [hmi] at w3 hsw hq hsz2
        obtain ⟨ji, hij2⟩ : ∃ ji, j - i = ji := ⟨_, rfl⟩
        rw [hij2] at w4 hq
        obtain ⟨mji, hmj2⟩ : ∃ mji, m + j - i = mji := ⟨_, rfl⟩
        rw [hmj2] at w6 hsw hq hsz2
        clear heq S1
        go_wp2_with fail
        refine hsw.mono ?_
        rintro e w' ⟨rfl, S2⟩
        go_wp2
        go_roundg f
        case measure => omega
        case rel => exact ⟨i, ji, _, rfl, rfl, hi, by omega, by omega, him, by omega, hsz2.out, S2, hq.out⟩
end
end Go.Proofs.YthejgholpkeldaaGreatDoor
