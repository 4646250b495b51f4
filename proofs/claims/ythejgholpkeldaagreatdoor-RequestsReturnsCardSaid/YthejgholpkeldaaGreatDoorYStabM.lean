/- The walk of slices.symMergeCmpFunc at requests (printed by gen_symm.py). Conditions: the row's cells. -/
import Derived.Shelf.SlSortCmp.SiftDownK
import Derived.Shelf.SlSortCmp.KitK
import Derived.Shelf.SlSortCmp.ReverseRangeK
import Derived.Sort.LotA
import Derived.Test.YthejgholpkeldaaGreatDoorRows
import Derived.WalkKit
import Derived.WalkSpells
import Derived.WalkLawsBesides
import Derived.BigGuardPart
import Derived.Lib.Hide
import Derived.Laws.BitsAllLaws
import Derived.Laws.BitsLemmas
import Derived.Lib.LaidTab
import Derived.Test.YthejgholpkeldaaGreatDoorShelf
import Derived.Lib.ConvBytes
import Derived.Deep.QuietTactic
import Derived.BigQuiet
import Derived.Test.YthejgholpkeldaaGreatDoorYStabP
namespace Go.Proofs.YthejgholpkeldaaGreatDoor
open Go.RowKit Go.Lib Go.Sort Go.Shelf
set_option maxRecDepth 100000

theorem bs_go {p : Nat → Bool} {f i j q : Nat} (h : i < j) (hq : (i + j) / 2 = q) (hp : p q = true) : bs p (f + 1) i j = bs p f (q + 1) j := by
  rw [bs, if_pos h, hq, if_pos hp]
theorem bs_no {p : Nat → Bool} {f i j q : Nat} (h : i < j) (hq : (i + j) / 2 = q) (hp : p q = false) : bs p (f + 1) i j = bs p f i q := by
  rw [bs, if_pos h, hq, if_neg (by rw [hp]; decide)]
theorem bs_done {p : Nat → Bool} {f i j : Nat} (h : ¬ i < j) : bs p f i j = i := by
  cases f with
  | zero => rfl
  | succ f => rw [bs, if_neg h]

section
variable {α : Type} [Inhabited α]
theorem symM_size (lt : α → α → Bool) : ∀ (f : Nat) (d : Array α) (a m b : Nat), (symM lt f d a m b).size = d.size
  | 0, d, a, m, b => rfl
  | f + 1, d, a, m, b => by
    rw [symM]
    split
    · exact mvR_size _ _ _
    · split
      · exact mvL_size _ _ _
      · dsimp only
        split
        · rw [symM_size lt f]
          split
          · rw [symM_size lt f]
            split
            · exact rot_size _ _ _ _ _
            · rfl
          · split
            · exact rot_size _ _ _ _ _
            · rfl
        · split
          · rw [symM_size lt f]
            split
            · exact rot_size _ _ _ _ _
            · rfl
          · split
            · exact rot_size _ _ _ _ _
            · rfl
set_option maxHeartbeats 8000000 in
theorem sym1_walk (k : Nat) (aE : ∀ w, (isAgg 53).run Tryz.prog w = .ok true w) (zE : ∀ w, (Go.sizeOf 53).run Tryz.prog w = .ok k w) (enc : α → List Value) (cf : α → α → Int) (g : Nat) (cb : Array Value) (blk off cap : Nat) (d0 : Array α) (w0 : World) (eg : ∀ args w, (callFunc g args).run Tryz.prog w = .ok (.enter g args) w) (hcmp : CmpLays Tryz.prog g cb enc k cf blk off d0.size w0) (R : RowK enc k w0 blk off d0) (a m b : Nat) (d : Array α) (w : World) (hs : d0.size = d.size) (S : SWK enc k w0 blk off d w) (ham : m = a + 1) (hmb : m < b) (hb : b ≤ d.size) (hsz : d.size < 4611686018427387904) :
    Calls Tryz.prog 142 #[.slice (some ⟨blk, off, none⟩) d.size cap, .int .i64 a, .int .i64 m, .int .i64 b, .func (.func g) #[] cb] w fun e w' => e = .returned (.tuple #[]) ∧ SWK enc k w0 blk off (mvR d a (bs (fun h => ltOf cf d[h]! d[a]!) b m b - 1 - a)) w' := by
  have mixed : Tryz.prog.follows Departure.mixedOrders = true := by kernel_rfl
  have HC : Aside _ := hcmp
  have S0 : Aside (SWK enc k w0 blk off d w) := S
  clear S hcmp
  have w1 : IntKind.i64.wrap ((m : Int) - (a : Int)) = 1 := by rw [IntKind.wrap_i64]; omega
  have hma : a < m := by omega
  replace ham := hide ham
  obtain ⟨pr, hpr⟩ : ∃ pr : Nat → Bool, ∀ h, pr h = ltOf cf d[h]! d[a]! := ⟨_, fun _ => rfl⟩
  have hpe : (fun h => ltOf cf d[h]! d[a]!) = pr := funext fun h => (hpr h).symm
  rw [hpe]
  clear hpe
  replace hpr := hide hpr
  obtain ⟨H, Hh⟩ : ∃ H, bs pr b m b = H := ⟨_, rfl⟩
  rw [Hh]
  replace Hh := hide Hh
  go_enter Tryz.func142, Tryz.ntmps142
  go_wp2
  go_loopg [10, 11] b (fun kx si sj wr => ∃ (i j : Nat), si = .int .i64 i ∧ sj = .int .i64 j ∧ m ≤ i ∧ i ≤ j ∧ j ≤ b ∧ j - i ≤ kx ∧ Aside (SWK enc k w0 blk off d wr) ∧ Hid (bs pr kx i j = H))
  case atStart => exact ⟨m, b, rfl, rfl, Nat.le_refl _, by omega, Nat.le_refl _, by omega, S0, Hh⟩
  case round =>
    clear S0
    obtain ⟨i, j, rfl, rfl, h1, h2, h3, hkx, S1, HB⟩ := hrel
    by_cases hlt : i < j
    · have hltz : (i : Int) < (j : Int) := by omega
      obtain ⟨f1, rfl⟩ : ∃ f1, gk = f1 + 1 := ⟨gk - 1, by omega⟩
      obtain ⟨q, hq⟩ : ∃ q, (i + j) / 2 = q := ⟨_, rfl⟩
      have hm : ((i : Int) + (j : Int)) / 2 = (q : Int) := by omega
      have hqi : i ≤ q ∧ q < j := by omega
      replace hq := hide hq
      have hprq := hpr.out q
      cases hL : ltOf cf d[q]! d[a]! with
      | true =>
        have hb : Hid (pr q = true) := hide (by rw [hprq, hL])
        clear hprq
        have ea21 : ((q : Int)).toNat = q := by omega
        have pa21 : (0 : Int) ≤ (q : Int) := by omega
        have ba21 : (q : Int) < (d.size : Int) := by omega
        have ra21 : IntKind.i64.wrap ((q : Int)) = (q : Int) := by rw [IntKind.wrap_i64]; omega
        have ec21 : ((a : Int)).toNat = a := by omega
        have pc21 : (0 : Int) ≤ (a : Int) := by omega
        have bc21 : (a : Int) < (d.size : Int) := by omega
        have rc21 : IntKind.i64.wrap ((a : Int)) = (a : Int) := by rw [IntKind.wrap_i64]; omega
        obtain ⟨x21, hx21⟩ : ∃ x, x = d[q]! := ⟨_, rfl⟩
        obtain ⟨y21, hy21⟩ : ∃ x, x = d[a]! := ⟨_, rfl⟩
        have l21a := S1.out.ld R (by omega) Tryz.prog (q) (by omega)
        have l21b := S1.out.ld R (by omega) Tryz.prog (a) (by omega)
        rw [← hx21] at l21a
        rw [← hy21] at l21b
        have hc21 := S1.out.cmp HC.out (by omega) x21 y21
        have hv21 : cf x21 y21 < 0 := by rw [hx21, hy21]; exact of_decide_eq_true hL
        have hd21 : decide (cf x21 y21 < 0) = true := decide_eq_true hv21
        clear hx21 hy21
        go_wp2_with fail
        go_quiet_grown (first | (go_at_fn g; refine Calls.grown_of (hc21 _ _)))
        have S2 : Aside (SWK enc k w0 blk off d (grow (wr.drewN nq) osq)) := S1.out.grown nq osq
        clear l21a l21b hc21 S1
        generalize grow (wr.drewN nq) osq = w2 at S2 ⊢
        clear nq osq
        go_wp2
        go_roundg f1
        case measure => omega
        case rel => exact ⟨q + 1, j, by go_num, rfl, by omega, by omega, h3, by omega, S2, hide ((bs_go hlt hq.out hb.out).symm.trans HB.out)⟩
      | false =>
        have hb : Hid (pr q = false) := hide (by rw [hprq, hL])
        clear hprq
        have ea22 : ((q : Int)).toNat = q := by omega
        have pa22 : (0 : Int) ≤ (q : Int) := by omega
        have ba22 : (q : Int) < (d.size : Int) := by omega
        have ra22 : IntKind.i64.wrap ((q : Int)) = (q : Int) := by rw [IntKind.wrap_i64]; omega
        have ec22 : ((a : Int)).toNat = a := by omega
        have pc22 : (0 : Int) ≤ (a : Int) := by omega
        have bc22 : (a : Int) < (d.size : Int) := by omega
        have rc22 : IntKind.i64.wrap ((a : Int)) = (a : Int) := by rw [IntKind.wrap_i64]; omega
        obtain ⟨x22, hx22⟩ : ∃ x, x = d[q]! := ⟨_, rfl⟩
        obtain ⟨y22, hy22⟩ : ∃ x, x = d[a]! := ⟨_, rfl⟩
        have l22a := S1.out.ld R (by omega) Tryz.prog (q) (by omega)
        have l22b := S1.out.ld R (by omega) Tryz.prog (a) (by omega)
        rw [← hx22] at l22a
        rw [← hy22] at l22b
        have hc22 := S1.out.cmp HC.out (by omega) x22 y22
        have hv22 : ¬ cf x22 y22 < 0 := by rw [hx22, hy22]; exact of_decide_eq_false hL
        have hd22 : decide (cf x22 y22 < 0) = false := decide_eq_false hv22
        clear hx22 hy22
        go_wp2_with fail
        go_quiet_grown (first | (go_at_fn g; refine Calls.grown_of (hc22 _ _)))
        have S2 : Aside (SWK enc k w0 blk off d (grow (wr.drewN nq) osq)) := S1.out.grown nq osq
        clear l22a l22b hc22 S1
        generalize grow (wr.drewN nq) osq = w2 at S2 ⊢
        clear nq osq
        go_wp2
        go_roundg f1
        case measure => omega
        case rel => exact ⟨i, q, rfl, by go_num, h1, by omega, by omega, by omega, S2, hide ((bs_no hlt hq.out hb.out).symm.trans HB.out)⟩
    · obtain rfl : i = j := by omega
      have hiH : i = H := by rw [← HB.out]; exact (bs_done (Nat.lt_irrefl _)).symm
      obtain ⟨E, hE⟩ : ∃ E, i - 1 = E := ⟨_, rfl⟩
      have w2 : IntKind.i64.wrap ((i : Int) - 1) = (E : Int) := by rw [IntKind.wrap_i64]; omega
      have hEa : a ≤ E ∧ E < d.size := by omega
      have hN : H - 1 - a = E - a := by omega
      replace hN := hide hN
      clear hiH HB Hh hpr
      go_wp2_with fail
      go_loopg [13] (E - a) (fun kx sc wr => ∃ (c n : Nat), sc = .int .i64 c ∧ c = a + n ∧ c ≤ E ∧ E - c ≤ kx ∧ Aside (SWK enc k w0 blk off (mvR d a n) wr))
      case atStart => exact ⟨a, 0, rfl, rfl, hEa.1, Nat.le_refl _, S1⟩
      case round =>
        clear S1
        obtain ⟨c, n, rfl, hcn, hcE, hkx, S1⟩ := hrel
        by_cases hlt : c < E
        · have hltz : (c : Int) < (E : Int) := by omega
          have hz := mvR_size d a n
          obtain ⟨dk, hdk⟩ : ∃ dk, mvR d a n = dk := ⟨_, rfl⟩
          rw [hdk] at S1 hz
          have hsw : Hid (mvR d a (n + 1) = swp dk c (c + 1)) := hide (by rw [mvR, hdk, ← hcn])
          replace hcn := hide hcn
          go_wp2_with fail
          have ea23 : ((c : Int)).toNat = c := by omega
          have pa23 : (0 : Int) ≤ (c : Int) := by omega
          have ba23 : (c : Int) < (d.size : Int) := by omega
          have ra23 : IntKind.i64.wrap ((c : Int)) = (c : Int) := by rw [IntKind.wrap_i64]; omega
          have ec23 : ((c : Int) + 1).toNat = c + 1 := by omega
          have pc23 : (0 : Int) ≤ (c : Int) + 1 := by omega
          have bc23 : (c : Int) + 1 < (d.size : Int) := by omega
          have rc23 : IntKind.i64.wrap ((c : Int) + 1) = (c : Int) + 1 := by rw [IntKind.wrap_i64]; omega
          have S2 : Aside (SWK enc k w0 blk off (swp dk (c) (c + 1)) ((wr.drew.setCells blk (off + (c) * k) (enc dk[c + 1]!)).setCells blk (off + (c + 1) * k) (enc dk[c]!))) := S1.out.swapped R (c) (c + 1) (by omega) (by omega)
          have l23a := S1.out.ld1 R (by omega) Tryz.prog (c) (by omega)
          have l23b := S1.out.ld1 R (by omega) Tryz.prog (c + 1) (by omega)
          have s23a := S1.out.st1 R (by omega) Tryz.prog (c) (by omega) dk[c + 1]!
          have s23b := S1.out.st2 R (by omega) Tryz.prog (c) (c + 1) (by omega) (by omega) dk[c + 1]! dk[c]!
          have n23a : (enc dk[c]!).length = k := R.hk _
          have n23b : (enc dk[c + 1]!).length = k := R.hk _
          generalize enc dk[c]! = cI23 at S2 l23a s23b n23a
          generalize enc dk[c + 1]! = cJ23 at S2 l23b s23a s23b n23b
          clear S1
          go_big_region_o
          clear l23a l23b s23a s23b
          generalize (wr.drew.setCells blk (off + (c) * k) cJ23).setCells blk (off + (c + 1) * k) cI23 = w2 at S2 ⊢
          go_wp2
          go_roundg (E - (c + 1))
          case measure => omega
          case rel => exact ⟨c + 1, n + 1, by go_num, by rw [hcn.out]; omega, by omega, Nat.le_refl _, by rw [hsw.out]; exact S2⟩
        · obtain rfl : c = E := by omega
          have hn : Hid (n = c - a) := hide (by omega)
          clear hcn
          go_wp2
          (try simp only [Exit.inBlock, Exit.then]); refine bodyPost_ret (results_none rfl _ _ _) rfl ?_
          exact ⟨rfl, by rw [hN.out, ← hn.out]; exact S1.out⟩
set_option maxHeartbeats 8000000 in
theorem sym2_walk (k : Nat) (aE : ∀ w, (isAgg 53).run Tryz.prog w = .ok true w) (zE : ∀ w, (Go.sizeOf 53).run Tryz.prog w = .ok k w) (enc : α → List Value) (cf : α → α → Int) (g : Nat) (cb : Array Value) (blk off cap : Nat) (d0 : Array α) (w0 : World) (eg : ∀ args w, (callFunc g args).run Tryz.prog w = .ok (.enter g args) w) (hcmp : CmpLays Tryz.prog g cb enc k cf blk off d0.size w0) (R : RowK enc k w0 blk off d0) (a m b : Nat) (d : Array α) (w : World) (hs : d0.size = d.size) (S : SWK enc k w0 blk off d w) (ham : a < m) (hne : m - a ≠ 1) (hmb : b = m + 1) (hb : b ≤ d.size) (hsz : d.size < 4611686018427387904) :
    Calls Tryz.prog 142 #[.slice (some ⟨blk, off, none⟩) d.size cap, .int .i64 a, .int .i64 m, .int .i64 b, .func (.func g) #[] cb] w fun e w' => e = .returned (.tuple #[]) ∧ SWK enc k w0 blk off (mvL d m (m - bs (fun h => !ltOf cf d[m]! d[h]!) m a m)) w' := by
  have mixed : Tryz.prog.follows Departure.mixedOrders = true := by kernel_rfl
  have HC : Aside _ := hcmp
  have S0 : Aside (SWK enc k w0 blk off d w) := S
  clear S hcmp
  obtain ⟨q1, hq1⟩ : ∃ q1, m - a = q1 := ⟨_, rfl⟩
  have w1 : IntKind.i64.wrap ((m : Int) - (a : Int)) = (q1 : Int) := by rw [IntKind.wrap_i64]; omega
  have w2 : IntKind.i64.wrap ((b : Int) - (m : Int)) = 1 := by rw [IntKind.wrap_i64]; omega
  have q1n : ((q1 : Int) == 1) = false := beq_eq_false_iff_ne.mpr (by omega)
  have hmd : m < d.size := by omega
  replace hq1 := hide hq1
  clear hne
  replace hmb := hide hmb
  obtain ⟨pr, hpr⟩ : ∃ pr : Nat → Bool, ∀ h, pr h = !ltOf cf d[m]! d[h]! := ⟨_, fun _ => rfl⟩
  have hpe : (fun h => !ltOf cf d[m]! d[h]!) = pr := funext fun h => (hpr h).symm
  rw [hpe]
  clear hpe
  replace hpr := hide hpr
  obtain ⟨H, Hh⟩ : ∃ H, bs pr m a m = H := ⟨_, rfl⟩
  rw [Hh]
  replace Hh := hide Hh
  go_enter Tryz.func142, Tryz.ntmps142
  go_wp2_with fail
  go_loopg [14, 15] m (fun kx si sj wr => ∃ (i j : Nat), si = .int .i64 i ∧ sj = .int .i64 j ∧ a ≤ i ∧ i ≤ j ∧ j ≤ m ∧ j - i ≤ kx ∧ Aside (SWK enc k w0 blk off d wr) ∧ Hid (bs pr kx i j = H))
  case atStart => exact ⟨a, m, rfl, rfl, Nat.le_refl _, by omega, Nat.le_refl _, by omega, S0, Hh⟩
  case round =>
    clear S0
    obtain ⟨i, j, rfl, rfl, h1, h2, h3, hkx, S1, HB⟩ := hrel
    by_cases hlt : i < j
    · have hltz : (i : Int) < (j : Int) := by omega
      obtain ⟨f1, rfl⟩ : ∃ f1, gk = f1 + 1 := ⟨gk - 1, by omega⟩
      obtain ⟨q, hq⟩ : ∃ q, (i + j) / 2 = q := ⟨_, rfl⟩
      have hm : ((i : Int) + (j : Int)) / 2 = (q : Int) := by omega
      have hqi : i ≤ q ∧ q < j := by omega
      replace hq := hide hq
      have hprq := hpr.out q
      cases hL : ltOf cf d[m]! d[q]! with
      | true =>
        have hb : Hid (pr q = false) := hide (by rw [hprq, hL]; rfl)
        clear hprq
        have ea24 : ((m : Int)).toNat = m := by omega
        have pa24 : (0 : Int) ≤ (m : Int) := by omega
        have ba24 : (m : Int) < (d.size : Int) := by omega
        have ra24 : IntKind.i64.wrap ((m : Int)) = (m : Int) := by rw [IntKind.wrap_i64]; omega
        have ec24 : ((q : Int)).toNat = q := by omega
        have pc24 : (0 : Int) ≤ (q : Int) := by omega
        have bc24 : (q : Int) < (d.size : Int) := by omega
        have rc24 : IntKind.i64.wrap ((q : Int)) = (q : Int) := by rw [IntKind.wrap_i64]; omega
        obtain ⟨x24, hx24⟩ : ∃ x, x = d[m]! := ⟨_, rfl⟩
        obtain ⟨y24, hy24⟩ : ∃ x, x = d[q]! := ⟨_, rfl⟩
        have l24a := S1.out.ld R (by omega) Tryz.prog (m) (by omega)
        have l24b := S1.out.ld R (by omega) Tryz.prog (q) (by omega)
        rw [← hx24] at l24a
        rw [← hy24] at l24b
        have hc24 := S1.out.cmp HC.out (by omega) x24 y24
        have hv24 : cf x24 y24 < 0 := by rw [hx24, hy24]; exact of_decide_eq_true hL
        have hd24 : decide (cf x24 y24 < 0) = true := decide_eq_true hv24
        clear hx24 hy24
        go_wp2_with fail
        go_quiet_grown (first | (go_at_fn g; refine Calls.grown_of (hc24 _ _)))
        have S2 : Aside (SWK enc k w0 blk off d (grow (wr.drewN nq) osq)) := S1.out.grown nq osq
        clear l24a l24b hc24 S1
        generalize grow (wr.drewN nq) osq = w2 at S2 ⊢
        clear nq osq
        go_wp2
        go_roundg f1
        case measure => omega
        case rel => exact ⟨i, q, rfl, by go_num, h1, by omega, by omega, by omega, S2, hide ((bs_no hlt hq.out hb.out).symm.trans HB.out)⟩
      | false =>
        have hb : Hid (pr q = true) := hide (by rw [hprq, hL]; rfl)
        clear hprq
        have ea25 : ((m : Int)).toNat = m := by omega
        have pa25 : (0 : Int) ≤ (m : Int) := by omega
        have ba25 : (m : Int) < (d.size : Int) := by omega
        have ra25 : IntKind.i64.wrap ((m : Int)) = (m : Int) := by rw [IntKind.wrap_i64]; omega
        have ec25 : ((q : Int)).toNat = q := by omega
        have pc25 : (0 : Int) ≤ (q : Int) := by omega
        have bc25 : (q : Int) < (d.size : Int) := by omega
        have rc25 : IntKind.i64.wrap ((q : Int)) = (q : Int) := by rw [IntKind.wrap_i64]; omega
        obtain ⟨x25, hx25⟩ : ∃ x, x = d[m]! := ⟨_, rfl⟩
        obtain ⟨y25, hy25⟩ : ∃ x, x = d[q]! := ⟨_, rfl⟩
        have l25a := S1.out.ld R (by omega) Tryz.prog (m) (by omega)
        have l25b := S1.out.ld R (by omega) Tryz.prog (q) (by omega)
        rw [← hx25] at l25a
        rw [← hy25] at l25b
        have hc25 := S1.out.cmp HC.out (by omega) x25 y25
        have hv25 : ¬ cf x25 y25 < 0 := by rw [hx25, hy25]; exact of_decide_eq_false hL
        have hd25 : decide (cf x25 y25 < 0) = false := decide_eq_false hv25
        clear hx25 hy25
        go_wp2_with fail
        go_quiet_grown (first | (go_at_fn g; refine Calls.grown_of (hc25 _ _)))
        have S2 : Aside (SWK enc k w0 blk off d (grow (wr.drewN nq) osq)) := S1.out.grown nq osq
        clear l25a l25b hc25 S1
        generalize grow (wr.drewN nq) osq = w2 at S2 ⊢
        clear nq osq
        go_wp2
        go_roundg f1
        case measure => omega
        case rel => exact ⟨q + 1, j, by go_num, rfl, by omega, by omega, h3, by omega, S2, hide ((bs_go hlt hq.out hb.out).symm.trans HB.out)⟩
    · obtain rfl : i = j := by omega
      have hiH : i = H := by rw [← HB.out]; exact (bs_done (Nat.lt_irrefl _)).symm
      have hN : m - H = m - i := by omega
      replace hN := hide hN
      clear hiH HB Hh hpr
      go_wp2_with fail
      go_loopg [17] (m - i) (fun kx sc wr => ∃ (c n : Nat), sc = .int .i64 c ∧ c + n = m ∧ i ≤ c ∧ c - i ≤ kx ∧ Aside (SWK enc k w0 blk off (mvL d m n) wr))
      case atStart => exact ⟨m, 0, rfl, rfl, h3, Nat.le_refl _, S1⟩
      case round =>
        clear S1
        obtain ⟨c, n, rfl, hcn, hcE, hkx, S1⟩ := hrel
        by_cases hlt : i < c
        · have hltz : (i : Int) < (c : Int) := by omega
          have hz := mvL_size d m n
          obtain ⟨dk, hdk⟩ : ∃ dk, mvL d m n = dk := ⟨_, rfl⟩
          rw [hdk] at S1 hz
          obtain ⟨t, rfl⟩ : ∃ t, c = t + 1 := ⟨c - 1, by omega⟩
          have hsw : Hid (mvL d m (n + 1) = swp dk (t + 1) t) := hide (by rw [mvL, hdk, show m - n = t + 1 by omega]; rfl)
          have wt : IntKind.i64.wrap ((t : Int) + 1 - 1) = (t : Int) := by rw [IntKind.wrap_i64]; omega
          have htm : t < m := by omega
          replace hcn := hide hcn
          go_wp2_with fail
          have ea26 : ((t : Int) + 1).toNat = t + 1 := by omega
          have pa26 : (0 : Int) ≤ (t : Int) + 1 := by omega
          have ba26 : (t : Int) + 1 < (d.size : Int) := by omega
          have ra26 : IntKind.i64.wrap ((t : Int) + 1) = (t : Int) + 1 := by rw [IntKind.wrap_i64]; omega
          have ec26 : ((t : Int)).toNat = t := by omega
          have pc26 : (0 : Int) ≤ (t : Int) := by omega
          have bc26 : (t : Int) < (d.size : Int) := by omega
          have rc26 : IntKind.i64.wrap ((t : Int)) = (t : Int) := by rw [IntKind.wrap_i64]; omega
          have S2 : Aside (SWK enc k w0 blk off (swp dk (t + 1) (t)) ((wr.drew.setCells blk (off + (t + 1) * k) (enc dk[t]!)).setCells blk (off + (t) * k) (enc dk[t + 1]!))) := S1.out.swapped R (t + 1) (t) (by omega) (by omega)
          have l26a := S1.out.ld1 R (by omega) Tryz.prog (t + 1) (by omega)
          have l26b := S1.out.ld1 R (by omega) Tryz.prog (t) (by omega)
          have s26a := S1.out.st1 R (by omega) Tryz.prog (t + 1) (by omega) dk[t]!
          have s26b := S1.out.st2 R (by omega) Tryz.prog (t + 1) (t) (by omega) (by omega) dk[t]! dk[t + 1]!
          have n26a : (enc dk[t + 1]!).length = k := R.hk _
          have n26b : (enc dk[t]!).length = k := R.hk _
          generalize enc dk[t + 1]! = cI26 at S2 l26a s26b n26a
          generalize enc dk[t]! = cJ26 at S2 l26b s26a s26b n26b
          clear S1
          go_big_region_o
          clear l26a l26b s26a s26b
          generalize (wr.drew.setCells blk (off + (t + 1) * k) cJ26).setCells blk (off + (t) * k) cI26 = w2 at S2 ⊢
          go_wp2
          go_roundg (t - i)
          case measure => omega
          case rel => exact ⟨t, n + 1, by go_num, by have := hcn.out; omega, by omega, Nat.le_refl _, by rw [hsw.out]; exact S2⟩
        · obtain rfl : c = i := by omega
          have hn : Hid (n = m - c) := hide (by omega)
          clear hcn
          go_wp2
          (try simp only [Exit.inBlock, Exit.then]); refine bodyPost_ret (results_none rfl _ _ _) rfl ?_
          exact ⟨rfl, by rw [hN.out, ← hn.out]; exact S1.out⟩
end
end Go.Proofs.YthejgholpkeldaaGreatDoor
