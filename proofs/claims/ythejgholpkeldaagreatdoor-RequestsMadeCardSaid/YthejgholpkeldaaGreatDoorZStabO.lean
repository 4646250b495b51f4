/- The walk of slices.symMergeCmpFunc at requests (printed by gen_symm.py). Conditions: the row's cells. The walk of slices.symMergeCmpFunc at requests: the general case (printed by gen_symm.py 2). Conditions: the row's cells. The walk of slices.symMergeCmpFunc at requests, out of its three cases. Conditions: the row's cells. -/
import Derived.Shelf.SlSortCmp.SiftDownK
import Derived.Shelf.SlSortCmp.KitK
import Derived.Shelf.SlSortCmp.ReverseRangeK
import Derived.Sort.LotA
import Derived.Test.YthejgholpkeldaaGreatDoorRows
import Derived.WalkKit
import Derived.WalkSpells
import Derived.WalkLawsBesides
import Derived.BigGuardPart
import Derived.Lib.Hide
import Derived.Laws.BitsAllLaws
import Derived.Laws.BitsLemmas
import Derived.Lib.LaidTab
import Derived.Test.YthejgholpkeldaaGreatDoorShelf
import Derived.Lib.ConvBytes
import Derived.Deep.QuietTactic
import Derived.BigQuiet
import Derived.Test.YthejgholpkeldaaGreatDoorZReqP
import Derived.Test.YthejgholpkeldaaGreatDoorZStabW
namespace Go.Proofs.YthejgholpkeldaaGreatDoor
open Go.RowKit Go.Lib Go.Sort Go.Shelf
set_option maxRecDepth 100000

theorem bs_go {p : Nat → Bool} {f i j q : Nat} (h : i < j) (hq : (i + j) / 2 = q) (hp : p q = true) : bs p (f + 1) i j = bs p f (q + 1) j := by
  rw [bs, if_pos h, hq, if_pos hp]
theorem bs_no {p : Nat → Bool} {f i j q : Nat} (h : i < j) (hq : (i + j) / 2 = q) (hp : p q = false) : bs p (f + 1) i j = bs p f i q := by
  rw [bs, if_pos h, hq, if_neg (by rw [hp]; decide)]
theorem bs_done {p : Nat → Bool} {f i j : Nat} (h : ¬ i < j) : bs p f i j = i := by
  cases f with
  | zero => rfl
  | succ f => rw [bs, if_neg h]

section
variable {α : Type} [Inhabited α]
theorem symM_size (lt : α → α → Bool) : ∀ (f : Nat) (d : Array α) (a m b : Nat), (symM lt f d a m b).size = d.size
  | 0, d, a, m, b => rfl
  | f + 1, d, a, m, b => by
    rw [symM]
    split
    · exact mvR_size _ _ _
    · split
      · exact mvL_size _ _ _
      · dsimp only
        split
        · rw [symM_size lt f]
          split
          · rw [symM_size lt f]
            split
            · exact rot_size _ _ _ _ _
            · rfl
          · split
            · exact rot_size _ _ _ _ _
            · rfl
        · split
          · rw [symM_size lt f]
            split
            · exact rot_size _ _ _ _ _
            · rfl
          · split
            · exact rot_size _ _ _ _ _
            · rfl
set_option maxHeartbeats 8000000 in
theorem sym1_walk (k : Nat) (aE : ∀ w, (isAgg 53).run Tryz.prog w = .ok true w) (zE : ∀ w, (Go.sizeOf 53).run Tryz.prog w = .ok k w) (enc : α → List Value) (cf : α → α → Int) (g : Nat) (cb : Array Value) (blk off cap : Nat) (d0 : Array α) (w0 : World) (eg : ∀ args w, (callFunc g args).run Tryz.prog w = .ok (.enter g args) w) (hcmp : CmpLays Tryz.prog g cb enc k cf blk off d0.size w0) (R : RowK enc k w0 blk off d0) (a m b : Nat) (d : Array α) (w : World) (hs : d0.size = d.size) (S : SWK enc k w0 blk off d w) (ham : m = a + 1) (hmb : m < b) (hb : b ≤ d.size) (hsz : d.size < 4611686018427387904) :
    Calls Tryz.prog 142 #[.slice (some ⟨blk, off, none⟩) d.size cap, .int .i64 a, .int .i64 m, .int .i64 b, .func (.func g) #[] cb] w fun e w' => e = .returned (.tuple #[]) ∧ SWK enc k w0 blk off (mvR d a (bs (fun h => ltOf cf d[h]! d[a]!) b m b - 1 - a)) w' := by
  have mixed : Tryz.prog.follows Departure.mixedOrders = true := by kernel_rfl
  have HC : Aside _ := hcmp
  have S0 : Aside (SWK enc k w0 blk off d w) := S
  clear S hcmp
  have w1 : IntKind.i64.wrap ((m : Int) - (a : Int)) = 1 := by rw [IntKind.wrap_i64]; omega
  have hma : a < m := by omega
  replace ham := hide ham
  obtain ⟨pr, hpr⟩ : ∃ pr : Nat → Bool, ∀ h, pr h = ltOf cf d[h]! d[a]! := ⟨_, fun _ => rfl⟩
  have hpe : (fun h => ltOf cf d[h]! d[a]!) = pr := funext fun h => (hpr h).symm
  rw [hpe]
  clear hpe
  replace hpr := hide hpr
  obtain ⟨H, Hh⟩ : ∃ H, bs pr b m b = H := ⟨_, rfl⟩
  rw [Hh]
  replace Hh := hide Hh
  go_enter Tryz.func142, Tryz.ntmps142
  go_wp2
  go_loopg [10, 11] b (fun kx si sj wr => ∃ (i j : Nat), si = .int .i64 i ∧ sj = .int .i64 j ∧ m ≤ i ∧ i ≤ j ∧ j ≤ b ∧ j - i ≤ kx ∧ Aside (SWK enc k w0 blk off d wr) ∧ Hid (bs pr kx i j = H))
  case atStart => exact ⟨m, b, rfl, rfl, Nat.le_refl _, by omega, Nat.le_refl _, by omega, S0, Hh⟩
  case round =>
    clear S0
    obtain ⟨i, j, rfl, rfl, h1, h2, h3, hkx, S1, HB⟩ := hrel
    by_cases hlt : i < j
    · have hltz : (i : Int) < (j : Int) := by omega
      obtain ⟨f1, rfl⟩ : ∃ f1, gk = f1 + 1 := ⟨gk - 1, by omega⟩
      obtain ⟨q, hq⟩ : ∃ q, (i + j) / 2 = q := ⟨_, rfl⟩
      have hm : ((i : Int) + (j : Int)) / 2 = (q : Int) := by omega
      have hqi : i ≤ q ∧ q < j := by omega
      replace hq := hide hq
      have hprq := hpr.out q
      cases hL : ltOf cf d[q]! d[a]! with
      | true =>
        have hb : Hid (pr q = true) := hide (by rw [hprq, hL])
        clear hprq
        have ea21 : ((q : Int)).toNat = q := by omega
        have pa21 : (0 : Int) ≤ (q : Int) := by omega
        have ba21 : (q : Int) < (d.size : Int) := by omega
        have ra21 : IntKind.i64.wrap ((q : Int)) = (q : Int) := by rw [IntKind.wrap_i64]; omega
        have ec21 : ((a : Int)).toNat = a := by omega
        have pc21 : (0 : Int) ≤ (a : Int) := by omega
        have bc21 : (a : Int) < (d.size : Int) := by omega
        have rc21 : IntKind.i64.wrap ((a : Int)) = (a : Int) := by rw [IntKind.wrap_i64]; omega
        obtain ⟨x21, hx21⟩ : ∃ x, x = d[q]! := ⟨_, rfl⟩
        obtain ⟨y21, hy21⟩ : ∃ x, x = d[a]! := ⟨_, rfl⟩
        have l21a := S1.out.ld R (by omega) Tryz.prog (q) (by omega)
        have l21b := S1.out.ld R (by omega) Tryz.prog (a) (by omega)
        rw [← hx21] at l21a
        rw [← hy21] at l21b
        have hc21 := S1.out.cmp HC.out (by omega) x21 y21
        have hv21 : cf x21 y21 < 0 := by rw [hx21, hy21]; exact of_decide_eq_true hL
        have hd21 : decide (cf x21 y21 < 0) = true := decide_eq_true hv21
        clear hx21 hy21
        go_wp2_with fail
        go_quiet_grown (first | (go_at_fn g; refine Calls.grown_of (hc21 _ _)))
        have S2 : Aside (SWK enc k w0 blk off d (grow (wr.drewN nq) osq)) := S1.out.grown nq osq
        clear l21a l21b hc21 S1
        generalize grow (wr.drewN nq) osq = w2 at S2 ⊢
        clear nq osq
        go_wp2
        go_roundg f1
        case measure => omega
        case rel => exact ⟨q + 1, j, by go_num, rfl, by omega, by omega, h3, by omega, S2, hide ((bs_go hlt hq.out hb.out).symm.trans HB.out)⟩
      | false =>
        have hb : Hid (pr q = false) := hide (by rw [hprq, hL])
        clear hprq
        have ea22 : ((q : Int)).toNat = q := by omega
        have pa22 : (0 : Int) ≤ (q : Int) := by omega
        have ba22 : (q : Int) < (d.size : Int) := by omega
        have ra22 : IntKind.i64.wrap ((q : Int)) = (q : Int) := by rw [IntKind.wrap_i64]; omega
        have ec22 : ((a : Int)).toNat = a := by omega
        have pc22 : (0 : Int) ≤ (a : Int) := by omega
        have bc22 : (a : Int) < (d.size : Int) := by omega
        have rc22 : IntKind.i64.wrap ((a : Int)) = (a : Int) := by rw [IntKind.wrap_i64]; omega
        obtain ⟨x22, hx22⟩ : ∃ x, x = d[q]! := ⟨_, rfl⟩
        obtain ⟨y22, hy22⟩ : ∃ x, x = d[a]! := ⟨_, rfl⟩
        have l22a := S1.out.ld R (by omega) Tryz.prog (q) (by omega)
        have l22b := S1.out.ld R (by omega) Tryz.prog (a) (by omega)
        rw [← hx22] at l22a
        rw [← hy22] at l22b
        have hc22 := S1.out.cmp HC.out (by omega) x22 y22
        have hv22 : ¬ cf x22 y22 < 0 := by rw [hx22, hy22]; exact of_decide_eq_false hL
        have hd22 : decide (cf x22 y22 < 0) = false := decide_eq_false hv22
        clear hx22 hy22
        go_wp2_with fail
        go_quiet_grown (first | (go_at_fn g; refine Calls.grown_of (hc22 _ _)))
        have S2 : Aside (SWK enc k w0 blk off d (grow (wr.drewN nq) osq)) := S1.out.grown nq osq
        clear l22a l22b hc22 S1
        generalize grow (wr.drewN nq) osq = w2 at S2 ⊢
        clear nq osq
        go_wp2
        go_roundg f1
        case measure => omega
        case rel => exact ⟨i, q, rfl, by go_num, h1, by omega, by omega, by omega, S2, hide ((bs_no hlt hq.out hb.out).symm.trans HB.out)⟩
    · obtain rfl : i = j := by omega
      have hiH : i = H := by rw [← HB.out]; exact (bs_done (Nat.lt_irrefl _)).symm
      obtain ⟨E, hE⟩ : ∃ E, i - 1 = E := ⟨_, rfl⟩
      have w2 : IntKind.i64.wrap ((i : Int) - 1) = (E : Int) := by rw [IntKind.wrap_i64]; omega
      have hEa : a ≤ E ∧ E < d.size := by omega
      have hN : H - 1 - a = E - a := by omega
      replace hN := hide hN
      clear hiH HB Hh hpr
      go_wp2_with fail
      go_loopg [13] (E - a) (fun kx sc wr => ∃ (c n : Nat), sc = .int .i64 c ∧ c = a + n ∧ c ≤ E ∧ E - c ≤ kx ∧ Aside (SWK enc k w0 blk off (mvR d a n) wr))
      case atStart => exact ⟨a, 0, rfl, rfl, hEa.1, Nat.le_refl _, S1⟩
      case round =>
        clear S1
        obtain ⟨c, n, rfl, hcn, hcE, hkx, S1⟩ := hrel
        by_cases hlt : c < E
        · have hltz : (c : Int) < (E : Int) := by omega
          have hz := mvR_size d a n
          obtain ⟨dk, hdk⟩ : ∃ dk, mvR d a n = dk := ⟨_, rfl⟩
          rw [hdk] at S1 hz
          have hsw : Hid (mvR d a (n + 1) = swp dk c (c + 1)) := hide (by rw [mvR, hdk, ← hcn])
          replace hcn := hide hcn
          go_wp2_with fail
          have ea23 : ((c : Int)).toNat = c := by omega
          have pa23 : (0 : Int) ≤ (c : Int) := by omega
          have ba23 : (c : Int) < (d.size : Int) := by omega
          have ra23 : IntKind.i64.wrap ((c : Int)) = (c : Int) := by rw [IntKind.wrap_i64]; omega
          have ec23 : ((c : Int) + 1).toNat = c + 1 := by omega
          have pc23 : (0 : Int) ≤ (c : Int) + 1 := by omega
          have bc23 : (c : Int) + 1 < (d.size : Int) := by omega
          have rc23 : IntKind.i64.wrap ((c : Int) + 1) = (c : Int) + 1 := by rw [IntKind.wrap_i64]; omega
          have S2 : Aside (SWK enc k w0 blk off (swp dk (c) (c + 1)) ((wr.drew.setCells blk (off + (c) * k) (enc dk[c + 1]!)).setCells blk (off + (c + 1) * k) (enc dk[c]!))) := S1.out.swapped R (c) (c + 1) (by omega) (by omega)
          have l23a := S1.out.ld1 R (by omega) Tryz.prog (c) (by omega)
          have l23b := S1.out.ld1 R (by omega) Tryz.prog (c + 1) (by omega)
          have s23a := S1.out.st1 R (by omega) Tryz.prog (c) (by omega) dk[c + 1]!
          have s23b := S1.out.st2 R (by omega) Tryz.prog (c) (c + 1) (by omega) (by omega) dk[c + 1]! dk[c]!
          have n23a : (enc dk[c]!).length = k := R.hk _
          have n23b : (enc dk[c + 1]!).length = k := R.hk _
          generalize enc dk[c]! = cI23 at S2 l23a s23b n23a
          generalize enc dk[c + 1]! = cJ23 at S2 l23b s23a s23b n23b
          clear S1
          go_big_region_o
          clear l23a l23b s23a s23b
          generalize (wr.drew.setCells blk (off + (c) * k) cJ23).setCells blk (off + (c + 1) * k) cI23 = w2 at S2 ⊢
          go_wp2
          go_roundg (E - (c + 1))
          case measure => omega
          case rel => exact ⟨c + 1, n + 1, by go_num, by rw [hcn.out]; omega, by omega, Nat.le_refl _, by rw [hsw.out]; exact S2⟩
        · obtain rfl : c = E := by omega
          have hn : Hid (n = c - a) := hide (by omega)
          clear hcn
          go_wp2
          (try simp only [Exit.inBlock, Exit.then]); refine bodyPost_ret (results_none rfl _ _ _) rfl ?_
          exact ⟨rfl, by rw [hN.out, ← hn.out]; exact S1.out⟩
set_option maxHeartbeats 8000000 in
theorem sym2_walk (k : Nat) (aE : ∀ w, (isAgg 53).run Tryz.prog w = .ok true w) (zE : ∀ w, (Go.sizeOf 53).run Tryz.prog w = .ok k w) (enc : α → List Value) (cf : α → α → Int) (g : Nat) (cb : Array Value) (blk off cap : Nat) (d0 : Array α) (w0 : World) (eg : ∀ args w, (callFunc g args).run Tryz.prog w = .ok (.enter g args) w) (hcmp : CmpLays Tryz.prog g cb enc k cf blk off d0.size w0) (R : RowK enc k w0 blk off d0) (a m b : Nat) (d : Array α) (w : World) (hs : d0.size = d.size) (S : SWK enc k w0 blk off d w) (ham : a < m) (hne : m - a ≠ 1) (hmb : b = m + 1) (hb : b ≤ d.size) (hsz : d.size < 4611686018427387904) :
    Calls Tryz.prog 142 #[.slice (some ⟨blk, off, none⟩) d.size cap, .int .i64 a, .int .i64 m, .int .i64 b, .func (.func g) #[] cb] w fun e w' => e = .returned (.tuple #[]) ∧ SWK enc k w0 blk off (mvL d m (m - bs (fun h => !ltOf cf d[m]! d[h]!) m a m)) w' := by
  have mixed : Tryz.prog.follows Departure.mixedOrders = true := by kernel_rfl
  have HC : Aside _ := hcmp
  have S0 : Aside (SWK enc k w0 blk off d w) := S
  clear S hcmp
  obtain ⟨q1, hq1⟩ : ∃ q1, m - a = q1 := ⟨_, rfl⟩
  have w1 : IntKind.i64.wrap ((m : Int) - (a : Int)) = (q1 : Int) := by rw [IntKind.wrap_i64]; omega
  have w2 : IntKind.i64.wrap ((b : Int) - (m : Int)) = 1 := by rw [IntKind.wrap_i64]; omega
  have q1n : ((q1 : Int) == 1) = false := beq_eq_false_iff_ne.mpr (by omega)
  have hmd : m < d.size := by omega
  replace hq1 := hide hq1
  clear hne
  replace hmb := hide hmb
  obtain ⟨pr, hpr⟩ : ∃ pr : Nat → Bool, ∀ h, pr h = !ltOf cf d[m]! d[h]! := ⟨_, fun _ => rfl⟩
  have hpe : (fun h => !ltOf cf d[m]! d[h]!) = pr := funext fun h => (hpr h).symm
  rw [hpe]
  clear hpe
  replace hpr := hide hpr
  obtain ⟨H, Hh⟩ : ∃ H, bs pr m a m = H := ⟨_, rfl⟩
  rw [Hh]
  replace Hh := hide Hh
  go_enter Tryz.func142, Tryz.ntmps142
  go_wp2_with fail
  go_loopg [14, 15] m (fun kx si sj wr => ∃ (i j : Nat), si = .int .i64 i ∧ sj = .int .i64 j ∧ a ≤ i ∧ i ≤ j ∧ j ≤ m ∧ j - i ≤ kx ∧ Aside (SWK enc k w0 blk off d wr) ∧ Hid (bs pr kx i j = H))
  case atStart => exact ⟨a, m, rfl, rfl, Nat.le_refl _, by omega, Nat.le_refl _, by omega, S0, Hh⟩
  case round =>
    clear S0
    obtain ⟨i, j, rfl, rfl, h1, h2, h3, hkx, S1, HB⟩ := hrel
    by_cases hlt : i < j
    · have hltz : (i : Int) < (j : Int) := by omega
      obtain ⟨f1, rfl⟩ : ∃ f1, gk = f1 + 1 := ⟨gk - 1, by omega⟩
      obtain ⟨q, hq⟩ : ∃ q, (i + j) / 2 = q := ⟨_, rfl⟩
      have hm : ((i : Int) + (j : Int)) / 2 = (q : Int) := by omega
      have hqi : i ≤ q ∧ q < j := by omega
      replace hq := hide hq
      have hprq := hpr.out q
      cases hL : ltOf cf d[m]! d[q]! with
      | true =>
        have hb : Hid (pr q = false) := hide (by rw [hprq, hL]; rfl)
        clear hprq
        have ea24 : ((m : Int)).toNat = m := by omega
        have pa24 : (0 : Int) ≤ (m : Int) := by omega
        have ba24 : (m : Int) < (d.size : Int) := by omega
        have ra24 : IntKind.i64.wrap ((m : Int)) = (m : Int) := by rw [IntKind.wrap_i64]; omega
        have ec24 : ((q : Int)).toNat = q := by omega
        have pc24 : (0 : Int) ≤ (q : Int) := by omega
        have bc24 : (q : Int) < (d.size : Int) := by omega
        have rc24 : IntKind.i64.wrap ((q : Int)) = (q : Int) := by rw [IntKind.wrap_i64]; omega
        obtain ⟨x24, hx24⟩ : ∃ x, x = d[m]! := ⟨_, rfl⟩
        obtain ⟨y24, hy24⟩ : ∃ x, x = d[q]! := ⟨_, rfl⟩
        have l24a := S1.out.ld R (by omega) Tryz.prog (m) (by omega)
        have l24b := S1.out.ld R (by omega) Tryz.prog (q) (by omega)
        rw [← hx24] at l24a
        rw [← hy24] at l24b
        have hc24 := S1.out.cmp HC.out (by omega) x24 y24
        have hv24 : cf x24 y24 < 0 := by rw [hx24, hy24]; exact of_decide_eq_true hL
        have hd24 : decide (cf x24 y24 < 0) = true := decide_eq_true hv24
        clear hx24 hy24
        go_wp2_with fail
        go_quiet_grown (first | (go_at_fn g; refine Calls.grown_of (hc24 _ _)))
        have S2 : Aside (SWK enc k w0 blk off d (grow (wr.drewN nq) osq)) := S1.out.grown nq osq
        clear l24a l24b hc24 S1
        generalize grow (wr.drewN nq) osq = w2 at S2 ⊢
        clear nq osq
        go_wp2
        go_roundg f1
        case measure => omega
        case rel => exact ⟨i, q, rfl, by go_num, h1, by omega, by omega, by omega, S2, hide ((bs_no hlt hq.out hb.out).symm.trans HB.out)⟩
      | false =>
        have hb : Hid (pr q = true) := hide (by rw [hprq, hL]; rfl)
        clear hprq
        have ea25 : ((m : Int)).toNat = m := by omega
        have pa25 : (0 : Int) ≤ (m : Int) := by omega
        have ba25 : (m : Int) < (d.size : Int) := by omega
        have ra25 : IntKind.i64.wrap ((m : Int)) = (m : Int) := by rw [IntKind.wrap_i64]; omega
        have ec25 : ((q : Int)).toNat = q := by omega
        have pc25 : (0 : Int) ≤ (q : Int) := by omega
        have bc25 : (q : Int) < (d.size : Int) := by omega
        have rc25 : IntKind.i64.wrap ((q : Int)) = (q : Int) := by rw [IntKind.wrap_i64]; omega
        obtain ⟨x25, hx25⟩ : ∃ x, x = d[m]! := ⟨_, rfl⟩
        obtain ⟨y25, hy25⟩ : ∃ x, x = d[q]! := ⟨_, rfl⟩
        have l25a := S1.out.ld R (by omega) Tryz.prog (m) (by omega)
        have l25b := S1.out.ld R (by omega) Tryz.prog (q) (by omega)
        rw [← hx25] at l25a
        rw [← hy25] at l25b
        have hc25 := S1.out.cmp HC.out (by omega) x25 y25
        have hv25 : ¬ cf x25 y25 < 0 := by rw [hx25, hy25]; exact of_decide_eq_false hL
        have hd25 : decide (cf x25 y25 < 0) = false := decide_eq_false hv25
        clear hx25 hy25
        go_wp2_with fail
        go_quiet_grown (first | (go_at_fn g; refine Calls.grown_of (hc25 _ _)))
        have S2 : Aside (SWK enc k w0 blk off d (grow (wr.drewN nq) osq)) := S1.out.grown nq osq
        clear l25a l25b hc25 S1
        generalize grow (wr.drewN nq) osq = w2 at S2 ⊢
        clear nq osq
        go_wp2
        go_roundg f1
        case measure => omega
        case rel => exact ⟨q + 1, j, by go_num, rfl, by omega, by omega, h3, by omega, S2, hide ((bs_go hlt hq.out hb.out).symm.trans HB.out)⟩
    · obtain rfl : i = j := by omega
      have hiH : i = H := by rw [← HB.out]; exact (bs_done (Nat.lt_irrefl _)).symm
      have hN : m - H = m - i := by omega
      replace hN := hide hN
      clear hiH HB Hh hpr
      go_wp2_with fail
      go_loopg [17] (m - i) (fun kx sc wr => ∃ (c n : Nat), sc = .int .i64 c ∧ c + n = m ∧ i ≤ c ∧ c - i ≤ kx ∧ Aside (SWK enc k w0 blk off (mvL d m n) wr))
      case atStart => exact ⟨m, 0, rfl, rfl, h3, Nat.le_refl _, S1⟩
      case round =>
        clear S1
        obtain ⟨c, n, rfl, hcn, hcE, hkx, S1⟩ := hrel
        by_cases hlt : i < c
        · have hltz : (i : Int) < (c : Int) := by omega
          have hz := mvL_size d m n
          obtain ⟨dk, hdk⟩ : ∃ dk, mvL d m n = dk := ⟨_, rfl⟩
          rw [hdk] at S1 hz
          obtain ⟨t, rfl⟩ : ∃ t, c = t + 1 := ⟨c - 1, by omega⟩
          have hsw : Hid (mvL d m (n + 1) = swp dk (t + 1) t) := hide (by rw [mvL, hdk, show m - n = t + 1 by omega]; rfl)
          have wt : IntKind.i64.wrap ((t : Int) + 1 - 1) = (t : Int) := by rw [IntKind.wrap_i64]; omega
          have htm : t < m := by omega
          replace hcn := hide hcn
          go_wp2_with fail
          have ea26 : ((t : Int) + 1).toNat = t + 1 := by omega
          have pa26 : (0 : Int) ≤ (t : Int) + 1 := by omega
          have ba26 : (t : Int) + 1 < (d.size : Int) := by omega
          have ra26 : IntKind.i64.wrap ((t : Int) + 1) = (t : Int) + 1 := by rw [IntKind.wrap_i64]; omega
          have ec26 : ((t : Int)).toNat = t := by omega
          have pc26 : (0 : Int) ≤ (t : Int) := by omega
          have bc26 : (t : Int) < (d.size : Int) := by omega
          have rc26 : IntKind.i64.wrap ((t : Int)) = (t : Int) := by rw [IntKind.wrap_i64]; omega
          have S2 : Aside (SWK enc k w0 blk off (swp dk (t + 1) (t)) ((wr.drew.setCells blk (off + (t + 1) * k) (enc dk[t]!)).setCells blk (off + (t) * k) (enc dk[t + 1]!))) := S1.out.swapped R (t + 1) (t) (by omega) (by omega)
          have l26a := S1.out.ld1 R (by omega) Tryz.prog (t + 1) (by omega)
          have l26b := S1.out.ld1 R (by omega) Tryz.prog (t) (by omega)
          have s26a := S1.out.st1 R (by omega) Tryz.prog (t + 1) (by omega) dk[t]!
          have s26b := S1.out.st2 R (by omega) Tryz.prog (t + 1) (t) (by omega) (by omega) dk[t]! dk[t + 1]!
          have n26a : (enc dk[t + 1]!).length = k := R.hk _
          have n26b : (enc dk[t]!).length = k := R.hk _
          generalize enc dk[t + 1]! = cI26 at S2 l26a s26b n26a
          generalize enc dk[t]! = cJ26 at S2 l26b s26a s26b n26b
          clear S1
          go_big_region_o
          clear l26a l26b s26a s26b
          generalize (wr.drew.setCells blk (off + (t + 1) * k) cJ26).setCells blk (off + (t) * k) cI26 = w2 at S2 ⊢
          go_wp2
          go_roundg (t - i)
          case measure => omega
          case rel => exact ⟨t, n + 1, by go_num, by have := hcn.out; omega, by omega, Nat.le_refl _, by rw [hsw.out]; exact S2⟩
        · obtain rfl : c = i := by omega
          have hn : Hid (n = m - c) := hide (by omega)
          clear hcn
          go_wp2
          (try simp only [Exit.inBlock, Exit.then]); refine bodyPost_ret (results_none rfl _ _ _) rfl ?_
          exact ⟨rfl, by rw [hN.out, ← hn.out]; exact S1.out⟩
end
end Go.Proofs.YthejgholpkeldaaGreatDoor

namespace Go.Proofs.YthejgholpkeldaaGreatDoor
open Go.RowKit Go.Lib Go.Sort Go.Shelf
set_option maxRecDepth 100000

section
variable {α : Type} [Inhabited α]
theorem symS_shape (pr : Nat → Bool) (lt : α → α → Bool) (d : Array α) (a m b : Nat) (ham : a < m) (hmb : m < b) (hpr : ∀ q, pr q = !lt d[(a + b) / 2 + m - 1 - q]! d[q]!) :
    ∃ st r F, symS lt d a m b = bs pr F st r ∧ r ≤ F ∧ st ≤ r ∧ r ≤ m ∧ r ≤ (a + b) / 2 ∧ a ≤ st ∧ (a + b) / 2 + m - st ≤ b ∧ ((a + b) / 2 < m → st = (a + b) / 2 + m - b ∧ r = (a + b) / 2) ∧ (¬ (a + b) / 2 < m → st = a ∧ r = m) := by
  have e : (fun c => !lt d[(a + b) / 2 + m - 1 - c]! d[c]!) = pr := funext fun q => (hpr q).symm
  by_cases h : (a + b) / 2 < m
  · exact ⟨(a + b) / 2 + m - b, (a + b) / 2, (a + b) / 2, by rw [symS, if_pos h, e], Nat.le_refl _, by omega, by omega, Nat.le_refl _, by omega, by omega, fun _ => ⟨rfl, rfl⟩, fun h' => absurd h h'⟩
  · exact ⟨a, m, m, by rw [symS, if_neg h, e], Nat.le_refl _, by omega, Nat.le_refl _, by omega, Nat.le_refl _, by omega, fun h' => absurd h' h, fun _ => ⟨rfl, rfl⟩⟩
set_option maxHeartbeats 8000000 in
theorem sym3_walk (k : Nat) (aE : ∀ w, (isAgg 53).run Tryz.prog w = .ok true w) (zE : ∀ w, (Go.sizeOf 53).run Tryz.prog w = .ok k w) (enc : α → List Value) (cf : α → α → Int) (g : Nat) (cb : Array Value) (blk off cap : Nat) (d0 : Array α) (w0 : World) (eg : ∀ args w, (callFunc g args).run Tryz.prog w = .ok (.enter g args) w) (hcmp : CmpLays Tryz.prog g cb enc k cf blk off d0.size w0) (R : RowK enc k w0 blk off d0) (f a m b : Nat) (d : Array α) (w : World) (IH : ∀ (a m b : Nat) (d : Array α) (w : World), b - a ≤ f → d0.size = d.size → SWK enc k w0 blk off d w → a < m → m < b → b ≤ d.size → d.size < 4611686018427387904 → Calls Tryz.prog 142 #[.slice (some ⟨blk, off, none⟩) d.size cap, .int .i64 a, .int .i64 m, .int .i64 b, .func (.func g) #[] cb] w fun e w' => e = .returned (.tuple #[]) ∧ SWK enc k w0 blk off (symM (ltOf cf) f d a m b) w') (hf : b - a ≤ f + 1) (hs : d0.size = d.size) (S : SWK enc k w0 blk off d w) (ham : a < m) (hmb : m < b) (hne : m - a ≠ 1) (hne2 : b - m ≠ 1) (hb : b ≤ d.size) (hsz : d.size < 4611686018427387904) :
    Calls Tryz.prog 142 #[.slice (some ⟨blk, off, none⟩) d.size cap, .int .i64 a, .int .i64 m, .int .i64 b, .func (.func g) #[] cb] w fun e w' => e = .returned (.tuple #[]) ∧ SWK enc k w0 blk off (symM (ltOf cf) (f + 1) d a m b) w' := by
  have mixed : Tryz.prog.follows Departure.mixedOrders = true := by kernel_rfl
  have HC : Aside _ := hcmp
  have S0 : Aside (SWK enc k w0 blk off d w) := S
  clear S hcmp
  have IH0 : Aside _ := IH
  clear IH
  obtain ⟨q1, hq1⟩ : ∃ q1, m - a = q1 := ⟨_, rfl⟩
  have w1 : IntKind.i64.wrap ((m : Int) - (a : Int)) = (q1 : Int) := by rw [IntKind.wrap_i64]; omega
  have q1n : ((q1 : Int) == 1) = false := beq_eq_false_iff_ne.mpr (by omega)
  obtain ⟨q2, hq2⟩ : ∃ q2, b - m = q2 := ⟨_, rfl⟩
  have w2 : IntKind.i64.wrap ((b : Int) - (m : Int)) = (q2 : Int) := by rw [IntKind.wrap_i64]; omega
  have q2n : ((q2 : Int) == 1) = false := beq_eq_false_iff_ne.mpr (by omega)
  clear hq1 hq2
  rw [symM, if_neg hne, if_neg hne2]
  clear hne hne2
  obtain ⟨pr, hpr⟩ : ∃ pr : Nat → Bool, ∀ q, pr q = !ltOf cf d[(a + b) / 2 + m - 1 - q]! d[q]! := ⟨_, fun _ => rfl⟩
  obtain ⟨st, r, F, hsh, hrF, s1, s2, s3, s4, s5, s6, s7⟩ := symS_shape pr (ltOf cf) d a m b ham hmb hpr
  obtain ⟨mid, hmid⟩ : ∃ mid, (a + b) / 2 = mid := ⟨_, rfl⟩
  have wm : ((a : Int) + (b : Int)) / 2 = (mid : Int) := by omega
  simp only [hmid] at s3 s5 s6 s7 hpr ⊢
  obtain ⟨N, hN⟩ : ∃ N, mid + m = N := ⟨_, rfl⟩
  have wn : IntKind.i64.wrap ((mid : Int) + (m : Int)) = (N : Int) := by rw [IntKind.wrap_i64]; omega
  obtain ⟨P1, hP⟩ : ∃ P1, N - 1 = P1 := ⟨_, rfl⟩
  have wp : IntKind.i64.wrap ((N : Int) - 1) = (P1 : Int) := by rw [IntKind.wrap_i64]; omega
  have ws : mid < m → IntKind.i64.wrap ((N : Int) - (b : Int)) = (st : Int) ∧ r = mid := fun h => ⟨by rw [IntKind.wrap_i64]; have := s6 h; omega, (s6 h).2⟩
  simp only [hN] at s5 hpr ⊢
  simp only [hP] at hpr
  have hfm : mid - a ≤ f ∧ b - mid ≤ f ∧ a < mid ∧ mid < b := by omega
  have hPb : P1 + 1 = N ∧ m ≤ N := by omega
  obtain ⟨H, Hh⟩ : ∃ H, symS (ltOf cf) d a m b = H := ⟨_, rfl⟩
  rw [Hh] at hsh ⊢
  clear Hh s6 hf
  obtain ⟨e, he⟩ : ∃ e, N - H = e := ⟨_, rfl⟩
  simp only [he]
  obtain ⟨D1, hD1⟩ : ∃ D1, (if H < m ∧ m < e then rot d m (e - H) (m - H) (e - m) else d) = D1 := ⟨_, rfl⟩
  rw [hD1]
  obtain ⟨D2, hD2⟩ : ∃ D2, (if a < H ∧ H < mid then symM (ltOf cf) f D1 a H mid else D1) = D2 := ⟨_, rfl⟩
  rw [hD2]
  obtain ⟨D3, hD3⟩ : ∃ D3, (if mid < e ∧ e < b then symM (ltOf cf) f D2 mid e b else D2) = D3 := ⟨_, rfl⟩
  rw [hD3]
  have z1 : Hid (D1.size = d.size) := hide (by rw [← hD1]; split; exact rot_size _ _ _ _ _; rfl)
  have z2 : Hid (D2.size = d.size) := hide (by rw [← hD2]; split; rw [symM_size, z1.out]; exact z1.out)
  replace he := hide he
  replace hD1 := hide hD1
  replace hD2 := hide hD2
  replace hD3 := hide hD3
  replace hmid := hide hmid
  replace hN := hide hN
  replace hP := hide hP
  replace hpr := hide hpr
  have Hh : Hid (bs pr F st r = H) := hide hsh.symm
  clear hsh
  replace ws := hide ws
  replace s7 := hide s7
  go_enter Tryz.func142, Tryz.ntmps142
  go_upto_if 140 with fail
  go_cut [20, 21] (fun s20 s21 V => s20 = .int .i64 st ∧ s21 = .int .i64 r ∧ Aside (SWK enc k w0 blk off d V))
  case first =>
    by_cases hmm : mid < m
    · have hmz : (mid : Int) < (m : Int) := by omega
      obtain ⟨ws1, rfl⟩ := ws.out hmm
      go_wp2_with fail
      go_meet
      exact ⟨rfl, rfl, S0⟩
    · have hmz : ¬ (mid : Int) < (m : Int) := by omega
      obtain ⟨rfl, rfl⟩ := s7.out hmm
      go_wp2_with fail
      go_meet
      exact ⟨rfl, rfl, S0⟩
  case rest =>
    clear S0 w1 w2 q1n q2n ws s7
    obtain ⟨rfl, rfl, S0⟩ := hcut
    go_wp2_with fail
    go_loopg [20, 21] F (fun kx si sj wr => ∃ (i j : Nat), si = .int .i64 i ∧ sj = .int .i64 j ∧ st ≤ i ∧ i ≤ j ∧ j ≤ r ∧ j - i ≤ kx ∧ Aside (SWK enc k w0 blk off d wr) ∧ Hid (bs pr kx i j = H))
    case atStart => exact ⟨st, r, rfl, rfl, Nat.le_refl _, by omega, Nat.le_refl _, by omega, S0, Hh⟩
    case round =>
      clear S0
      obtain ⟨i, j, rfl, rfl, h1, h2, h3, hkx, S1, HB⟩ := hrel
      by_cases hlt : i < j
      · have hltz : (i : Int) < (j : Int) := by omega
        obtain ⟨f1, rfl⟩ : ∃ f1, gk = f1 + 1 := ⟨gk - 1, by omega⟩
        obtain ⟨q, hq⟩ : ∃ q, (i + j) / 2 = q := ⟨_, rfl⟩
        have hm : ((i : Int) + (j : Int)) / 2 = (q : Int) := by omega
        have hqi : i ≤ q ∧ q < j := by omega
        replace hq := hide hq
        obtain ⟨z, hz⟩ : ∃ z, P1 - q = z := ⟨_, rfl⟩
        have wz : IntKind.i64.wrap ((P1 : Int) - (q : Int)) = (z : Int) := by rw [IntKind.wrap_i64]; omega
        have hzd : z < d.size := by omega
        replace hz := hide hz
        have hprq := hpr.out q
        rw [hz.out] at hprq
        cases hL : ltOf cf d[z]! d[q]! with
        | true =>
          have hb : Hid (pr q = false) := hide (by rw [hprq, hL]; rfl)
          clear hprq
          have ea27 : ((z : Int)).toNat = z := by omega
          have pa27 : (0 : Int) ≤ (z : Int) := by omega
          have ba27 : (z : Int) < (d.size : Int) := by omega
          have ra27 : IntKind.i64.wrap ((z : Int)) = (z : Int) := by rw [IntKind.wrap_i64]; omega
          have ec27 : ((q : Int)).toNat = q := by omega
          have pc27 : (0 : Int) ≤ (q : Int) := by omega
          have bc27 : (q : Int) < (d.size : Int) := by omega
          have rc27 : IntKind.i64.wrap ((q : Int)) = (q : Int) := by rw [IntKind.wrap_i64]; omega
          obtain ⟨x27, hx27⟩ : ∃ x, x = d[z]! := ⟨_, rfl⟩
          obtain ⟨y27, hy27⟩ : ∃ x, x = d[q]! := ⟨_, rfl⟩
          have l27a := S1.out.ld R (by omega) Tryz.prog (z) (by omega)
          have l27b := S1.out.ld R (by omega) Tryz.prog (q) (by omega)
          rw [← hx27] at l27a
          rw [← hy27] at l27b
          have hc27 := S1.out.cmp HC.out (by omega) x27 y27
          have hv27 : cf x27 y27 < 0 := by rw [hx27, hy27]; exact of_decide_eq_true hL
          have hd27 : decide (cf x27 y27 < 0) = true := decide_eq_true hv27
          clear hx27 hy27
          go_wp2_with fail
          go_quiet_grown (first | (go_at_fn g; refine Calls.grown_of (hc27 _ _)))
          have S2 : Aside (SWK enc k w0 blk off d (grow (wr.drewN nq) osq)) := S1.out.grown nq osq
          clear l27a l27b hc27 S1
          generalize grow (wr.drewN nq) osq = w2 at S2 ⊢
          clear nq osq
          go_wp2
          go_roundg f1
          case measure => omega
          case rel => exact ⟨i, q, rfl, by go_num, h1, by omega, by omega, by omega, S2, hide ((bs_no hlt hq.out hb.out).symm.trans HB.out)⟩
        | false =>
          have hb : Hid (pr q = true) := hide (by rw [hprq, hL]; rfl)
          clear hprq
          have ea28 : ((z : Int)).toNat = z := by omega
          have pa28 : (0 : Int) ≤ (z : Int) := by omega
          have ba28 : (z : Int) < (d.size : Int) := by omega
          have ra28 : IntKind.i64.wrap ((z : Int)) = (z : Int) := by rw [IntKind.wrap_i64]; omega
          have ec28 : ((q : Int)).toNat = q := by omega
          have pc28 : (0 : Int) ≤ (q : Int) := by omega
          have bc28 : (q : Int) < (d.size : Int) := by omega
          have rc28 : IntKind.i64.wrap ((q : Int)) = (q : Int) := by rw [IntKind.wrap_i64]; omega
          obtain ⟨x28, hx28⟩ : ∃ x, x = d[z]! := ⟨_, rfl⟩
          obtain ⟨y28, hy28⟩ : ∃ x, x = d[q]! := ⟨_, rfl⟩
          have l28a := S1.out.ld R (by omega) Tryz.prog (z) (by omega)
          have l28b := S1.out.ld R (by omega) Tryz.prog (q) (by omega)
          rw [← hx28] at l28a
          rw [← hy28] at l28b
          have hc28 := S1.out.cmp HC.out (by omega) x28 y28
          have hv28 : ¬ cf x28 y28 < 0 := by rw [hx28, hy28]; exact of_decide_eq_false hL
          have hd28 : decide (cf x28 y28 < 0) = false := decide_eq_false hv28
          clear hx28 hy28
          go_wp2_with fail
          go_quiet_grown (first | (go_at_fn g; refine Calls.grown_of (hc28 _ _)))
          have S2 : Aside (SWK enc k w0 blk off d (grow (wr.drewN nq) osq)) := S1.out.grown nq osq
          clear l28a l28b hc28 S1
          generalize grow (wr.drewN nq) osq = w2 at S2 ⊢
          clear nq osq
          go_wp2
          go_roundg f1
          case measure => omega
          case rel => exact ⟨q + 1, j, by go_num, rfl, by omega, by omega, h3, by omega, S2, hide ((bs_go hlt hq.out hb.out).symm.trans HB.out)⟩
      · obtain rfl : i = j := by omega
        have hiH : i = H := by rw [← HB.out]; exact (bs_done (Nat.lt_irrefl _)).symm
        clear HB Hh hpr
        subst hiH
        have we : IntKind.i64.wrap ((N : Int) - (i : Int)) = (e : Int) := by have := he.out; rw [IntKind.wrap_i64]; omega
        have facts : Hid (e + i = mid + m ∧ e ≤ b ∧ a ≤ i ∧ i ≤ m ∧ i ≤ mid) := hide (by have := he.out; have := hN.out; omega)
        clear he
        have S8 : Aside _ := S1
        clear S1 HC wn wp wm hPb hlt hkx h1 h2 h3 s1 s2 s3 s4 s5 hrF
        go_upto_region 39 with fail
        by_cases hX1 : i < m
        · have hXz1 : (i : Int) < (m : Int) := by omega
          by_cases hY1 : m < e
          · have hYz1 : (m : Int) < (e : Int) := by omega
            go_wp2_with fail
            refine (rot_walk k aE zE enc g cb blk off cap i m e d0 d _ _ R hs S8.out hX1 hY1 (by have := facts.out; omega) hsz).mono ?_
            rintro e9 w9 ⟨rfl, S9⟩
            have S9 : Aside (SWK enc k w0 blk off D1 w9) := by rw [← hD1.out, if_pos ⟨hX1, hY1⟩]; exact S9
            clear S8
            have S8 : Aside _ := S9
            clear S9
            go_upto_region 41 with fail
            by_cases hX2 : a < i
            · have hXz2 : (a : Int) < (i : Int) := by omega
              by_cases hY2 : i < mid
              · have hYz2 : (i : Int) < (mid : Int) := by omega
                go_wp2_with fail
                have hc := IH0.out a i mid D1 _ hfm.1 (by first | (rw [z1.out]; exact hs) | exact hs) S8.out hX2 hY2 (by first | (rw [z1.out]; omega) | omega) (by first | (rw [z1.out]; exact hsz) | exact hsz)
                try rw [z1.out] at hc
                refine hc.mono ?_
                rintro e9 w9 ⟨rfl, S9⟩
                have S9 : Aside (SWK enc k w0 blk off D2 w9) := by rw [← hD2.out, if_pos ⟨hX2, hY2⟩]; exact S9
                clear S8
                have S8 : Aside _ := S9
                clear S9
                go_upto_region 43 with fail
                by_cases hX3 : mid < e
                · have hXz3 : (mid : Int) < (e : Int) := by omega
                  by_cases hY3 : e < b
                  · have hYz3 : (e : Int) < (b : Int) := by omega
                    go_wp2_with fail
                    have hc := IH0.out mid e b D2 _ hfm.2.1 (by first | (rw [z2.out]; exact hs) | exact hs) S8.out hX3 hY3 (by first | (rw [z2.out]; exact hb) | exact hb) (by first | (rw [z2.out]; exact hsz) | exact hsz)
                    try rw [z2.out] at hc
                    refine hc.mono ?_
                    rintro e9 w9 ⟨rfl, S9⟩
                    have S9 : Aside (SWK enc k w0 blk off D3 w9) := by rw [← hD3.out, if_pos ⟨hX3, hY3⟩]; exact S9
                    clear S8
                    have S8 : Aside _ := S9
                    clear S9
                    go_wp2_with fail
                    go_end0
                    exact ⟨rfl, S8.out⟩
                  · have hYz3 : ¬ (e : Int) < (b : Int) := by omega
                    obtain rfl : D2 = D3 := by rw [← hD3.out, if_neg (fun h => hY3 h.2)]
                    go_wp2_with fail
                    go_end0
                    exact ⟨rfl, S8.out⟩
                · exfalso; have := facts.out; omega
              · exfalso; have := facts.out; omega
            · have hXz2 : ¬ (a : Int) < (i : Int) := by omega
              obtain rfl : D1 = D2 := by rw [← hD2.out, if_neg (fun h => hX2 h.1)]
              go_upto_region 43 with fail
              by_cases hX3 : mid < e
              · have hXz3 : (mid : Int) < (e : Int) := by omega
                by_cases hY3 : e < b
                · have hYz3 : (e : Int) < (b : Int) := by omega
                  go_wp2_with fail
                  have hc := IH0.out mid e b D1 _ hfm.2.1 (by first | (rw [z2.out]; exact hs) | exact hs) S8.out hX3 hY3 (by first | (rw [z2.out]; exact hb) | exact hb) (by first | (rw [z2.out]; exact hsz) | exact hsz)
                  try rw [z2.out] at hc
                  refine hc.mono ?_
                  rintro e9 w9 ⟨rfl, S9⟩
                  have S9 : Aside (SWK enc k w0 blk off D3 w9) := by rw [← hD3.out, if_pos ⟨hX3, hY3⟩]; exact S9
                  clear S8
                  have S8 : Aside _ := S9
                  clear S9
                  go_wp2_with fail
                  go_end0
                  exact ⟨rfl, S8.out⟩
                · have hYz3 : ¬ (e : Int) < (b : Int) := by omega
                  obtain rfl : D1 = D3 := by rw [← hD3.out, if_neg (fun h => hY3 h.2)]
                  go_wp2_with fail
                  go_end0
                  exact ⟨rfl, S8.out⟩
              · exfalso; have := facts.out; omega
          · have hYz1 : ¬ (m : Int) < (e : Int) := by omega
            obtain rfl : d = D1 := by rw [← hD1.out, if_neg (fun h => hY1 h.2)]
            go_upto_region 41 with fail
            by_cases hX2 : a < i
            · have hXz2 : (a : Int) < (i : Int) := by omega
              by_cases hY2 : i < mid
              · exfalso; have := facts.out; omega
              · have hYz2 : ¬ (i : Int) < (mid : Int) := by omega
                obtain rfl : d = D2 := by rw [← hD2.out, if_neg (fun h => hY2 h.2)]
                go_upto_region 43 with fail
                by_cases hX3 : mid < e
                · have hXz3 : (mid : Int) < (e : Int) := by omega
                  by_cases hY3 : e < b
                  · have hYz3 : (e : Int) < (b : Int) := by omega
                    go_wp2_with fail
                    have hc := IH0.out mid e b d _ hfm.2.1 (by first | (rw [z2.out]; exact hs) | exact hs) S8.out hX3 hY3 (by first | (rw [z2.out]; exact hb) | exact hb) (by first | (rw [z2.out]; exact hsz) | exact hsz)
                    try rw [z2.out] at hc
                    refine hc.mono ?_
                    rintro e9 w9 ⟨rfl, S9⟩
                    have S9 : Aside (SWK enc k w0 blk off D3 w9) := by rw [← hD3.out, if_pos ⟨hX3, hY3⟩]; exact S9
                    clear S8
                    have S8 : Aside _ := S9
                    clear S9
                    go_wp2_with fail
                    go_end0
                    exact ⟨rfl, S8.out⟩
                  · have hYz3 : ¬ (e : Int) < (b : Int) := by omega
                    obtain rfl : d = D3 := by rw [← hD3.out, if_neg (fun h => hY3 h.2)]
                    go_wp2_with fail
                    go_end0
                    exact ⟨rfl, S8.out⟩
                · exfalso; have := facts.out; omega
            · have hXz2 : ¬ (a : Int) < (i : Int) := by omega
              obtain rfl : d = D2 := by rw [← hD2.out, if_neg (fun h => hX2 h.1)]
              go_upto_region 43 with fail
              by_cases hX3 : mid < e
              · have hXz3 : (mid : Int) < (e : Int) := by omega
                by_cases hY3 : e < b
                · have hYz3 : (e : Int) < (b : Int) := by omega
                  go_wp2_with fail
                  have hc := IH0.out mid e b d _ hfm.2.1 (by first | (rw [z2.out]; exact hs) | exact hs) S8.out hX3 hY3 (by first | (rw [z2.out]; exact hb) | exact hb) (by first | (rw [z2.out]; exact hsz) | exact hsz)
                  try rw [z2.out] at hc
                  refine hc.mono ?_
                  rintro e9 w9 ⟨rfl, S9⟩
                  have S9 : Aside (SWK enc k w0 blk off D3 w9) := by rw [← hD3.out, if_pos ⟨hX3, hY3⟩]; exact S9
                  clear S8
                  have S8 : Aside _ := S9
                  clear S9
                  go_wp2_with fail
                  go_end0
                  exact ⟨rfl, S8.out⟩
                · have hYz3 : ¬ (e : Int) < (b : Int) := by omega
                  obtain rfl : d = D3 := by rw [← hD3.out, if_neg (fun h => hY3 h.2)]
                  go_wp2_with fail
                  go_end0
                  exact ⟨rfl, S8.out⟩
              · exfalso; have := facts.out; omega
        · have hXz1 : ¬ (i : Int) < (m : Int) := by omega
          obtain rfl : d = D1 := by rw [← hD1.out, if_neg (fun h => hX1 h.1)]
          go_upto_region 41 with fail
          by_cases hX2 : a < i
          · have hXz2 : (a : Int) < (i : Int) := by omega
            by_cases hY2 : i < mid
            · have hYz2 : (i : Int) < (mid : Int) := by omega
              go_wp2_with fail
              have hc := IH0.out a i mid d _ hfm.1 (by first | (rw [z1.out]; exact hs) | exact hs) S8.out hX2 hY2 (by first | (rw [z1.out]; omega) | omega) (by first | (rw [z1.out]; exact hsz) | exact hsz)
              try rw [z1.out] at hc
              refine hc.mono ?_
              rintro e9 w9 ⟨rfl, S9⟩
              have S9 : Aside (SWK enc k w0 blk off D2 w9) := by rw [← hD2.out, if_pos ⟨hX2, hY2⟩]; exact S9
              clear S8
              have S8 : Aside _ := S9
              clear S9
              go_upto_region 43 with fail
              by_cases hX3 : mid < e
              · exfalso; have := facts.out; omega
              · have hXz3 : ¬ (mid : Int) < (e : Int) := by omega
                obtain rfl : D2 = D3 := by rw [← hD3.out, if_neg (fun h => hX3 h.1)]
                go_wp2_with fail
                go_end0
                exact ⟨rfl, S8.out⟩
            · have hYz2 : ¬ (i : Int) < (mid : Int) := by omega
              obtain rfl : d = D2 := by rw [← hD2.out, if_neg (fun h => hY2 h.2)]
              go_upto_region 43 with fail
              by_cases hX3 : mid < e
              · exfalso; have := facts.out; omega
              · have hXz3 : ¬ (mid : Int) < (e : Int) := by omega
                obtain rfl : d = D3 := by rw [← hD3.out, if_neg (fun h => hX3 h.1)]
                go_wp2_with fail
                go_end0
                exact ⟨rfl, S8.out⟩
          · have hXz2 : ¬ (a : Int) < (i : Int) := by omega
            obtain rfl : d = D2 := by rw [← hD2.out, if_neg (fun h => hX2 h.1)]
            go_upto_region 43 with fail
            by_cases hX3 : mid < e
            · exfalso; have := facts.out; omega
            · have hXz3 : ¬ (mid : Int) < (e : Int) := by omega
              obtain rfl : d = D3 := by rw [← hD3.out, if_neg (fun h => hX3 h.1)]
              go_wp2_with fail
              go_end0
              exact ⟨rfl, S8.out⟩
end
end Go.Proofs.YthejgholpkeldaaGreatDoor

namespace Go.Proofs.YthejgholpkeldaaGreatDoor
open Go.RowKit Go.Lib Go.Sort Go.Shelf
set_option maxRecDepth 100000

section
variable {α : Type} [Inhabited α]
theorem symM_walk (k : Nat) (aE : ∀ w, (isAgg 53).run Tryz.prog w = .ok true w) (zE : ∀ w, (Go.sizeOf 53).run Tryz.prog w = .ok k w) (enc : α → List Value) (cf : α → α → Int) (g : Nat) (cb : Array Value) (blk off cap : Nat) (d0 : Array α) (w0 : World) (eg : ∀ args w, (callFunc g args).run Tryz.prog w = .ok (.enter g args) w) (hcmp : CmpLays Tryz.prog g cb enc k cf blk off d0.size w0) (R : RowK enc k w0 blk off d0) :
    ∀ (f a m b : Nat) (d : Array α) (w : World), b - a ≤ f → d0.size = d.size → SWK enc k w0 blk off d w → a < m → m < b → b ≤ d.size → d.size < 4611686018427387904 →
    Calls Tryz.prog 142 #[.slice (some ⟨blk, off, none⟩) d.size cap, .int .i64 a, .int .i64 m, .int .i64 b, .func (.func g) #[] cb] w fun e w' => e = .returned (.tuple #[]) ∧ SWK enc k w0 blk off (symM (ltOf cf) f d a m b) w' := by
  intro f
  induction f with
  | zero => intro a m b d w h1 h2 S h3 h4; omega
  | succ f IH =>
    intro a m b d w h1 h2 S h3 h4 h5 h6
    by_cases c1 : m - a = 1
    · rw [symM, if_pos c1]
      exact sym1_walk k aE zE enc cf g cb blk off cap d0 w0 eg hcmp R a m b d w h2 S (by omega) h4 h5 h6
    · by_cases c2 : b - m = 1
      · rw [symM, if_neg c1, if_pos c2]
        exact sym2_walk k aE zE enc cf g cb blk off cap d0 w0 eg hcmp R a m b d w h2 S h3 c1 (by omega) h5 h6
      · exact sym3_walk k aE zE enc cf g cb blk off cap d0 w0 eg hcmp R f a m b d w IH h1 h2 S h3 h4 c1 c2 h5 h6
end
end Go.Proofs.YthejgholpkeldaaGreatDoor
