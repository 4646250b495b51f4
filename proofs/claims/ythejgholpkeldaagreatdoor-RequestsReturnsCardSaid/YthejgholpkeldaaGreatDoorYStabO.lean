/- The walk of slices.symMergeCmpFunc at requests: the general case (printed by gen_symm.py 2). Conditions: the row's cells. The walk of slices.symMergeCmpFunc at requests, out of its three cases. Conditions: the row's cells. -/
import Derived.Shelf.SlSortCmp.SiftDownK
import Derived.Shelf.SlSortCmp.KitK
import Derived.Shelf.SlSortCmp.ReverseRangeK
import Derived.Sort.LotA
import Derived.Test.YthejgholpkeldaaGreatDoorRows
import Derived.WalkKit
import Derived.WalkSpells
import Derived.WalkLawsBesides
import Derived.BigGuardPart
import Derived.Lib.Hide
import Derived.Laws.BitsAllLaws
import Derived.Laws.BitsLemmas
import Derived.Lib.LaidTab
import Derived.Test.YthejgholpkeldaaGreatDoorShelf
import Derived.Lib.ConvBytes
import Derived.Deep.QuietTactic
import Derived.BigQuiet
import Derived.Test.YthejgholpkeldaaGreatDoorYStabW
import Derived.Test.YthejgholpkeldaaGreatDoorYStabM
namespace Go.Proofs.YthejgholpkeldaaGreatDoor
open Go.RowKit Go.Lib Go.Sort Go.Shelf
set_option maxRecDepth 100000

section
variable {α : Type} [Inhabited α]
theorem symS_shape (pr : Nat → Bool) (lt : α → α → Bool) (d : Array α) (a m b : Nat) (ham : a < m) (hmb : m < b) (hpr : ∀ q, pr q = !lt d[(a + b) / 2 + m - 1 - q]! d[q]!) :
    ∃ st r F, symS lt d a m b = bs pr F st r ∧ r ≤ F ∧ st ≤ r ∧ r ≤ m ∧ r ≤ (a + b) / 2 ∧ a ≤ st ∧ (a + b) / 2 + m - st ≤ b ∧ ((a + b) / 2 < m → st = (a + b) / 2 + m - b ∧ r = (a + b) / 2) ∧ (¬ (a + b) / 2 < m → st = a ∧ r = m) := by
  have e : (fun c => !lt d[(a + b) / 2 + m - 1 - c]! d[c]!) = pr := funext fun q => (hpr q).symm
  by_cases h : (a + b) / 2 < m
  · exact ⟨(a + b) / 2 + m - b, (a + b) / 2, (a + b) / 2, by rw [symS, if_pos h, e], Nat.le_refl _, by omega, by omega, Nat.le_refl _, by omega, by omega, fun _ => ⟨rfl, rfl⟩, fun h' => absurd h h'⟩
  · exact ⟨a, m, m, by rw [symS, if_neg h, e], Nat.le_refl _, by omega, Nat.le_refl _, by omega, Nat.le_refl _, by omega, fun h' => absurd h' h, fun _ => ⟨rfl, rfl⟩⟩
set_option maxHeartbeats 8000000 in
theorem sym3_walk (k : Nat) (aE : ∀ w, (isAgg 53).run Tryz.prog w = .ok true w) (zE : ∀ w, (Go.sizeOf 53).run Tryz.prog w = .ok k w) (enc : α → List Value) (cf : α → α → Int) (g : Nat) (cb : Array Value) (blk off cap : Nat) (d0 : Array α) (w0 : World) (eg : ∀ args w, (callFunc g args).run Tryz.prog w = .ok (.enter g args) w) (hcmp : CmpLays Tryz.prog g cb enc k cf blk off d0.size w0) (R : RowK enc k w0 blk off d0) (f a m b : Nat) (d : Array α) (w : World) (IH : ∀ (a m b : Nat) (d : Array α) (w : World), b - a ≤ f → d0.size = d.size → SWK enc k w0 blk off d w → a < m → m < b → b ≤ d.size → d.size < 4611686018427387904 → Calls Tryz.prog 142 #[.slice (some ⟨blk, off, none⟩) d.size cap, .int .i64 a, .int .i64 m, .int .i64 b, .func (.func g) #[] cb] w fun e w' => e = .returned (.tuple #[]) ∧ SWK enc k w0 blk off (symM (ltOf cf) f d a m b) w') (hf : b - a ≤ f + 1) (hs : d0.size = d.size) (S : SWK enc k w0 blk off d w) (ham : a < m) (hmb : m < b) (hne : m - a ≠ 1) (hne2 : b - m ≠ 1) (hb : b ≤ d.size) (hsz : d.size < 4611686018427387904) :
    Calls Tryz.prog 142 #[.slice (some ⟨blk, off, none⟩) d.size cap, .int .i64 a, .int .i64 m, .int .i64 b, .func (.func g) #[] cb] w fun e w' => e = .returned (.tuple #[]) ∧ SWK enc k w0 blk off (symM (ltOf cf) (f + 1) d a m b) w' := by
  have mixed : Tryz.prog.follows Departure.mixedOrders = true := by kernel_rfl
  have HC : Aside _ := hcmp
  have S0 : Aside (SWK enc k w0 blk off d w) := S
  clear S hcmp
  have IH0 : Aside _ := IH
  clear IH
  obtain ⟨q1, hq1⟩ : ∃ q1, m - a = q1 := ⟨_, rfl⟩
  have w1 : IntKind.i64.wrap ((m : Int) - (a : Int)) = (q1 : Int) := by rw [IntKind.wrap_i64]; omega
  have q1n : ((q1 : Int) == 1) = false := beq_eq_false_iff_ne.mpr (by omega)
  obtain ⟨q2, hq2⟩ : ∃ q2, b - m = q2 := ⟨_, rfl⟩
  have w2 : IntKind.i64.wrap ((b : Int) - (m : Int)) = (q2 : Int) := by rw [IntKind.wrap_i64]; omega
  have q2n : ((q2 : Int) == 1) = false := beq_eq_false_iff_ne.mpr (by omega)
  clear hq1 hq2
  rw [symM, if_neg hne, if_neg hne2]
  clear hne hne2
  obtain ⟨pr, hpr⟩ : ∃ pr : Nat → Bool, ∀ q, pr q = !ltOf cf d[(a + b) / 2 + m - 1 - q]! d[q]! := ⟨_, fun _ => rfl⟩
  obtain ⟨st, r, F, hsh, hrF, s1, s2, s3, s4, s5, s6, s7⟩ := symS_shape pr (ltOf cf) d a m b ham hmb hpr
  obtain ⟨mid, hmid⟩ : ∃ mid, (a + b) / 2 = mid := ⟨_, rfl⟩
  have wm : ((a : Int) + (b : Int)) / 2 = (mid : Int) := by omega
  simp only [hmid] at s3 s5 s6 s7 hpr ⊢
  obtain ⟨N, hN⟩ : ∃ N, mid + m = N := ⟨_, rfl⟩
  have wn : IntKind.i64.wrap ((mid : Int) + (m : Int)) = (N : Int) := by rw [IntKind.wrap_i64]; omega
  obtain ⟨P1, hP⟩ : ∃ P1, N - 1 = P1 := ⟨_, rfl⟩
  have wp : IntKind.i64.wrap ((N : Int) - 1) = (P1 : Int) := by rw [IntKind.wrap_i64]; omega
  have ws : mid < m → IntKind.i64.wrap ((N : Int) - (b : Int)) = (st : Int) ∧ r = mid := fun h => ⟨by rw [IntKind.wrap_i64]; have := s6 h; omega, (s6 h).2⟩
  simp only [hN] at s5 hpr ⊢
  simp only [hP] at hpr
  have hfm : mid - a ≤ f ∧ b - mid ≤ f ∧ a < mid ∧ mid < b := by omega
  have hPb : P1 + 1 = N ∧ m ≤ N := by omega
  obtain ⟨H, Hh⟩ : ∃ H, symS (ltOf cf) d a m b = H := ⟨_, rfl⟩
  rw [Hh] at hsh ⊢
  clear Hh s6 hf
  obtain ⟨e, he⟩ : ∃ e, N - H = e := ⟨_, rfl⟩
  simp only [he]
  obtain ⟨D1, hD1⟩ : ∃ D1, (if H < m ∧ m < e then rot d m (e - H) (m - H) (e - m) else d) = D1 := ⟨_, rfl⟩
  rw [hD1]
  obtain ⟨D2, hD2⟩ : ∃ D2, (if a < H ∧ H < mid then symM (ltOf cf) f D1 a H mid else D1) = D2 := ⟨_, rfl⟩
  rw [hD2]
  obtain ⟨D3, hD3⟩ : ∃ D3, (if mid < e ∧ e < b then symM (ltOf cf) f D2 mid e b else D2) = D3 := ⟨_, rfl⟩
  rw [hD3]
  have z1 : Hid (D1.size = d.size) := hide (by rw [← hD1]; split; exact rot_size _ _ _ _ _; rfl)
  have z2 : Hid (D2.size = d.size) := hide (by rw [← hD2]; split; rw [symM_size, z1.out]; exact z1.out)
  replace he := hide he
  replace hD1 := hide hD1
  replace hD2 := hide hD2
  replace hD3 := hide hD3
  replace hmid := hide hmid
  replace hN := hide hN
  replace hP := hide hP
  replace hpr := hide hpr
  have Hh : Hid (bs pr F st r = H) := hide hsh.symm
  clear hsh
  replace ws := hide ws
  replace s7 := hide s7
  go_enter Tryz.func142, Tryz.ntmps142
  go_upto_if 140 with fail
  go_cut [20, 21] (fun s20 s21 V => s20 = .int .i64 st ∧ s21 = .int .i64 r ∧ Aside (SWK enc k w0 blk off d V))
  case first =>
    by_cases hmm : mid < m
    · have hmz : (mid : Int) < (m : Int) := by omega
      obtain ⟨ws1, rfl⟩ := ws.out hmm
      go_wp2_with fail
      go_meet
      exact ⟨rfl, rfl, S0⟩
    · have hmz : ¬ (mid : Int) < (m : Int) := by omega
      obtain ⟨rfl, rfl⟩ := s7.out hmm
      go_wp2_with fail
      go_meet
      exact ⟨rfl, rfl, S0⟩
  case rest =>
    clear S0 w1 w2 q1n q2n ws s7
    obtain ⟨rfl, rfl, S0⟩ := hcut
    go_wp2_with fail
    go_loopg [20, 21] F (fun kx si sj wr => ∃ (i j : Nat), si = .int .i64 i ∧ sj = .int .i64 j ∧ st ≤ i ∧ i ≤ j ∧ j ≤ r ∧ j - i ≤ kx ∧ Aside (SWK enc k w0 blk off d wr) ∧ Hid (bs pr kx i j = H))
    case atStart => exact ⟨st, r, rfl, rfl, Nat.le_refl _, by omega, Nat.le_refl _, by omega, S0, Hh⟩
    case round =>
      clear S0
      obtain ⟨i, j, rfl, rfl, h1, h2, h3, hkx, S1, HB⟩ := hrel
      by_cases hlt : i < j
      · have hltz : (i : Int) < (j : Int) := by omega
        obtain ⟨f1, rfl⟩ : ∃ f1, gk = f1 + 1 := ⟨gk - 1, by omega⟩
        obtain ⟨q, hq⟩ : ∃ q, (i + j) / 2 = q := ⟨_, rfl⟩
        have hm : ((i : Int) + (j : Int)) / 2 = (q : Int) := by omega
        have hqi : i ≤ q ∧ q < j := by omega
        replace hq := hide hq
        obtain ⟨z, hz⟩ : ∃ z, P1 - q = z := ⟨_, rfl⟩
        have wz : IntKind.i64.wrap ((P1 : Int) - (q : Int)) = (z : Int) := by rw [IntKind.wrap_i64]; omega
        have hzd : z < d.size := by omega
        replace hz := hide hz
        have hprq := hpr.out q
        rw [hz.out] at hprq
        cases hL : ltOf cf d[z]! d[q]! with
        | true =>
          have hb : Hid (pr q = false) := hide (by rw [hprq, hL]; rfl)
          clear hprq
          have ea27 : ((z : Int)).toNat = z := by omega
          have pa27 : (0 : Int) ≤ (z : Int) := by omega
          have ba27 : (z : Int) < (d.size : Int) := by omega
          have ra27 : IntKind.i64.wrap ((z : Int)) = (z : Int) := by rw [IntKind.wrap_i64]; omega
          have ec27 : ((q : Int)).toNat = q := by omega
          have pc27 : (0 : Int) ≤ (q : Int) := by omega
          have bc27 : (q : Int) < (d.size : Int) := by omega
          have rc27 : IntKind.i64.wrap ((q : Int)) = (q : Int) := by rw [IntKind.wrap_i64]; omega
          obtain ⟨x27, hx27⟩ : ∃ x, x = d[z]! := ⟨_, rfl⟩
          obtain ⟨y27, hy27⟩ : ∃ x, x = d[q]! := ⟨_, rfl⟩
          have l27a := S1.out.ld R (by omega) Tryz.prog (z) (by omega)
          have l27b := S1.out.ld R (by omega) Tryz.prog (q) (by omega)
          rw [← hx27] at l27a
          rw [← hy27] at l27b
          have hc27 := S1.out.cmp HC.out (by omega) x27 y27
          have hv27 : cf x27 y27 < 0 := by rw [hx27, hy27]; exact of_decide_eq_true hL
          have hd27 : decide (cf x27 y27 < 0) = true := decide_eq_true hv27
          clear hx27 hy27
          go_wp2_with fail
          go_quiet_grown (first | (go_at_fn g; refine Calls.grown_of (hc27 _ _)))
          have S2 : Aside (SWK enc k w0 blk off d (grow (wr.drewN nq) osq)) := S1.out.grown nq osq
          clear l27a l27b hc27 S1
          generalize grow (wr.drewN nq) osq = w2 at S2 ⊢
          clear nq osq
          go_wp2
          go_roundg f1
          case measure => omega
          case rel => exact ⟨i, q, rfl, by go_num, h1, by omega, by omega, by omega, S2, hide ((bs_no hlt hq.out hb.out).symm.trans HB.out)⟩
        | false =>
          have hb : Hid (pr q = true) := hide (by rw [hprq, hL]; rfl)
          clear hprq
          have ea28 : ((z : Int)).toNat = z := by omega
          have pa28 : (0 : Int) ≤ (z : Int) := by omega
          have ba28 : (z : Int) < (d.size : Int) := by omega
          have ra28 : IntKind.i64.wrap ((z : Int)) = (z : Int) := by rw [IntKind.wrap_i64]; omega
          have ec28 : ((q : Int)).toNat = q := by omega
          have pc28 : (0 : Int) ≤ (q : Int) := by omega
          have bc28 : (q : Int) < (d.size : Int) := by omega
          have rc28 : IntKind.i64.wrap ((q : Int)) = (q : Int) := by rw [IntKind.wrap_i64]; omega
          obtain ⟨x28, hx28⟩ : ∃ x, x = d[z]! := ⟨_, rfl⟩
          obtain ⟨y28, hy28⟩ : ∃ x, x = d[q]! := ⟨_, rfl⟩
          have l28a := S1.out.ld R (by omega) Tryz.prog (z) (by omega)
          have l28b := S1.out.ld R (by omega) Tryz.prog (q) (by omega)
          rw [← hx28] at l28a
          rw [← hy28] at l28b
          have hc28 := S1.out.cmp HC.out (by omega) x28 y28
          have hv28 : ¬ cf x28 y28 < 0 := by rw [hx28, hy28]; exact of_decide_eq_false hL
          have hd28 : decide (cf x28 y28 < 0) = false := decide_eq_false hv28
          clear hx28 hy28
          go_wp2_with fail
          go_quiet_grown (first | (go_at_fn g; refine Calls.grown_of (hc28 _ _)))
          have S2 : Aside (SWK enc k w0 blk off d (grow (wr.drewN nq) osq)) := S1.out.grown nq osq
          clear l28a l28b hc28 S1
          generalize grow (wr.drewN nq) osq = w2 at S2 ⊢
          clear nq osq
          go_wp2
          go_roundg f1
          case measure => omega
          case rel => exact ⟨q + 1, j, by go_num, rfl, by omega, by omega, h3, by omega, S2, hide ((bs_go hlt hq.out hb.out).symm.trans HB.out)⟩
      · obtain rfl : i = j := by omega
        have hiH : i = H := by rw [← HB.out]; exact (bs_done (Nat.lt_irrefl _)).symm
        clear HB Hh hpr
        subst hiH
        have we : IntKind.i64.wrap ((N : Int) - (i : Int)) = (e : Int) := by have := he.out; rw [IntKind.wrap_i64]; omega
        have facts : Hid (e + i = mid + m ∧ e ≤ b ∧ a ≤ i ∧ i ≤ m ∧ i ≤ mid) := hide (by have := he.out; have := hN.out; omega)
        clear he
        have S8 : Aside _ := S1
        clear S1 HC wn wp wm hPb hlt hkx h1 h2 h3 s1 s2 s3 s4 s5 hrF
        go_upto_region 39 with fail
        by_cases hX1 : i < m
        · have hXz1 : (i : Int) < (m : Int) := by omega
          by_cases hY1 : m < e
          · have hYz1 : (m : Int) < (e : Int) := by omega
            go_wp2_with fail
            refine (rot_walk k aE zE enc g cb blk off cap i m e d0 d _ _ R hs S8.out hX1 hY1 (by have := facts.out; omega) hsz).mono ?_
            rintro e9 w9 ⟨rfl, S9⟩
            have S9 : Aside (SWK enc k w0 blk off D1 w9) := by rw [← hD1.out, if_pos ⟨hX1, hY1⟩]; exact S9
            clear S8
            have S8 : Aside _ := S9
            clear S9
            go_upto_region 41 with fail
            by_cases hX2 : a < i
            · have hXz2 : (a : Int) < (i : Int) := by omega
              by_cases hY2 : i < mid
              · have hYz2 : (i : Int) < (mid : Int) := by omega
                go_wp2_with fail
                have hc := IH0.out a i mid D1 _ hfm.1 (by first | (rw [z1.out]; exact hs) | exact hs) S8.out hX2 hY2 (by first | (rw [z1.out]; omega) | omega) (by first | (rw [z1.out]; exact hsz) | exact hsz)
                try rw [z1.out] at hc
                refine hc.mono ?_
                rintro e9 w9 ⟨rfl, S9⟩
                have S9 : Aside (SWK enc k w0 blk off D2 w9) := by rw [← hD2.out, if_pos ⟨hX2, hY2⟩]; exact S9
                clear S8
                have S8 : Aside _ := S9
                clear S9
                go_upto_region 43 with fail
                by_cases hX3 : mid < e
                · have hXz3 : (mid : Int) < (e : Int) := by omega
                  by_cases hY3 : e < b
                  · have hYz3 : (e : Int) < (b : Int) := by omega
                    go_wp2_with fail
                    have hc := IH0.out mid e b D2 _ hfm.2.1 (by first | (rw [z2.out]; exact hs) | exact hs) S8.out hX3 hY3 (by first | (rw [z2.out]; exact hb) | exact hb) (by first | (rw [z2.out]; exact hsz) | exact hsz)
                    try rw [z2.out] at hc
                    refine hc.mono ?_
                    rintro e9 w9 ⟨rfl, S9⟩
                    have S9 : Aside (SWK enc k w0 blk off D3 w9) := by rw [← hD3.out, if_pos ⟨hX3, hY3⟩]; exact S9
                    clear S8
                    have S8 : Aside _ := S9
                    clear S9
                    go_wp2_with fail
                    go_end0
                    exact ⟨rfl, S8.out⟩
                  · have hYz3 : ¬ (e : Int) < (b : Int) := by omega
                    obtain rfl : D2 = D3 := by rw [← hD3.out, if_neg (fun h => hY3 h.2)]
                    go_wp2_with fail
                    go_end0
                    exact ⟨rfl, S8.out⟩
                · exfalso; have := facts.out; omega
              · exfalso; have := facts.out; omega
            · have hXz2 : ¬ (a : Int) < (i : Int) := by omega
              obtain rfl : D1 = D2 := by rw [← hD2.out, if_neg (fun h => hX2 h.1)]
              go_upto_region 43 with fail
              by_cases hX3 : mid < e
              · have hXz3 : (mid : Int) < (e : Int) := by omega
                by_cases hY3 : e < b
                · have hYz3 : (e : Int) < (b : Int) := by omega
                  go_wp2_with fail
                  have hc := IH0.out mid e b D1 _ hfm.2.1 (by first | (rw [z2.out]; exact hs) | exact hs) S8.out hX3 hY3 (by first | (rw [z2.out]; exact hb) | exact hb) (by first | (rw [z2.out]; exact hsz) | exact hsz)
                  try rw [z2.out] at hc
                  refine hc.mono ?_
                  rintro e9 w9 ⟨rfl, S9⟩
                  have S9 : Aside (SWK enc k w0 blk off D3 w9) := by rw [← hD3.out, if_pos ⟨hX3, hY3⟩]; exact S9
                  clear S8
                  have S8 : Aside _ := S9
                  clear S9
                  go_wp2_with fail
                  go_end0
                  exact ⟨rfl, S8.out⟩
                · have hYz3 : ¬ (e : Int) < (b : Int) := by omega
                  obtain rfl : D1 = D3 := by rw [← hD3.out, if_neg (fun h => hY3 h.2)]
                  go_wp2_with fail
                  go_end0
                  exact ⟨rfl, S8.out⟩
              · exfalso; have := facts.out; omega
          · have hYz1 : ¬ (m : Int) < (e : Int) := by omega
            obtain rfl : d = D1 := by rw [← hD1.out, if_neg (fun h => hY1 h.2)]
            go_upto_region 41 with fail
            by_cases hX2 : a < i
            · have hXz2 : (a : Int) < (i : Int) := by omega
              by_cases hY2 : i < mid
              · exfalso; have := facts.out; omega
              · have hYz2 : ¬ (i : Int) < (mid : Int) := by omega
                obtain rfl : d = D2 := by rw [← hD2.out, if_neg (fun h => hY2 h.2)]
                go_upto_region 43 with fail
                by_cases hX3 : mid < e
                · have hXz3 : (mid : Int) < (e : Int) := by omega
                  by_cases hY3 : e < b
                  · have hYz3 : (e : Int) < (b : Int) := by omega
                    go_wp2_with fail
                    have hc := IH0.out mid e b d _ hfm.2.1 (by first | (rw [z2.out]; exact hs) | exact hs) S8.out hX3 hY3 (by first | (rw [z2.out]; exact hb) | exact hb) (by first | (rw [z2.out]; exact hsz) | exact hsz)
                    try rw [z2.out] at hc
                    refine hc.mono ?_
                    rintro e9 w9 ⟨rfl, S9⟩
                    have S9 : Aside (SWK enc k w0 blk off D3 w9) := by rw [← hD3.out, if_pos ⟨hX3, hY3⟩]; exact S9
                    clear S8
                    have S8 : Aside _ := S9
                    clear S9
                    go_wp2_with fail
                    go_end0
                    exact ⟨rfl, S8.out⟩
                  · have hYz3 : ¬ (e : Int) < (b : Int) := by omega
                    obtain rfl : d = D3 := by rw [← hD3.out, if_neg (fun h => hY3 h.2)]
                    go_wp2_with fail
                    go_end0
                    exact ⟨rfl, S8.out⟩
                · exfalso; have := facts.out; omega
            · have hXz2 : ¬ (a : Int) < (i : Int) := by omega
              obtain rfl : d = D2 := by rw [← hD2.out, if_neg (fun h => hX2 h.1)]
              go_upto_region 43 with fail
              by_cases hX3 : mid < e
              · have hXz3 : (mid : Int) < (e : Int) := by omega
                by_cases hY3 : e < b
                · have hYz3 : (e : Int) < (b : Int) := by omega
                  go_wp2_with fail
                  have hc := IH0.out mid e b d _ hfm.2.1 (by first | (rw [z2.out]; exact hs) | exact hs) S8.out hX3 hY3 (by first | (rw [z2.out]; exact hb) | exact hb) (by first | (rw [z2.out]; exact hsz) | exact hsz)
                  try rw [z2.out] at hc
                  refine hc.mono ?_
                  rintro e9 w9 ⟨rfl, S9⟩
                  have S9 : Aside (SWK enc k w0 blk off D3 w9) := by rw [← hD3.out, if_pos ⟨hX3, hY3⟩]; exact S9
                  clear S8
                  have S8 : Aside _ := S9
                  clear S9
                  go_wp2_with fail
                  go_end0
                  exact ⟨rfl, S8.out⟩
                · have hYz3 : ¬ (e : Int) < (b : Int) := by omega
                  obtain rfl : d = D3 := by rw [← hD3.out, if_neg (fun h => hY3 h.2)]
                  go_wp2_with fail
                  go_end0
                  exact ⟨rfl, S8.out⟩
              · exfalso; have := facts.out; omega
        · have hXz1 : ¬ (i : Int) < (m : Int) := by omega
          obtain rfl : d = D1 := by rw [← hD1.out, if_neg (fun h => hX1 h.1)]
          go_upto_region 41 with fail
          by_cases hX2 : a < i
          · have hXz2 : (a : Int) < (i : Int) := by omega
            by_cases hY2 : i < mid
            · have hYz2 : (i : Int) < (mid : Int) := by omega
              go_wp2_with fail
              have hc := IH0.out a i mid d _ hfm.1 (by first | (rw [z1.out]; exact hs) | exact hs) S8.out hX2 hY2 (by first | (rw [z1.out]; omega) | omega) (by first | (rw [z1.out]; exact hsz) | exact hsz)
              try rw [z1.out] at hc
              refine hc.mono ?_
              rintro e9 w9 ⟨rfl, S9⟩
              have S9 : Aside (SWK enc k w0 blk off D2 w9) := by rw [← hD2.out, if_pos ⟨hX2, hY2⟩]; exact S9
              clear S8
              have S8 : Aside _ := S9
              clear S9
              go_upto_region 43 with fail
              by_cases hX3 : mid < e
              · exfalso; have := facts.out; omega
              · have hXz3 : ¬ (mid : Int) < (e : Int) := by omega
                obtain rfl : D2 = D3 := by rw [← hD3.out, if_neg (fun h => hX3 h.1)]
                go_wp2_with fail
                go_end0
                exact ⟨rfl, S8.out⟩
            · have hYz2 : ¬ (i : Int) < (mid : Int) := by omega
              obtain rfl : d = D2 := by rw [← hD2.out, if_neg (fun h => hY2 h.2)]
              go_upto_region 43 with fail
              by_cases hX3 : mid < e
              · exfalso; have := facts.out; omega
              · have hXz3 : ¬ (mid : Int) < (e : Int) := by omega
                obtain rfl : d = D3 := by rw [← hD3.out, if_neg (fun h => hX3 h.1)]
                go_wp2_with fail
                go_end0
                exact ⟨rfl, S8.out⟩
          · have hXz2 : ¬ (a : Int) < (i : Int) := by omega
            obtain rfl : d = D2 := by rw [← hD2.out, if_neg (fun h => hX2 h.1)]
            go_upto_region 43 with fail
            by_cases hX3 : mid < e
            · exfalso; have := facts.out; omega
            · have hXz3 : ¬ (mid : Int) < (e : Int) := by omega
              obtain rfl : d = D3 := by rw [← hD3.out, if_neg (fun h => hX3 h.1)]
              go_wp2_with fail
              go_end0
              exact ⟨rfl, S8.out⟩
end
end Go.Proofs.YthejgholpkeldaaGreatDoor

namespace Go.Proofs.YthejgholpkeldaaGreatDoor
open Go.RowKit Go.Lib Go.Sort Go.Shelf
set_option maxRecDepth 100000

section
variable {α : Type} [Inhabited α]
theorem symM_walk (k : Nat) (aE : ∀ w, (isAgg 53).run Tryz.prog w = .ok true w) (zE : ∀ w, (Go.sizeOf 53).run Tryz.prog w = .ok k w) (enc : α → List Value) (cf : α → α → Int) (g : Nat) (cb : Array Value) (blk off cap : Nat) (d0 : Array α) (w0 : World) (eg : ∀ args w, (callFunc g args).run Tryz.prog w = .ok (.enter g args) w) (hcmp : CmpLays Tryz.prog g cb enc k cf blk off d0.size w0) (R : RowK enc k w0 blk off d0) :
    ∀ (f a m b : Nat) (d : Array α) (w : World), b - a ≤ f → d0.size = d.size → SWK enc k w0 blk off d w → a < m → m < b → b ≤ d.size → d.size < 4611686018427387904 →
    Calls Tryz.prog 142 #[.slice (some ⟨blk, off, none⟩) d.size cap, .int .i64 a, .int .i64 m, .int .i64 b, .func (.func g) #[] cb] w fun e w' => e = .returned (.tuple #[]) ∧ SWK enc k w0 blk off (symM (ltOf cf) f d a m b) w' := by
  intro f
  induction f with
  | zero => intro a m b d w h1 h2 S h3 h4; omega
  | succ f IH =>
    intro a m b d w h1 h2 S h3 h4 h5 h6
    by_cases c1 : m - a = 1
    · rw [symM, if_pos c1]
      exact sym1_walk k aE zE enc cf g cb blk off cap d0 w0 eg hcmp R a m b d w h2 S (by omega) h4 h5 h6
    · by_cases c2 : b - m = 1
      · rw [symM, if_neg c1, if_pos c2]
        exact sym2_walk k aE zE enc cf g cb blk off cap d0 w0 eg hcmp R a m b d w h2 S h3 c1 (by omega) h5 h6
      · exact sym3_walk k aE zE enc cf g cb blk off cap d0 w0 eg hcmp R f a m b d w IH h1 h2 S h3 h4 c1 c2 h5 h6
end
end Go.Proofs.YthejgholpkeldaaGreatDoor
