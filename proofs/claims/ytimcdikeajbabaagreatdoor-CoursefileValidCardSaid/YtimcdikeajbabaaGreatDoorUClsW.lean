/- Walk of coursefile.Valid. Conditions: the classes' cells. Walk of timegrid.Format. No condition. Plain: a number in decimal. No condition. Plain: the record of a class; the times of a class. No walk. -/
import Derived.Test.YtimcdikeajbabaaGreatDoorShelfS
import Derived.Test.YtimcdikeajbabaaGreatDoorRows
import Derived.WalkKit
import Derived.WalkSpells
import Derived.WalkLawsBesides
import Derived.BigGuardPart
import Derived.Lib.Hide
import Derived.Laws.BitsAllLaws
import Derived.Laws.BitsLemmas
import Derived.Lib.LaidTab
import Derived.Test.YtimcdikeajbabaaGreatDoorShelf
import Derived.Lib.ConvBytes
import Derived.Deep.QuietTactic
import Derived.BigQuiet
import Derived.Laws.ResultCell
import Derived.RegionTactic
import Derived.BigRegion
import Derived.Deep.RegionHeld3
import Derived.Deep.DeepCutAuto
import Derived.Lib.SmallJoins
import Derived.Lib.SplitLaws
import Derived.Lib.CountLaws
import Derived.Lib.IndexMore
import Derived.Lib.Split
import Derived.Lib.Join
import Derived.Lib.ItoaNum
import Derived.Laws.AppendOwn
import Derived.Test.YtimcdikeajbabaaGreatDoorShelfT
import Derived.Lib.ItoaLen
import Derived.Lib.AppendIntMem
import Derived.Deep.AppendLies
import Derived.Lib.PathFns
import Derived.Maps.Range
import Derived.Lib.OwnBridge
import Derived.Sort.OwnSorted
import Derived.Sort.Walk0
import Derived.Test.YtimcdikeajbabaaGreatDoorCards
import Derived.Test.YtimcdikeajbabaaGreatDoorTie
import Derived.ProofKit
import Derived.OpenShut
import Derived.LaidMore
import Derived.Lay
import Derived.SevenTiedAt
import Derived.Stop.Joined
import Derived.Stop.LaidErr
import Derived.Deep.DeepHandedRow
import Derived.Lib.LaidU8
import Derived.LaidSub
import Derived.Deep.Slices
import Derived.Deep.Fields
import Derived.ChangeSame
import Derived.Deep.RegionLaw
import Derived.Deep.RegionLawGrows
import Derived.Test.YtimcdikeajbabaaGreatDoorUKChk
import Derived.Test.YtimcdikeajbabaaGreatDoorUSameL
import Derived.Test.YtimcdikeajbabaaGreatDoorUWsF
import Derived.Test.YtimcdikeajbabaaGreatDoorUWide
import Derived.Test.YtimcdikeajbabaaGreatDoorUStartsC
namespace Go.Proofs.YtimcdikeajbabaaGreatDoor
open Go.RowKit
set_option maxRecDepth 100000

/-- The lists of classes are no longer than lists can be. -/
def ClsShort (l : List Cls) : Prop := ∀ x ∈ l, x.2.2.2.2.1.length ≤ 9223372036854775807 ∧ x.2.2.2.2.2.2.1.length ≤ 9223372036854775807 ∧ x.2.2.2.2.2.2.2.1.length ≤ 9223372036854775807 ∧ x.2.2.2.2.2.2.2.2.length ≤ 9223372036854775807
theorem codesK_take (l : List Cls) (j : Nat) : codesK (l.take j) = (codesK l).take j := by unfold codesK; rw [List.map_take]
set_option maxHeartbeats 8000000 in
theorem kval_walk (A : Option Addr) (l : List Cls) (c : Nat) (d sl b m n : Int) (w : World) (hlc : l.length ≤ c) (hc : l.length ≤ 9223372036854775807) (hm : ClsShort l) (h : At kCls AnyB w A l) :
    Calls Tryz.prog 29 #[.slice A l.length c, .agg #[.int .i64 d, .int .i64 sl, .int .i64 b, .int .i64 m], .int .i64 n] w fun e w' => e = .returned (.int .i64 (validK d sl b m n l : Int)) ∧ Below w.heap.size w w' := by
  have hb0 : Below w.heap.size w (w.alloc (.cells #[.int .i64 d, .int .i64 sl, .int .i64 b, .int .i64 m] 24)) := (by repeat (first | exact Below.refl _ _ | refine ext_alloc ?_ _ | refine ext_drewN ?_ _ | refine ext_drew ?_ | refine ext_trans ?_ (by assumption)))
  have bG := Box4.new w 24 (.int .i64 d) (.int .i64 sl) (.int .i64 b) (.int .i64 m)
  obtain ⟨N, hN⟩ : ∃ N, l.length = N := ⟨_, rfl⟩
  obtain ⟨V, hV⟩ : ∃ V, validK d sl b m n l = V := ⟨_, rfl⟩
  rw [hV]
  unfold validK at hV
  rw [hN] at hlc hc hV ⊢
  cases hw : weekB d sl b m n
  · rw [if_pos hw] at hV
    subst hV
    clear h hm hN bG
    go_enter Tryz.func29, Tryz.ntmps29
    go_wp2_with fail
    refine (tgWeek_walk d sl b m n _).mono ?_
    rintro e w1 ⟨rfl, hb1⟩
    rw [hw]
    have hb := ext_trans hb0 hb1
    clear hb0 hb1
    go_wp2
    go_ret
    exact ⟨rfl, hb⟩
  · rw [if_neg (by rw [hw]; simp)] at hV
    by_cases h24 : 24 < N
    · rw [if_pos h24] at hV
      subst hV
      have h24i : (24 : Int) < (N : Int) := by omega
      clear h hm hN bG h24
      go_enter Tryz.func29, Tryz.ntmps29
      go_wp2_with fail
      refine (tgWeek_walk d sl b m n _).mono ?_
      rintro e w1 ⟨rfl, hb1⟩
      rw [hw]
      have hb := ext_trans hb0 hb1
      clear hb0 hb1
      go_wp2
      go_ret
      exact ⟨rfl, hb⟩
    · rw [if_neg h24] at hV
      have h24i : ¬ (24 : Int) < (N : Int) := by omega
      have hN24 : N ≤ 24 := by omega
      obtain ⟨-, -, s1, s2, -, -⟩ := week_bd hw
      obtain ⟨W, hWW⟩ : ∃ W, w.alloc (.cells #[.int .i64 d, .int .i64 sl, .int .i64 b, .int .i64 m] 24) = W := ⟨_, rfl⟩
      rw [hWW] at hb0 bG
      obtain ⟨gb, hgb⟩ : ∃ gb, w.heap.size = gb := ⟨_, rfl⟩
      rw [hgb] at bG
      have hL0 := h.later hb0
      replace hV := hide hV
      replace hN := hide hN
      replace hm := hide hm
      replace hWW := hide hWW
      replace hgb := hide hgb
      clear h h24
      go_enter Tryz.func29, Tryz.ntmps29
      go_wp2_with fail
      rw [hWW.out, hgb.out]
      refine (tgWeek_walk d sl b m n W).mono ?_
      rintro e w1 ⟨rfl, hb1⟩
      rw [hw]
      have hb := ext_trans hb0 hb1
      have hL1 := hL0.later hb1
      have bG1 := bG.later hb1
      clear hb0 hb1 hL0 bG hw
      go_wp2_with fail
      go_loopw [21] (fun v wr => ∃ i : Nat, i ≤ N ∧ v = .int .i64 i ∧ Hid (clsErr d sl n l i = 0) ∧ Below w1.heap.size w1 wr) (fun v _ => N - (intOf v).toNat)
      case atStart => exact ⟨0, Nat.zero_le _, rfl, hide rfl, Below.refl _ _⟩
      case round =>
        obtain ⟨i, hi, rfl, ho, hbr⟩ := hrel
        by_cases hlt : i < N
        · obtain ⟨x, hx⟩ : ∃ x, l[i]? = some x := ⟨_, List.getElem?_eq_getElem (by rw [hN.out]; exact hlt)⟩
          have hat := hL1.later hbr
          obtain ⟨kb, off, A4, c4, A6, c6, A7, c7, A8, c8, rfl, -, hkb, hq9, ⟨l4, l6, l7, l8⟩, a4, a6, a7, a8⟩ := hat.clsF hx
          obtain ⟨m4, m6, m7, m8⟩ := hm.out x (List.mem_of_getElem? hx)
          obtain ⟨z, co, pa, nl, ps, mm, fs, st, ss⟩ := x
          unfold nineOf at hq9
          dsimp only at hq9 l4 l6 l7 l8 a4 a6 a7 a8 m4 m6 m7 m8
          obtain ⟨n4, e4⟩ : ∃ n4, ps.length = n4 := ⟨_, rfl⟩
          obtain ⟨n6, e6⟩ : ∃ n6, fs.length = n6 := ⟨_, rfl⟩
          obtain ⟨n7, e7⟩ : ∃ n7, st.length = n7 := ⟨_, rfl⟩
          obtain ⟨n8, e8⟩ : ∃ n8, ss.length = n8 := ⟨_, rfl⟩
          rw [e4] at hq9 l4 m4
          rw [e6] at hq9 l6 m6
          rw [e7] at hq9 l7 m7
          rw [e8] at hq9 l8 m8
          obtain ⟨q0, q1, q2, q3, q4, q5, q6, q7, q8⟩ := hq9
          dsimp only at q0 q1 q2 q3 q4 q5 q6 q7 q8
          have bGr := bG1.later hbr
          obtain ⟨g0, g1, g2, g3⟩ := bGr
          have hgl : gb < wr.heap.size := World.block_lt_of_cell? _ _ g0
          have hi0 : (0 : Int) ≤ (i : Int) := by omega
          have hi1 : (i : Int) < (N : Int) := by omega
          have hbn : Below wr.heap.size wr (wr.alloc (.cells #[.string z, .string co, .string pa, .int .i64 nl, .slice A4 n4 c4, .int .i64 mm, .slice A6 n6 c6, .slice A7 n7 c7, .slice A8 n8 c8] 47)) := ext_alloc (Below.refl _ _) _
          have hbx : CBox (wr.alloc (.cells #[.string z, .string co, .string pa, .int .i64 nl, .slice A4 n4 c4, .int .i64 mm, .slice A6 n6 c6, .slice A7 n7 c7, .slice A8 n8 c8] 47)) wr.heap.size ⟨z, co, pa, nl, A4, n4, c4, mm, A6, n6, c6, A7, n7, c7, A8, n8, c8⟩ := cbox_new wr ⟨z, co, pa, nl, A4, n4, c4, mm, A6, n6, c6, A7, n7, c7, A8, n8, c8⟩
          have hcc := cclass_walk z co pa nl A4 n4 c4 mm A6 n6 c6 A7 n7 c7 A8 n8 c8 ps fs st ss d sl b m n _ e4 e6 e7 e8 m4 m6 m7 m8 l4 ⟨s1, s2⟩ (a4.later hbn) (a6.later hbn) (a7.later hbn) (a8.later hbn)
          have g0' := cell_later hbn g0
          have g1' := cell_later hbn g1
          have g2' := cell_later hbn g2
          have g3' := cell_later hbn g3
          have hatn := hat.later hbn
          obtain ⟨ce, hce⟩ : ∃ ce, clsEx d sl n (z, co, pa, nl, ps, mm, fs, st, ss) = ce := ⟨_, rfl⟩
          rw [hce] at hcc
          have hbw := ext_trans hb (ext_trans hbr hbn)
          have hbr1 := ext_trans hbr hbn
          clear a4 a6 a7 a8 l4 l6 l7 l8 m4 m6 m7 m8 e4 e6 e7 e8 hat
          go_upto_region 8 with fail
          clear q0 q1 q2 q3 q4 q5 q6 q7 q8 g0 g1 g2 g3
          obtain ⟨x, hxx⟩ : ∃ x, wr.heap.size = x := ⟨_, rfl⟩
          obtain ⟨W5, hW5⟩ : ∃ W5, wr.alloc (.cells #[.string z, .string co, .string pa, .int .i64 nl, .slice A4 n4 c4, .int .i64 mm, .slice A6 n6 c6, .slice A7 n7 c7, .slice A8 n8 c8] 47) = W5 := ⟨_, rfl⟩
          rw [hxx] at hbx hgl hbn hkb ⊢
          rw [hW5] at hbx hcc g0' g1' g2' g3' hatn hbw hbn hbr1 ⊢
          replace hxx := hide hxx
          replace hW5 := hide hW5
          have y0 := hbx.c0
          have y1 := hbx.c1
          have y2 := hbx.c2
          have y3 := hbx.c3
          have y4 := hbx.c4
          have y5 := hbx.c5
          have y6 := hbx.c6
          have y7 := hbx.c7
          have y8 := hbx.c8
          dsimp only at y0 y1 y2 y3 y4 y5 y6 y7 y8
          have hxl := hbx.lt
          by_cases hce0 : ce = 0
          · subst hce0
            go_wp2_with fail
            refine hcc.mono ?_
            clear hcc
            rintro e w6 ⟨rfl, hb6⟩
            have hbx6 := hbx.later hb6
            have hat6 := hatn.later hb6
            have hbw6 := ext_trans hbw hb6
            have hbr6 := ext_trans hbr1 hb6
            have z0 := hbx6.c0
            dsimp only at z0
            clear y0 y1 y2 y3 y4 y5 y6 y7 y8 g0' g1' g2' g3' hatn hbw hb6
            have hic : (i : Int) ≤ (c : Int) := by omega
            have hlt2 : (l.take i).length = i := by rw [List.length_take, hN.out]; omega
            obtain ⟨dd, hd⟩ : ∃ dd, decide (0 ≤ idxS z ((codesK l).take i)) = dd := ⟨_, rfl⟩
            have hcall := hide (fun (v : Later w6) => calls_later (v := .bool dd) (n := v) (by
              have := khas_walk (some ⟨kb, off, none⟩) (l.take i) c z v.val (by rw [hlt2]; omega) ((hat6.take).later v.keeps)
              rw [hlt2, codesK_take, hd] at this
              exact this))
            have hg0 : ∀ v : Later w6, v.val.cell? ⟨x, 0, none⟩ = some (.string z) := fun v => cell_later v.keeps z0
            have hany := later_any w6
            have hxl6 := hbx6.lt
            cases dd with
            | true =>
              have hend : Hid (V = 11) := hide (by
                rw [← hV.out]
                exact cls_end hx ho.out (by unfold clsE; rw [hce, if_neg (by simp), if_pos (of_decide_eq_true hd)]) (by decide) hlt)
              clear hx hce hd hat6 hlt2 ho hbx hbx6 z0
              go_upto_region 11 with fail
              refine wp_region_later (by kernel_rfl) (by kernel_rfl) ?_
              repeat (go_big_quiet_step ((go_at_call 59; with_reducible exact hcall.out _)))
              refine wpQuiet_nil ?_
              clear hcall hg0 hany
              rintro _ ⟨n8', rfl⟩
              have hb8 := n8'.keeps
              generalize n8'.val = w8 at *
              go_wp2_with fail
              go_ret
              exact ⟨by rw [hend.out]; rfl, ext_trans hbw6 hb8⟩
            | false =>
              have hnx : Hid (clsErr d sl n l (i + 1) = 0) := hide (cls_on hx ho.out (by unfold clsE; rw [hce, if_neg (by simp), if_neg (of_decide_eq_false hd)]))
              clear hx hce hd hat6 hlt2 ho hbx hbx6 z0
              go_upto_region 11 with fail
              refine wp_region_later (by kernel_rfl) (by kernel_rfl) ?_
              repeat (go_big_quiet_step ((go_at_call 59; with_reducible exact hcall.out _)))
              refine wpQuiet_nil ?_
              clear hcall hg0 hany
              rintro _ ⟨n8', rfl⟩
              have hb8 := n8'.keeps
              generalize n8'.val = w8 at *
              go_wp2_with fail
              go_roundw
              case rel => exact ⟨i + 1, by omega, by go_num, hnx, ext_trans hbr6 hb8⟩
              case measure => simp [intOf]; omega
          · have hend : Hid (V = ce) := hide (by
              rw [← hV.out]
              exact cls_end hx ho.out (by unfold clsE; rw [hce, if_pos hce0]) hce0 hlt)
            have hci : ¬ (ce : Int) = 0 := by omega
            clear hx hce ho hatn hce0
            go_wp2_with fail
            refine hcc.mono ?_
            clear hcc
            rintro e w6 ⟨rfl, hb6⟩
            have hbw6 := ext_trans hbw hb6
            clear y0 y1 y2 y3 y4 y5 y6 y7 y8 g0' g1' g2' g3' hbw hb6 hbx
            go_wp2_with fail
            go_ret
            exact ⟨by rw [hend.out]; rfl, hbw6⟩
        · obtain rfl : i = N := by omega
          have hVV : Hid (V = 0) := hide (by rw [← hV.out]; exact ho.out)
          have hii : ¬ (i : Int) < (i : Int) := by omega
          have hbw := ext_trans hb hbr
          clear hL1
          go_wp2_with fail
          go_ret
          exact ⟨by rw [hVV.out]; rfl, hbw⟩
end Go.Proofs.YtimcdikeajbabaaGreatDoor

namespace Go.Proofs.YtimcdikeajbabaaGreatDoor
open Go.RowKit
set_option maxRecDepth 100000

def dayB (k : Nat) : ByteArray := dayNames.getD k ByteArray.empty
theorem dayB_size (k : Nat) : (dayB k).size ≤ 2 := by
  unfold dayB
  match k with
  | 0 | 1 | 2 | 3 | 4 | 5 | 6 => decide
  | k + 7 => simp [dayNames]
theorem nameB_walk (k : Nat) (hk : k < 7) (w : World) :
    Calls Tryz.prog 45 #[.int .i64 (k : Int)] w fun e w' => e = .returned (.string (dayB k)) ∧ Below w.heap.size w w' := name_walk k hk w
end Go.Proofs.YtimcdikeajbabaaGreatDoor

namespace Go.Proofs.YtimcdikeajbabaaGreatDoor
open Go.RowKit
set_option maxRecDepth 100000

/-- A number in decimal. -/
def decB (n : Nat) : ByteArray := ⟨(Lib.itoa n).toArray⟩
end Go.Proofs.YtimcdikeajbabaaGreatDoor

namespace Go.Proofs.YtimcdikeajbabaaGreatDoor
open Go.RowKit
set_option maxRecDepth 100000

/-! Records. -/
def setB (n p : Int) : ByteArray := ⟨(fmtV p n).1.toArray⟩
def startB (s : Int × Int) : ByteArray := dayB s.1.toNat ++ (⟨#[32]⟩ : ByteArray) ++ decB (s.2 + 1).toNat
/-- Texts with a byte between. -/
def joinZ (c : UInt8) (zs : List ByteArray) : ByteArray := ⟨(Lib.join (zs.map (·.data.toList)) [c]).toArray⟩
def rowK (n : Int) (x : Cls) : List ByteArray := [x.1, x.2.1, x.2.2.1, decB x.2.2.2.1.toNat, joinZ 47 (x.2.2.2.2.1.map (setB n)), decB x.2.2.2.2.2.1.toNat, (joinV x.2.2.2.2.2.2.1).2, (joinV x.2.2.2.2.2.2.2.1).2, joinZ 59 (x.2.2.2.2.2.2.2.2.map startB)]
def rowsK (d sl b m n : Int) (l : List Cls) : List (List ByteArray) := if validK d sl b m n l = 0 then l.map (rowK n) else []
theorem rowsK_len (d sl b m n : Int) (l : List Cls) : ∀ x ∈ rowsK d sl b m n l, x.length ≤ 9223372036854775807 := by
  intro x hx
  unfold rowsK at hx
  split at hx
  · obtain ⟨l, -, rfl⟩ := List.mem_map.1 hx
    simp [rowK]
  · simp at hx
theorem clsErr_all {d sl n : Int} {l : List Cls} {N : Nat} (h : clsErr d sl n l N = 0) : ∀ j, j < N → clsEi d sl n l j = 0 := by
  intro j
  induction N with
  | zero => intro hj; omega
  | succ N ih =>
    intro hj
    by_cases h0 : clsErr d sl n l N = 0
    · rw [clsErr_next h0] at h
      by_cases e : j = N
      · rw [e]; exact h
      · exact ih h0 (by omega)
    · rw [clsErr, if_pos h0] at h
      exact absurd h h0
/-- What is right with a class. -/
structure ClsOk (d sl n : Int) (x : Cls) : Prop where
  code : codeB x.1 = true
  course : codeB x.2.1 = true
  part : codeB x.2.2.1 = true
  len : 1 ≤ x.2.2.2.1 ∧ x.2.2.2.1 ≤ sl
  pats : patsE n x.2.2.2.2.1 = 0
  seats : 0 ≤ x.2.2.2.2.2.1 ∧ x.2.2.2.2.2.1 ≤ 9999
  feats : x.2.2.2.2.2.2.1.length ≤ 8 ∧ ascTo x.2.2.2.2.2.2.1 x.2.2.2.2.2.2.1.length = true
  staff : x.2.2.2.2.2.2.2.1.length ≤ 8 ∧ ascTo x.2.2.2.2.2.2.2.1 x.2.2.2.2.2.2.2.1.length = true
  starts : x.2.2.2.2.2.2.2.2.length ≤ 24 ∧ startsTo d sl x.2.2.2.1 x.2.2.2.2.2.2.2.2 x.2.2.2.2.2.2.2.2.length = true
theorem ite_zero {c : Prop} [Decidable c] {a r : Nat} (ha : a ≠ 0) (h : (if c then a else r) = 0) : ¬ c ∧ r = 0 := by
  by_cases hc : c
  · rw [if_pos hc] at h; exact absurd h ha
  · rw [if_neg hc] at h; exact ⟨hc, h⟩
theorem ite_self {a r : Nat} (h : (if a ≠ 0 then a else r) = 0) : a = 0 ∧ r = 0 := by
  by_cases hc : a = 0
  · rw [if_neg (by simp [hc])] at h; exact ⟨hc, h⟩
  · rw [if_pos hc] at h; exact absurd h hc
theorem bool_not {x : Bool} (h : ¬ x = false) : x = true := by cases x; exact absurd rfl h; rfl
theorem clsEx_ok {d sl n : Int} {x : Cls} (h : clsEx d sl n x = 0) : ClsOk d sl n x := by
  unfold clsEx at h
  obtain ⟨h1, h⟩ := ite_zero (by decide) h
  obtain ⟨h2, h⟩ := ite_zero (by decide) h
  obtain ⟨h3, h⟩ := ite_zero (by decide) h
  obtain ⟨h4, h⟩ := ite_zero (by decide) h
  obtain ⟨h5, h⟩ := ite_zero (by decide) h
  obtain ⟨h6, h⟩ := ite_self h
  obtain ⟨h7, h⟩ := ite_zero (by decide) h
  obtain ⟨h8, h⟩ := ite_zero (by decide) h
  obtain ⟨h9, h⟩ := ite_zero (by decide) h
  obtain ⟨h10, h⟩ := ite_zero (by decide) h
  obtain ⟨h11, h⟩ := ite_zero (by decide) h
  obtain ⟨h12, h⟩ := ite_zero (by decide) h
  obtain ⟨h13, h⟩ := ite_zero (by decide) h
  obtain ⟨h14, h⟩ := ite_zero (by decide) h
  exact ⟨bool_not h1, bool_not h2, bool_not h3, ⟨by omega, by omega⟩, h6, ⟨by omega, by omega⟩, ⟨by omega, bool_not h11⟩, ⟨by omega, bool_not h12⟩, ⟨by omega, bool_not h14⟩⟩
theorem validK_parts {d sl b m n : Int} {l : List Cls} (h : validK d sl b m n l = 0) : weekB d sl b m n = true ∧ l.length ≤ 24 ∧ ∀ (j : Nat) (x : Cls), l[j]? = some x → ClsOk d sl n x ∧ ¬ 0 ≤ idxS x.1 ((codesK l).take j) := by
  unfold validK at h
  cases hw : weekB d sl b m n with
  | false => rw [if_pos hw] at h; omega
  | true =>
    rw [if_neg (by rw [hw]; simp)] at h
    by_cases h24 : 24 < l.length
    · rw [if_pos h24] at h; omega
    · rw [if_neg h24] at h
      refine ⟨rfl, by omega, fun j x hx => ?_⟩
      have hj := (List.getElem?_eq_some_iff.1 hx).1
      have := clsErr_all h j hj
      unfold clsEi at this
      rw [hx] at this
      dsimp only at this
      unfold clsE at this
      by_cases h0 : clsEx d sl n x = 0
      · rw [if_neg (by simp [h0])] at this
        refine ⟨clsEx_ok h0, fun hi => ?_⟩
        rw [if_pos hi] at this
        omega
      · rw [if_pos h0] at this
        exact absurd this h0
theorem patsTo_at {n : Int} {ps : List Int} : ∀ {k : Nat}, patsTo n ps k = true → ∀ j, j < k → validB (ps.getD j 0) n = true ∧ ps.getD j 0 ∉ ps.take j
  | 0, _, j, hj => by omega
  | k + 1, h, j, hj => by
    rw [patsTo, Bool.and_eq_true, Bool.and_eq_true] at h
    by_cases e : j = k
    · subst e
      refine ⟨h.2.1, fun hm => ?_⟩
      have := h.2.2
      simp only [Bool.not_eq_true'] at this
      rw [List.contains_iff_mem.2 hm] at this
      cases this
    · exact patsTo_at h.1 j (by omega)
theorem patsE_parts {n : Int} {ps : List Int} (h : patsE n ps = 0) : 1 ≤ ps.length ∧ ps.length ≤ 8 ∧ patsTo n ps ps.length = true := by
  unfold patsE at h
  repeat' split at h
  all_goals first | omega | skip
  exact ⟨by omega, by omega, by simp_all⟩
theorem startsTo_at {d sl len : Int} {ss : List (Int × Int)} : ∀ {k : Nat}, startsTo d sl len ss k = true → ∀ j, j < k → possB d sl len (ss.getD j (0, 0)) = true ∧ (j = 0 ∨ lessB (ss.getD (j - 1) (0, 0)) (ss.getD j (0, 0)) = true)
  | 0, _, j, hj => by omega
  | k + 1, h, j, hj => by
    rw [startsTo, Bool.and_eq_true, Bool.and_eq_true] at h
    by_cases e : j = k
    · subst e
      refine ⟨h.2.1, ?_⟩
      have := h.2.2
      rw [Bool.or_eq_true, decide_eq_true_eq] at this
      exact this
    · exact startsTo_at h.1 j (by omega)
/-! Times. -/
def allStarts (d sl len : Nat) : List (Int × Int) := (List.range d).flatMap fun (a : Nat) => (List.range (sl + 1 - len)).map fun (c : Nat) => ((a : Int), (c : Int))
theorem allStarts_len (d sl len : Nat) : (allStarts d sl len).length = d * (sl + 1 - len) := by
  unfold allStarts
  induction d with
  | zero => simp
  | succ d ih => rw [List.range_succ, List.flatMap_append, List.length_append, ih]; simp [Nat.add_mul]
def begins (d sl : Int) (x : Cls) : List (Int × Int) := if x.2.2.2.2.2.2.2.2 = [] then allStarts d.toNat sl.toNat x.2.2.2.1.toNat else x.2.2.2.2.2.2.2.2
def patT (len : Int) (bs : List (Int × Int)) (p : Int) : List T4 := bs.map fun s => (p, s.1, s.2, len)
/-- The times of a class. -/
def timesK (d sl b m : Int) (x : Cls) : List T4 :=
  if gridV d sl b m ≠ 0 ∨ x.2.2.2.1 < 1 ∨ sl < x.2.2.2.1 then [] else
  if 4096 < (x.2.2.2.2.1.flatMap (patT x.2.2.2.1 (begins d sl x))).length then [] else x.2.2.2.2.1.flatMap (patT x.2.2.2.1 (begins d sl x))
theorem patT_len (len : Int) (bs : List (Int × Int)) (ps : List Int) : (ps.flatMap (patT len bs)).length = ps.length * bs.length := by
  induction ps with
  | nil => simp
  | cons p ps ih => rw [List.flatMap_cons, List.length_append, ih]; simp [patT, Nat.add_mul]; omega
end Go.Proofs.YtimcdikeajbabaaGreatDoor
