/- Walk of timetableref02.Ascending. Conditions: the cells; at most 1000 texts. -/
import Derived.Test.YtimcdikeajbabaaGreatDoorShelfS
import Derived.Test.YtimcdikeajbabaaGreatDoorRows
import Derived.WalkKit
import Derived.WalkSpells
import Derived.WalkLawsBesides
import Derived.BigGuardPart
import Derived.Lib.Hide
import Derived.Laws.BitsAllLaws
import Derived.Laws.BitsLemmas
import Derived.Lib.LaidTab
import Derived.Test.YtimcdikeajbabaaGreatDoorShelf
import Derived.Lib.ConvBytes
import Derived.Deep.QuietTactic
import Derived.BigQuiet
import Derived.Laws.ResultCell
import Derived.RegionTactic
import Derived.BigRegion
import Derived.Deep.RegionHeld3
import Derived.Deep.DeepCutAuto
import Derived.Lib.SmallJoins
import Derived.Lib.SplitLaws
import Derived.Lib.CountLaws
import Derived.Lib.IndexMore
import Derived.Lib.Split
import Derived.Lib.Join
import Derived.Lib.ItoaNum
import Derived.Laws.AppendOwn
import Derived.Test.YtimcdikeajbabaaGreatDoorShelfT
import Derived.Lib.ItoaLen
import Derived.Lib.AppendIntMem
import Derived.Deep.AppendLies
import Derived.Lib.PathFns
import Derived.Maps.Range
import Derived.Lib.OwnBridge
import Derived.Sort.OwnSorted
import Derived.Sort.Walk0
import Derived.Deep.RegionLaw
import Derived.Deep.RegionLawGrows
import Derived.Test.YtimcdikeajbabaaGreatDoorZSorted
import Derived.Test.YtimcdikeajbabaaGreatDoorZFol
import Derived.Test.YtimcdikeajbabaaGreatDoorZAppAt
namespace Go.Proofs.YtimcdikeajbabaaGreatDoor
open Go.RowKit
set_option maxRecDepth 100000

theorem ascS_take {zs : List ByteArray} {i : Nat} {x : ByteArray} (h : zs[i]? = some x) : ascS (zs.take (i + 1)) = insS (ascS (zs.take i)) x := by
  unfold ascS
  rw [List.take_add_one, h, List.foldl_append]
  rfl
theorem posS_same {x : ByteArray} {out : List ByteArray} {k : Nat} (h : lessS x (out.getD k ⟨#[]⟩) = true) : posS x out (k + 1) = posS x out k := by rw [posS, if_pos h]
theorem posS_stop {x : ByteArray} {out : List ByteArray} {k : Nat} (h : lessS x (out.getD k ⟨#[]⟩) = false) : posS x out (k + 1) = k + 1 := by rw [posS, h]; rfl
set_option maxHeartbeats 4000000 in
theorem r2asc_walk (A : Option Addr) (zs : List ByteArray) (c : Nat) (w : World) (hl : zs.length ≤ 1000) (h : At kStr AnyB w A zs) :
    Calls Tryz.prog 119 #[.slice A zs.length c] w fun e w' => ∃ v, e = .returned v ∧ Own kStr 9 [] 0 w.heap.size w' v (ascS zs) ∧ Below w.heap.size w w' := by
  obtain ⟨n, hnn⟩ : ∃ n, zs.length = n := ⟨_, rfl⟩
  rw [hnn] at hl ⊢
  replace hnn := hide hnn
  go_enter Tryz.func119, Tryz.ntmps119
  go_wp2_with fail
  go_loopw [3, 4] (fun v i wr => ∃ j : Nat, j ≤ n ∧ i = .int .i64 j ∧ Own kStr 9 [] 0 w.heap.size wr v (ascS (zs.take j)) ∧ Below w.heap.size w wr) (fun _ i _ => n - (intOf i).toNat)
  case atStart => exact ⟨0, Nat.zero_le _, rfl, Own.nil, Below.refl _ _⟩
  case round =>
    obtain ⟨j, hj, rfl, hown, hb⟩ := hrel
    by_cases hlt : j < n
    · obtain ⟨x, hx⟩ : ∃ x, zs[j]? = some x := ⟨_, List.getElem?_eq_getElem (by rw [hnn.out]; exact hlt)⟩
      have hnx := ascS_take hx
      have hol : (ascS (zs.take j)).length = j := by rw [ascS_len, List.length_take, hnn.out]; omega
      obtain ⟨out, hout⟩ : ∃ out, ascS (zs.take j) = out := ⟨_, rfl⟩
      rw [hout] at hown hnx hol
      obtain ⟨A3, c3, rfl, hcap, hat⟩ := hown.any
      rw [hol] at hown hcap ⊢
      obtain ⟨zb, zo, rfl, -, hzl, z0⟩ := (h.later hb).str hx
      have hj0 : (0 : Int) ≤ (j : Int) := by omega
      have hj1 : (j : Int) < (n : Int) := by omega
      replace hnx := hide hnx
      replace hol := hide hol
      clear hx hout
      go_wp2_with fail
      rename World => wo
      have hze := hb.size
      go_loopw [5] (fun v wi => ∃ k : Nat, k ≤ j ∧ v = .int .i64 k ∧ Hid (posS x out j = posS x out k) ∧ Below wo.heap.size wo wi) (fun v _ => (intOf v).toNat)
      case atStart => exact ⟨j, Nat.le_refl _, rfl, hide rfl, Below.refl _ _⟩
      case round =>
        obtain ⟨k, hk, rfl, hps, hbi⟩ := hrel
        have z1 := cell_later hbi z0
        have hzl1 : zb < wr.heap.size := Nat.lt_of_lt_of_le hzl hbi.size
        by_cases hk0 : 0 < k
        · obtain ⟨k, rfl⟩ : ∃ k', k = k' + 1 := ⟨k - 1, by omega⟩
          obtain ⟨y, hy⟩ : ∃ y, out[k]? = some y := ⟨_, List.getElem?_eq_getElem (by rw [hol.out]; omega)⟩
          obtain ⟨ob, oo, rfl, -, hobl, y0⟩ := (hat.any.later hbi).str hy
          have hyd : out.getD k ⟨#[]⟩ = y := by rw [List.getD_eq_getElem?_getD, hy]; rfl
          have hk1 : (0 : Int) < ((k + 1 : Nat) : Int) := by omega
          have hkw : IntKind.i64.wrap (((k + 1 : Nat) : Int) - 1) = (k : Int) := by rw [IntKind.wrap_i64]; omega
          have hkk : ((k + 1 : Nat) : Int) - 1 = (k : Int) := by omega
          have hk2 : (0 : Int) ≤ (k : Int) := by omega
          have hk3 : (k : Int) < (j : Int) := by omega
          cases hless : lessS x y with
          | true =>
            have hcmp : Op.bytesLess x.toList y.toList = true := hless
            have hnp : Hid (posS x out j = posS x out k) := hide (hps.out.trans (posS_same (by rw [hyd]; exact hless)))
            clear hy hyd hless hps
            go_upto_region 6 with fail
            go_quiet (fail)
            go_wp2_with fail
            go_roundw
            case rel => exact ⟨k, by omega, by go_num, hnp, ext_drewN hbi _⟩
            case measure => first | (simp [intOf]; done) | (simp [intOf]; omega)
          | false =>
            have hcmp : Op.bytesLess x.toList y.toList = false := hless
            have hpp : Hid (posS x out j = k + 1) := hide (hps.out.trans (posS_stop (by rw [hyd]; exact hless)))
            clear hy hyd hless hps
            go_upto_region 6 with fail
            go_quiet (fail)
            clear y0 hobl hkw hkk hk2 hk3 hk1 hcmp z1 hzl1 hk0
            obtain ⟨q, hqe⟩ : ∃ q, k + 1 = q := ⟨_, rfl⟩
            rw [hqe] at hpp hk ⊢
            clear hqe
            obtain ⟨A3q, hA3q⟩ : ∃ A3q, some (⟨ob, oo, none⟩ : Addr) = A3q := ⟨_, rfl⟩
            rw [hA3q] at hown hat ⊢
            clear hA3q
            (
              have hbz : Below wo.heap.size wo (wr.drewN nq) := ext_drewN hbi _
              obtain ⟨wz, hwz⟩ : ∃ wz, wr.drewN nq = wz := ⟨_, rfl⟩
              rw [hwz] at hbz
              have zz := cell_later hbz z0
              have hzlz : zb < wz.heap.size := Nat.lt_of_lt_of_le hzl hbz.size
              have hownz := hown.later hbz
              have hbw : Below w.heap.size w wz := ext_trans hb hbz
              have hq0 : (0 : Int) ≤ (q : Int) := by omega
              have hq1 : (q : Int) ≤ (j : Int) := by omega
              have hqc : (q : Int) ≤ (c3 : Int) := by omega
              have hfr := hownz.front hk
              replace hwz := hide hwz
              clear hbi hbz z0 hzl hown hat hb
              have hWo : Below wz.heap.size wz ((wz.alloc (.cells #[.string x] 9)).drew) := ext_drew (ext_alloc (Below.refl _ _) _)
              have hone : Own kStr 9 [] 0 wz.heap.size ((wz.alloc (.cells #[.string x] 9)).drew) (.slice (some ⟨wz.heap.size, 0, none⟩) 1 1) [x] :=
                (Own.lit (K := kStr) (heap_alloc_new wz (.cells #[.string x] 9)) [x] [[.string x]] rfl rfl (by simp) (fun j x vs hj hv => by
                  match j, hj, hv with
                  | 0, hj, hv => simp at hj hv; subst hj hv; rfl
                  | j + 1, hj, _ => simp at hj) (Nat.le_refl _)).drew
              have hfz := hfr.later hWo
              have hfl : ∀ y, (Value.slice A3q q c3).ownBlock = some y → w.heap.size ≤ y ∧ y < wz.heap.size := fun y hy => hfr.lt y hy
              have hsz : wz.heap.size ≤ ((wz.alloc (.cells #[.string x] 9)).drew).heap.size := hWo.size
              by_cases hqj : q = j
              · subst hqj
                have hql : (out.take q).length = q := by rw [List.length_take, hol.out]; omega
                have hl1 : (out.take q).length + 1 ≤ 4000000000 := by rw [hql]; omega
                have hfin : Hid (out.take q ++ [x] = ascS (zs.take (q + 1))) := hide (by
                  have hd : out.drop q = [] := List.drop_eq_nil_of_le (by rw [hol.out]; exact Nat.le_refl _)
                  rw [hnx.out]
                  unfold insS
                  rw [hol.out, hpp.out, hd])
                cases A3q with
                | none =>
                  go_upto_region 8 with fail
                  rw [hwz.out]
                  go_region_law (refine step_own_app (P := Tryz.prog) (t2 := 44) (t := 9) (B := w.heap.size) (As := none) (ns := q) (cs := c3) (l := out.take q) (F := some ⟨wz.heap.size, 0, none⟩) (es := [x]) (k := 1) (c := 1) (bytes := 16) rfl (.tmp 32) (.tmp 41) rfl apd_strs (by simp [Act.eval]; done) hfz rfl (by decide) (by simp [Act.eval]; done) hone.any'.any hl1 (by decide) (Nat.le_trans hbw.size hsz) ?_; intro g5 c5 w5 ho5 hgr5 hgl5)
                  have hbf : Below w.heap.size w w5 := below_grown (ext_trans hbw hWo) hgr5 (fun y hy => (hfl y hy).1)
                  rw [hql, hfin.out] at ho5
                  clear hgr5 hgl5 hfin hfl hfz hone hfr hownz hWo hnx hpp
                  go_wp2_with fail
                  go_roundw
                  case rel => exact ⟨q + 1, by omega, by go_num, ho5, hbf⟩
                  case measure => first | (simp [intOf]; done) | (simp [intOf]; omega)
                | some ad =>
                  by_cases hcq : c3 = q
                  · subst hcq
                    go_upto_region 8 with fail
                    rw [hwz.out]
                    go_region_law (refine step_own_app (P := Tryz.prog) (t2 := 44) (t := 9) (B := w.heap.size) (As := some ad) (ns := c3) (cs := c3) (l := out.take c3) (F := some ⟨wz.heap.size, 0, none⟩) (es := [x]) (k := 1) (c := 1) (bytes := 16) rfl (.tmp 32) (.tmp 41) rfl apd_strs (by simp [Act.eval]; done) hfz rfl (by decide) (by simp [Act.eval]; done) hone.any'.any hl1 (by decide) (Nat.le_trans hbw.size hsz) ?_; intro g5 c5 w5 ho5 hgr5 hgl5)
                    have hbf : Below w.heap.size w w5 := below_grown (ext_trans hbw hWo) hgr5 (fun y hy => (hfl y hy).1)
                    rw [hql, hfin.out] at ho5
                    clear hgr5 hgl5 hfin hfl hfz hone hfr hownz hWo hnx hpp
                    go_wp2_with fail
                    go_roundw
                    case rel => exact ⟨c3 + 1, by omega, by go_num, ho5, hbf⟩
                    case measure => first | (simp [intOf]; done) | (simp [intOf]; omega)
                  · go_upto_region 8 with fail
                    rw [hwz.out]
                    go_region_law (refine step_own_app (P := Tryz.prog) (t2 := 44) (t := 9) (B := w.heap.size) (As := some ad) (ns := q) (cs := c3) (l := out.take q) (F := some ⟨wz.heap.size, 0, none⟩) (es := [x]) (k := 1) (c := 1) (bytes := 16) rfl (.tmp 32) (.tmp 41) rfl apd_strs (by simp [Act.eval]; done) hfz rfl (by decide) (by simp [Act.eval]; done) hone.any'.any hl1 (by decide) (Nat.le_trans hbw.size hsz) ?_; intro g5 c5 w5 ho5 hgr5 hgl5)
                    have hbf : Below w.heap.size w w5 := below_grown (ext_trans hbw hWo) hgr5 (fun y hy => (hfl y hy).1)
                    rw [hql, hfin.out] at ho5
                    clear hgr5 hgl5 hfin hfl hfz hone hfr hownz hWo hnx hpp
                    go_wp2_with fail
                    go_roundw
                    case rel => exact ⟨q + 1, by omega, by go_num, ho5, hbf⟩
                    case measure => first | (simp [intOf]; done) | (simp [intOf]; omega)
              · have hcq : ¬ c3 = q := by omega
                obtain ⟨g3, hg3, hgl⟩ : ∃ g3, A3q = some ⟨g3, 0, none⟩ ∧ g3 < wz.heap.size := by
                  obtain ⟨vss, -, e2, -⟩ := hownz
                  rcases e2.2 with ⟨e, h0⟩ | ⟨g3, cap, cur, e, hB, hg3, -⟩
                  · exfalso; have := hol.out; omega
                  · injection e with e
                    exact ⟨g3, e, blk_lt hg3⟩
                cases hg3
                have hdr := (hownz.any'.any.drop_str (k := q)).later hWo
                rw [Nat.zero_add] at hdr
                have hdl : (out.drop q).length = j - q := by rw [List.length_drop, hol.out]
                have hql : (out.take q).length = q := by rw [List.length_take, hol.out]; omega
                have hpos : 0 < j - q := by omega
                have hw7 := hbw.size
                have hfin : Hid (out.take q ++ ([x] ++ out.drop q) = ascS (zs.take (j + 1))) := hide (by
                  rw [hnx.out]
                  unfold insS
                  rw [hol.out, hpp.out]; rfl)
                go_upto_region 8 with fail
                rw [hwz.out]
                have hl0 : ([x] : List ByteArray).length + (j - q) ≤ 4000000000 := by show 1 + (j - q) ≤ _; omega
                have hl1 : ∀ a b : ByteArray, ((out.take q).length : Nat) + (1 + (j - q)) ≤ 4000000000 := fun _ _ => by rw [hql]; omega
                have hle : ([x] ++ out.drop q).length = 1 + (j - q) := by rw [List.length_append]; exact congrArg (1 + ·) hdl
                go_region_law (first | (refine step_own_app (P := Tryz.prog) (t2 := 44) (t := 9) (B := wz.heap.size) (As := some ⟨wz.heap.size, 0, none⟩) (ns := 1) (cs := 1) (l := [x]) (F := some ⟨g3, q, none⟩) (es := out.drop q) (k := j - q) (c := c3 - q) (bytes := 16) rfl (.tmp 37) (.tmp 40) rfl apd_strs (by simp [Act.eval]; done) hone hdl hpos (by simp [Act.eval]; done) hdr hl0 (by decide) hsz ?_; intro g4 c4 w4 ho4 hgr4 hgl4; have hf4 := hfz.kept hgr4 (Or.inr (fun e => by simp [Value.ownBlock] at e; omega)) (fun y hy => ⟨Nat.zero_le _, fun h => by obtain ⟨-, cs, t', -, ht⟩ := h; simp at ht⟩)) | (refine step_own_app (P := Tryz.prog) (t2 := 44) (t := 9) (B := w.heap.size) (As := some ⟨g3, 0, none⟩) (ns := q) (cs := c3) (l := out.take q) (F := some ⟨g4, 0, none⟩) (es := [x] ++ out.drop q) (k := 1 + (j - q)) (c := c4) (bytes := 16) rfl (.tmp 32) (.tmp 41) rfl apd_strs (by simp [Act.eval]; done) hf4 hle (by omega) (by simp [Act.eval]; done) ho4.any'.any (hl1 x x) (by decide) (Nat.le_trans (Nat.le_trans hw7 hsz) hgr4.size) ?_; intro g5 c5 w5 ho5 hgr5 hgl5))
                have hbf : Below w.heap.size w w5 := below_grown (below_grown (ext_trans hbw hWo) hgr4 (fun y hy => by simp [Value.ownBlock] at hy; omega)) hgr5 (fun y hy => (hfl y hy).1)
                rw [hql, hfin.out] at ho5
                have hqe : q + (1 + (j - q)) = j + 1 := by omega
                rw [hqe] at ho5 ⊢
                clear hgr5 hgr4 hgl4 hgl5 ho4 hf4 hfin hfl hfz hone hdr hfr hownz hWo hnx hpp
                go_wp2_with fail
                go_roundw
                case rel => exact ⟨j + 1, by omega, by go_num, ho5, hbf⟩
                case measure => first | (simp [intOf]; done) | (simp [intOf]; omega))
        · have hpp : Hid (posS x out j = k) := hide (by
            have e : k = 0 := by omega
            rw [hps.out, e]; rfl)
          have hk1 : ¬ (0 : Int) < (k : Int) := by omega
          clear hps
          go_upto_region 6 with fail
          go_quiet (fail)
          clear z1 hzl1 hk1 hk0
          obtain ⟨q, hqe⟩ : ∃ q, k = q := ⟨_, rfl⟩
          rw [hqe] at hpp hk ⊢
          clear hqe
          obtain ⟨A3q, hA3q⟩ : ∃ A3q, A3 = A3q := ⟨_, rfl⟩
          rw [hA3q] at hown hat ⊢
          clear hA3q
          (
            have hbz : Below wo.heap.size wo (wr.drewN nq) := ext_drewN hbi _
            obtain ⟨wz, hwz⟩ : ∃ wz, wr.drewN nq = wz := ⟨_, rfl⟩
            rw [hwz] at hbz
            have zz := cell_later hbz z0
            have hzlz : zb < wz.heap.size := Nat.lt_of_lt_of_le hzl hbz.size
            have hownz := hown.later hbz
            have hbw : Below w.heap.size w wz := ext_trans hb hbz
            have hq0 : (0 : Int) ≤ (q : Int) := by omega
            have hq1 : (q : Int) ≤ (j : Int) := by omega
            have hqc : (q : Int) ≤ (c3 : Int) := by omega
            have hfr := hownz.front hk
            replace hwz := hide hwz
            clear hbi hbz z0 hzl hown hat hb
            have hWo : Below wz.heap.size wz ((wz.alloc (.cells #[.string x] 9)).drew) := ext_drew (ext_alloc (Below.refl _ _) _)
            have hone : Own kStr 9 [] 0 wz.heap.size ((wz.alloc (.cells #[.string x] 9)).drew) (.slice (some ⟨wz.heap.size, 0, none⟩) 1 1) [x] :=
              (Own.lit (K := kStr) (heap_alloc_new wz (.cells #[.string x] 9)) [x] [[.string x]] rfl rfl (by simp) (fun j x vs hj hv => by
                match j, hj, hv with
                | 0, hj, hv => simp at hj hv; subst hj hv; rfl
                | j + 1, hj, _ => simp at hj) (Nat.le_refl _)).drew
            have hfz := hfr.later hWo
            have hfl : ∀ y, (Value.slice A3q q c3).ownBlock = some y → w.heap.size ≤ y ∧ y < wz.heap.size := fun y hy => hfr.lt y hy
            have hsz : wz.heap.size ≤ ((wz.alloc (.cells #[.string x] 9)).drew).heap.size := hWo.size
            by_cases hqj : q = j
            · subst hqj
              have hql : (out.take q).length = q := by rw [List.length_take, hol.out]; omega
              have hl1 : (out.take q).length + 1 ≤ 4000000000 := by rw [hql]; omega
              have hfin : Hid (out.take q ++ [x] = ascS (zs.take (q + 1))) := hide (by
                have hd : out.drop q = [] := List.drop_eq_nil_of_le (by rw [hol.out]; exact Nat.le_refl _)
                rw [hnx.out]
                unfold insS
                rw [hol.out, hpp.out, hd])
              cases A3q with
              | none =>
                go_upto_region 8 with fail
                rw [hwz.out]
                go_region_law (refine step_own_app (P := Tryz.prog) (t2 := 44) (t := 9) (B := w.heap.size) (As := none) (ns := q) (cs := c3) (l := out.take q) (F := some ⟨wz.heap.size, 0, none⟩) (es := [x]) (k := 1) (c := 1) (bytes := 16) rfl (.tmp 32) (.tmp 41) rfl apd_strs (by simp [Act.eval]; done) hfz rfl (by decide) (by simp [Act.eval]; done) hone.any'.any hl1 (by decide) (Nat.le_trans hbw.size hsz) ?_; intro g5 c5 w5 ho5 hgr5 hgl5)
                have hbf : Below w.heap.size w w5 := below_grown (ext_trans hbw hWo) hgr5 (fun y hy => (hfl y hy).1)
                rw [hql, hfin.out] at ho5
                clear hgr5 hgl5 hfin hfl hfz hone hfr hownz hWo hnx hpp
                go_wp2_with fail
                go_roundw
                case rel => exact ⟨q + 1, by omega, by go_num, ho5, hbf⟩
                case measure => first | (simp [intOf]; done) | (simp [intOf]; omega)
              | some ad =>
                by_cases hcq : c3 = q
                · subst hcq
                  go_upto_region 8 with fail
                  rw [hwz.out]
                  go_region_law (refine step_own_app (P := Tryz.prog) (t2 := 44) (t := 9) (B := w.heap.size) (As := some ad) (ns := c3) (cs := c3) (l := out.take c3) (F := some ⟨wz.heap.size, 0, none⟩) (es := [x]) (k := 1) (c := 1) (bytes := 16) rfl (.tmp 32) (.tmp 41) rfl apd_strs (by simp [Act.eval]; done) hfz rfl (by decide) (by simp [Act.eval]; done) hone.any'.any hl1 (by decide) (Nat.le_trans hbw.size hsz) ?_; intro g5 c5 w5 ho5 hgr5 hgl5)
                  have hbf : Below w.heap.size w w5 := below_grown (ext_trans hbw hWo) hgr5 (fun y hy => (hfl y hy).1)
                  rw [hql, hfin.out] at ho5
                  clear hgr5 hgl5 hfin hfl hfz hone hfr hownz hWo hnx hpp
                  go_wp2_with fail
                  go_roundw
                  case rel => exact ⟨c3 + 1, by omega, by go_num, ho5, hbf⟩
                  case measure => first | (simp [intOf]; done) | (simp [intOf]; omega)
                · go_upto_region 8 with fail
                  rw [hwz.out]
                  go_region_law (refine step_own_app (P := Tryz.prog) (t2 := 44) (t := 9) (B := w.heap.size) (As := some ad) (ns := q) (cs := c3) (l := out.take q) (F := some ⟨wz.heap.size, 0, none⟩) (es := [x]) (k := 1) (c := 1) (bytes := 16) rfl (.tmp 32) (.tmp 41) rfl apd_strs (by simp [Act.eval]; done) hfz rfl (by decide) (by simp [Act.eval]; done) hone.any'.any hl1 (by decide) (Nat.le_trans hbw.size hsz) ?_; intro g5 c5 w5 ho5 hgr5 hgl5)
                  have hbf : Below w.heap.size w w5 := below_grown (ext_trans hbw hWo) hgr5 (fun y hy => (hfl y hy).1)
                  rw [hql, hfin.out] at ho5
                  clear hgr5 hgl5 hfin hfl hfz hone hfr hownz hWo hnx hpp
                  go_wp2_with fail
                  go_roundw
                  case rel => exact ⟨q + 1, by omega, by go_num, ho5, hbf⟩
                  case measure => first | (simp [intOf]; done) | (simp [intOf]; omega)
            · have hcq : ¬ c3 = q := by omega
              obtain ⟨g3, hg3, hgl⟩ : ∃ g3, A3q = some ⟨g3, 0, none⟩ ∧ g3 < wz.heap.size := by
                obtain ⟨vss, -, e2, -⟩ := hownz
                rcases e2.2 with ⟨e, h0⟩ | ⟨g3, cap, cur, e, hB, hg3, -⟩
                · exfalso; have := hol.out; omega
                · injection e with e
                  exact ⟨g3, e, blk_lt hg3⟩
              cases hg3
              have hdr := (hownz.any'.any.drop_str (k := q)).later hWo
              rw [Nat.zero_add] at hdr
              have hdl : (out.drop q).length = j - q := by rw [List.length_drop, hol.out]
              have hql : (out.take q).length = q := by rw [List.length_take, hol.out]; omega
              have hpos : 0 < j - q := by omega
              have hw7 := hbw.size
              have hfin : Hid (out.take q ++ ([x] ++ out.drop q) = ascS (zs.take (j + 1))) := hide (by
                rw [hnx.out]
                unfold insS
                rw [hol.out, hpp.out]; rfl)
              go_upto_region 8 with fail
              rw [hwz.out]
              have hl0 : ([x] : List ByteArray).length + (j - q) ≤ 4000000000 := by show 1 + (j - q) ≤ _; omega
              have hl1 : ∀ a b : ByteArray, ((out.take q).length : Nat) + (1 + (j - q)) ≤ 4000000000 := fun _ _ => by rw [hql]; omega
              have hle : ([x] ++ out.drop q).length = 1 + (j - q) := by rw [List.length_append]; exact congrArg (1 + ·) hdl
              go_region_law (first | (refine step_own_app (P := Tryz.prog) (t2 := 44) (t := 9) (B := wz.heap.size) (As := some ⟨wz.heap.size, 0, none⟩) (ns := 1) (cs := 1) (l := [x]) (F := some ⟨g3, q, none⟩) (es := out.drop q) (k := j - q) (c := c3 - q) (bytes := 16) rfl (.tmp 37) (.tmp 40) rfl apd_strs (by simp [Act.eval]; done) hone hdl hpos (by simp [Act.eval]; done) hdr hl0 (by decide) hsz ?_; intro g4 c4 w4 ho4 hgr4 hgl4; have hf4 := hfz.kept hgr4 (Or.inr (fun e => by simp [Value.ownBlock] at e; omega)) (fun y hy => ⟨Nat.zero_le _, fun h => by obtain ⟨-, cs, t', -, ht⟩ := h; simp at ht⟩)) | (refine step_own_app (P := Tryz.prog) (t2 := 44) (t := 9) (B := w.heap.size) (As := some ⟨g3, 0, none⟩) (ns := q) (cs := c3) (l := out.take q) (F := some ⟨g4, 0, none⟩) (es := [x] ++ out.drop q) (k := 1 + (j - q)) (c := c4) (bytes := 16) rfl (.tmp 32) (.tmp 41) rfl apd_strs (by simp [Act.eval]; done) hf4 hle (by omega) (by simp [Act.eval]; done) ho4.any'.any (hl1 x x) (by decide) (Nat.le_trans (Nat.le_trans hw7 hsz) hgr4.size) ?_; intro g5 c5 w5 ho5 hgr5 hgl5))
              have hbf : Below w.heap.size w w5 := below_grown (below_grown (ext_trans hbw hWo) hgr4 (fun y hy => by simp [Value.ownBlock] at hy; omega)) hgr5 (fun y hy => (hfl y hy).1)
              rw [hql, hfin.out] at ho5
              have hqe : q + (1 + (j - q)) = j + 1 := by omega
              rw [hqe] at ho5 ⊢
              clear hgr5 hgr4 hgl4 hgl5 ho4 hf4 hfin hfl hfz hone hdr hfr hownz hWo hnx hpp
              go_wp2_with fail
              go_roundw
              case rel => exact ⟨j + 1, by omega, by go_num, ho5, hbf⟩
              case measure => first | (simp [intOf]; done) | (simp [intOf]; omega))
    · obtain rfl : j = n := by omega
      have hall : zs.take j = zs := by rw [← hnn.out, List.take_length]
      rw [hall] at hown
      go_wp2
      go_ret
      exact ⟨_, rfl, hown, hb⟩
end Go.Proofs.YtimcdikeajbabaaGreatDoor
