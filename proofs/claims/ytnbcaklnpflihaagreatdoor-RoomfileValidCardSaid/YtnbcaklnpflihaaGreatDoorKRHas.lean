/- Walk of timetableref07.Write. Conditions: the rooms' cells; what the program's variables hold. Walk of slices.ContainsFunc at rooms, with the closure of roomfile.Lines' reading. Conditions: the rooms' cells. -/
import Derived.Test.YtnbcaklnpflihaaGreatDoorKRWrite
import Derived.Test.YtnbcaklnpflihaaGreatDoorKRValR
import Derived.Test.YtnbcaklnpflihaaGreatDoorKJoinR
import Derived.Test.YtnbcaklnpflihaaGreatDoorKStaffB
namespace Go.Proofs.YtnbcaklnpflihaaGreatDoor
open Go.RowKit
set_option maxRecDepth 100000

set_option maxHeartbeats 8000000 in
theorem r7Write_walk (A : Option Addr) (l : List Room) (cap : Nat) (d sl b m n : Int) (w : World) (hS : Std w) (hWd : Wds w) (hD : Dys w) (hL : At kRoom AnyB w A l) :
    Calls Tryz.prog 11 #[.slice A l.length cap, .agg #[.int .i64 d, .int .i64 sl, .int .i64 b, .int .i64 m], .int .i64 n] w fun e w' => RWriteIs d sl b m n l w e w' := by
  have hb0 : Below w.heap.size w (w.alloc (.cells #[.int .i64 d, .int .i64 sl, .int .i64 b, .int .i64 m] 24)) := (by repeat (first | exact Below.refl _ _ | refine ext_alloc ?_ _ | refine ext_drewN ?_ _ | refine ext_drew ?_ | refine ext_trans ?_ (by assumption)))
  have bG := Box4.new w 24 (.int .i64 d) (.int .i64 sl) (.int .i64 b) (.int .i64 m)
  have hval := r7Valid_walk A l cap d sl b m n _ (hL.later hb0)
  by_cases hv : validR d sl b m n l = 0
  · obtain ⟨hwk, h16, hpart⟩ := validR_parts hv
    have hr : Hid (rowsR d sl b m n l = l.map (rowR d sl b m n)) := hide (if_pos hv)
    obtain ⟨N, hN⟩ : ∃ N, l.length = N := ⟨_, rfl⟩
    rw [hv] at hval
    rw [hN] at hval h16 ⊢
    replace hN := hide hN
    replace hpart := hide hpart
    replace hv := hide hv
    obtain ⟨gb, hgb⟩ : ∃ gb, w.heap.size = gb := ⟨_, rfl⟩
    go_enter Tryz.func11, Tryz.ntmps11
    go_wp2_with fail
    refine hval.mono ?_
    rintro e w1 ⟨rfl, hb1⟩
    have hbw := ext_trans hb0 hb1
    have hL1 := (hL.later hbw).lo
    have hS1 := hS.after hbw
    have hW1 := hWd.after hbw hS
    have hD1 := hD.after hbw hS
    rw [hgb] at bG
    obtain ⟨g0, g1, g2, g3⟩ := bG.later hb1
    have hgl : gb < w1.heap.size := World.block_lt_of_cell? _ _ g0
    replace hgb := hide hgb
    clear hval hL hb0 hb1 bG
    go_wp2_with fail
    try rw [hgb.out]
    go_loopw [9, 10] (fun v i wr => ∃ j : Nat, j ≤ N ∧ i = .int .i64 j ∧ Own (kSlice kStr) 44 [9] 0 w1.heap.size wr v ((l.take j).map (rowR d sl b m n)) ∧ Below w1.heap.size w1 wr) (fun _ i _ => N - (intOf i).toNat)
    case atStart => exact ⟨0, Nat.zero_le _, rfl, Own.nil, Below.refl _ _⟩
    case round =>
      obtain ⟨j, hj, rfl, hown, hb⟩ := hrel
      by_cases hlt : j < N
      · obtain ⟨x, hx⟩ : ∃ x, l[j]? = some x := ⟨_, List.getElem?_eq_getElem (by rw [hN.out]; exact hlt)⟩
        obtain ⟨-, -, hs1, hs2, hf8, ht24, -, -, -⟩ := roomEx_parts (hpart.out j x hx)
        obtain ⟨rb, off, A3, c3, A4, c4, rfl, hrb1, hrb, ⟨q0, q1, q2, q3, q4⟩, l3, l4, a3, a4⟩ := (hL1.below hb).room hx
        have hsn : Hid ((l.take (j + 1)).map (rowR d sl b m n) = (l.take j).map (rowR d sl b m n) ++ [rowR d sl b m n x]) := by
          refine hide ?_
          rw [List.take_add_one, hx]; simp
        have hl9 : ((l.take j).map (rowR d sl b m n)).length ≤ 4000000000 := by rw [List.length_map, List.length_take]; omega
        obtain ⟨lists, hlists⟩ : ∃ lists, (l.take j).map (rowR d sl b m n) = lists := ⟨_, rfl⟩
        rw [hlists] at hown hsn hl9
        obtain ⟨z, bl, sn, fs, ts⟩ := x
        dsimp only at q0 q1 q2 q3 q4 l3 l4 a3 a4 hs1 hs2 hf8 ht24
        have hz := hb.size
        have hgr : gb < wr.heap.size := by omega
        have hu9 : Hid (∀ y, u9.ownBlock = some y → w1.heap.size ≤ y ∧ y < wr.heap.size) := hide hown.lt
        have hcI := fun (V : World) => decimalN_walk 2 sn.toNat (by omega) (by omega) V
        rw [Int.toNat_of_nonneg (by omega)] at hcI
        have hcC := r3join_walk A3 fs c3 wr a3.any (by omega)
        have hcT := fun (V : World) (hV : Below wr.heap.size wr V) => r7WriteT_walk A4 ts c4 d sl b m n V (hS1.after (ext_trans hb hV)) (hW1.after (ext_trans hb hV) hS1) (hD1.after (ext_trans hb hV) hS1) (by omega) (cells_of_at (a4.later hV).lo)
        obtain ⟨dn, hdn⟩ : ∃ dn, decB sn.toNat = dn := ⟨_, rfl⟩
        obtain ⟨⟨jn, tf⟩, hjv⟩ : ∃ r, joinV fs = r := ⟨_, rfl⟩
        have htf : (joinV fs).2 = tf := by rw [hjv]
        obtain ⟨tt, htt⟩ : ∃ tt, (⟨(timesL d sl b m n ts).toArray⟩ : ByteArray) = tt := ⟨_, rfl⟩
        have hrow : Hid (rowR d sl b m n (z, bl, sn, fs, ts) = [z, bl, dn, tf, tt]) := by rw [← hdn, ← htf, ← htt]; exact hide rfl
        rw [hdn] at hcI
        rw [hjv] at hcC
        rw [htt] at hcT
        obtain ⟨nf, hnf⟩ : ∃ nf, fs.length = nf := ⟨_, rfl⟩
        obtain ⟨nt, hnt⟩ : ∃ nt, ts.length = nt := ⟨_, rfl⟩
        rw [hnf] at hcC q3
        rw [hnt] at hcT q4
        replace hcI := hide hcI
        replace hcC := hide hcC
        replace hcT := hide hcT
        have hj0 : (0 : Int) ≤ (j : Int) := by omega
        have hj1 : (j : Int) < (N : Int) := by omega
        clear hx hlists hdn htf htt hjv hnf hnt a3 a4 l3 l4
        go_upto_region 9 with (go_at_call 26; (with_reducible refine hcC.out.mono ?_); rintro e Wx ⟨rfl, hxx⟩)
        have hownx := hown.later hxx
        have hC : Cn8 rb (off + j * 5) (.string z) rb (off + j * 5 + 1) (.string bl) rb (off + j * 5 + 2) (.int .i64 sn) rb (off + j * 5 + 4) (.slice A4 nt c4) gb 0 (.int .i64 d) gb 1 (.int .i64 sl) gb 2 (.int .i64 b) gb 3 (.int .i64 m) Wx := ⟨cell_later hxx q0, cell_later hxx q1, cell_later hxx q2, cell_later hxx q4, cell_later (ext_trans hb hxx) g0, cell_later (ext_trans hb hxx) g1, cell_later (ext_trans hb hxx) g2, cell_later (ext_trans hb hxx) g3⟩
        have hbx : Below w1.heap.size w1 Wx := ext_trans hb hxx
        have hxl : rb < Wx.heap.size := Nat.lt_of_lt_of_le hrb hxx.size
        have hgx : gb < Wx.heap.size := Nat.lt_of_lt_of_le hgr hxx.size
        have hI := hide (fun (V : World) (hV : Below Wx.heap.size Wx V) => (hcI.out V).mono fun _ _ ⟨he, hb⟩ => (⟨he, ext_trans hV hb, hC.later (ext_trans hV hb), hownx.later (ext_trans hV hb), ext_trans hbx (ext_trans hV hb)⟩ : _ = Ending.returned (.string dn) ∧ Below Wx.heap.size Wx _ ∧ Cn8 rb (off + j * 5) (.string z) rb (off + j * 5 + 1) (.string bl) rb (off + j * 5 + 2) (.int .i64 sn) rb (off + j * 5 + 4) (.slice A4 nt c4) gb 0 (.int .i64 d) gb 1 (.int .i64 sl) gb 2 (.int .i64 b) gb 3 (.int .i64 m) _ ∧ Own (kSlice kStr) 44 [9] 0 w1.heap.size _ u9 lists ∧ Below w1.heap.size w1 _))
        have hT := hide (fun (V : World) (hV : Below Wx.heap.size Wx V) => (hcT.out V (ext_trans hxx hV)).mono fun _ _ ⟨he, hb⟩ => (⟨he, ext_trans hV hb, hC.later (ext_trans hV hb), hownx.later (ext_trans hV hb), ext_trans hbx (ext_trans hV hb)⟩ : _ = Ending.returned (.string tt) ∧ Below Wx.heap.size Wx _ ∧ Cn8 rb (off + j * 5) (.string z) rb (off + j * 5 + 1) (.string bl) rb (off + j * 5 + 2) (.int .i64 sn) rb (off + j * 5 + 4) (.slice A4 nt c4) gb 0 (.int .i64 d) gb 1 (.int .i64 sl) gb 2 (.int .i64 b) gb 3 (.int .i64 m) _ ∧ Own (kSlice kStr) 44 [9] 0 w1.heap.size _ u9 lists ∧ Below w1.heap.size w1 _))
        have nx : Hid (some rb ≠ u9.ownBlock) := hide fun e => by have := (hu9.out rb e.symm).1; omega
        have ng : Hid (some gb ≠ u9.ownBlock) := hide fun e => by have := (hu9.out gb e.symm).1; omega
        obtain ⟨p0, p1, p2, p3, p4, p5, p6, p7⟩ := id hC
        have hCd := hC.drew
        have hrefl := Below.refl Wx.heap.size Wx
        clear hcI hcC hcT hxx q0 q1 q2 q3 q4 hown
        go_region_held3 (fun W' => W'.cell? ⟨rb, off + j * 5, none⟩ = some (.string z) ∧ W'.cell? ⟨rb, off + j * 5 + 1, none⟩ = some (.string bl) ∧ W'.cell? ⟨rb, off + j * 5 + 2, none⟩ = some (.int .i64 sn) ∧ W'.cell? ⟨rb, off + j * 5 + 4, none⟩ = some (.slice A4 nt c4) ∧ W'.cell? ⟨gb, 0, none⟩ = some (.int .i64 d) ∧ W'.cell? ⟨gb, 1, none⟩ = some (.int .i64 sl) ∧ W'.cell? ⟨gb, 2, none⟩ = some (.int .i64 b) ∧ W'.cell? ⟨gb, 3, none⟩ = some (.int .i64 m)) (first | ((repeat (first | (with_reducible assumption) | (with_reducible refine Cn8.alloc ?_ _) | (with_reducible refine Cn8.drew ?_) | (with_reducible refine Cn8.set ?_ ?_ ?_ ?_ ?_ ?_ ?_ ?_ ?_ _) | omega)); done)) (first | (go_at_call 27; refine (hI.out _ (by repeat (first | (with_reducible assumption) | (with_reducible refine ext_alloc ?_ _) | (with_reducible refine ext_drew ?_)))).mono ?_; rintro e w2 ⟨rfl, hb2, hx2, ho2, hbw2⟩) | (go_at_call 28; refine (hT.out _ (by repeat (first | (with_reducible assumption) | (with_reducible refine ext_alloc ?_ _) | (with_reducible refine ext_drew ?_)))).mono ?_; rintro e w4 ⟨rfl, hb4, hx4, ho4, hbw4⟩) | (refine step_own (S := Cn8 rb (off + j * 5) (.string z) rb (off + j * 5 + 1) (.string bl) rb (off + j * 5 + 2) (.int .i64 sn) rb (off + j * 5 + 4) (.slice A4 nt c4) gb 0 (.int .i64 d) gb 1 (.int .i64 sl) gb 2 (.int .i64 b) gb 3 (.int .i64 m)) (K := kSlice kStr) (t := 44) (ts := [9]) (B0 := 0) (B := w1.heap.size) (v := u9) (l := lists) rfl (.tmp 35) (.tmp 62) rfl apd_lists (by decide) (by rfl) (by repeat (first | (with_reducible assumption) | (with_reducible refine Own.alloc ?_ _) | (with_reducible refine Own.drew ?_))) hl9 (by decide) _ _ (by rfl) [z, bl, dn, tf, tt] [.slice (some ⟨_, 0, none⟩) 5 5] (rep_lit_strs (cs := #[.string z, .string bl, .string dn, .string tf, .string tt]) (t := 9) [z, bl, dn, tf, tt] (by first | exact heap_alloc_new _ _ | exact block_after (heap_alloc_new _ _) | exact block_after (block_after (heap_alloc_new _ _))) rfl rfl (Below.size (w := w1) (by repeat (first | (with_reducible assumption) | (with_reducible refine ext_alloc ?_ _) | (with_reducible refine ext_drew ?_)))) (by decide)) (World.news_of_block (cs := #[.slice (some ⟨_, 0, none⟩) 5 5]) (t := 44) (fr := (0, 0)) (by first | exact heap_alloc_new _ _ | exact heap_new2 _ _ _)) (by decide) (Nat.zero_le _) (Below.size (w := w1) (by repeat (first | (with_reducible assumption) | (with_reducible refine ext_alloc ?_ _) | (with_reducible refine ext_drew ?_)))) (fun W' hg => Cn8.grown (by repeat (first | (with_reducible assumption) | (with_reducible refine Cn8.alloc ?_ _) | (with_reducible refine Cn8.drew ?_))) hg nx.out nx.out nx.out nx.out ng.out ng.out ng.out ng.out) ?_; intro gA capA w5 ho5 hg5 hs5))
        all_goals
          have hb5 : Below w1.heap.size w1 w5 := below_grown (by repeat (first | (with_reducible assumption) | (with_reducible refine ext_alloc ?_ _) | (with_reducible refine ext_drew ?_))) hg5 (fun y hy => (hu9.out y hy).1)
          clear hI hT hC hCd hrefl hg5 hs5
          go_wp2
          go_roundw
          case rel => exact ⟨j + 1, by omega, by go_num, by rw [hsn.out, hrow.out]; exact ho5, hb5⟩
          case measure => simp [intOf]; omega
      · obtain rfl : j = N := by omega
        have hall : Hid (l.take j = l) := hide (by rw [← hN.out]; exact List.take_length)
        rw [hall.out] at hown
        have hfin := hide (hown.lower hbw.size)
        have hbn := ext_trans hbw hb
        clear hall hown g0 g1 g2 g3
        go_wp2
        go_ret2
        exact ⟨u9, by rw [hv.out]; rfl, by rw [hr.out]; exact hfin.out, hbn⟩
  · have hr : Hid (rowsR d sl b m n l = []) := hide (if_neg hv)
    obtain ⟨V, hV⟩ : ∃ V, validR d sl b m n l = V := ⟨_, rfl⟩
    rw [hV] at hval hv
    have hv2 : ((V : Int) != 0) = true := by simp; omega
    have hvi : ¬ (V : Int) = 0 := by omega
    replace hV := hide hV
    obtain ⟨N, hN⟩ : ∃ N, l.length = N := ⟨_, rfl⟩
    rw [hN] at hval ⊢
    clear hv hN hL
    go_enter Tryz.func11, Tryz.ntmps11
    go_wp2_with fail
    refine hval.mono ?_
    rintro e w1 ⟨rfl, hb1⟩
    clear hval
    go_wp2
    go_ret2
    exact ⟨_, by rw [hV.out]; rfl, by rw [hr.out]; exact Own.nil, ext_trans hb0 hb1⟩
end Go.Proofs.YtnbcaklnpflihaaGreatDoor

namespace Go.Proofs.YtnbcaklnpflihaaGreatDoor
open Go.RowKit
set_option maxRecDepth 100000

theorem idx_memS {z : ByteArray} {xs : List ByteArray} : 0 ≤ idxS z xs ↔ z ∈ xs := by
  constructor
  · intro h
    apply Classical.byContradiction
    intro hz
    rw [idxS_none (fun y hy => by rw [toList_dataL, toList_dataL]; exact beq_false_of_ne fun e => hz (dat_inj e ▸ hy))] at h
    exact absurd h (by decide)
  · intro hz
    apply Classical.byContradiction
    intro h
    have hall : ∀ n, n ≤ xs.length → ∀ y ∈ xs.take n, (y.toList == z.toList) = false := by
      intro n
      induction n with
      | zero => intro _ y hy; simp at hy
      | succ n ih =>
        intro hn y hy
        have hx : xs[n]? = some xs[n] := List.getElem?_eq_getElem (by omega)
        cases hq : (xs[n].toList == z.toList) with
        | false => exact take_miss hx (ih (by omega)) hq y hy
        | true => rw [idxS_hit hx (ih (by omega)) hq] at h; exact absurd (by omega) h
    have := hall xs.length (Nat.le_refl _) z (by rw [List.take_length]; exact hz)
    simp at this
set_option maxHeartbeats 1000000 in
theorem rhas1_walk (q : Five) (t : ByteArray) (x : Nat) (w : World) (hc : w.cell? ⟨x, 0, none⟩ = some (.string t)) :
    Calls Tryz.prog 47 #[.agg #[.string q.z, .string q.bl, .int .i64 q.n, .slice q.A3 q.n3 q.c3, .slice q.A4 q.n4 q.c4], .pointer (some ⟨x, 0, none⟩)] w fun e w' => e = .returned (.bool (q.z.toList == t.toList)) ∧ Below w.heap.size w w' := by
  have hlt := World.block_lt_of_cell? _ _ hc
  go_enter Tryz.func47, Tryz.ntmps47
  go_wp2
  go_ret
  exact ⟨rfl, (by repeat (first | exact Below.refl _ _ | refine ext_alloc ?_ _ | refine ext_drewN ?_ _ | refine ext_drew ?_ | refine ext_trans ?_ (by assumption)))⟩
def IdxRm (l : List Room) (t : ByteArray) (w : World) (e : Ending) (w' : World) : Prop := ∃ r : Int, e = .returned (.int .i64 r) ∧ decide (0 ≤ r) = decide (0 ≤ idxS t (codesR l)) ∧ Below w.heap.size w w'
set_option maxHeartbeats 2000000 in
theorem idxRm_walk (A : Option Addr) (l : List Room) (c : Nat) (t : ByteArray) (x : Nat) (w : World) (hn : l.length ≤ 9223372036854775807) (hL : At kRoom AnyB w A l) (hc : w.cell? ⟨x, 0, none⟩ = some (.string t)) :
    Calls Tryz.prog 83 #[.slice A l.length c, .func (.func 47) #[] #[.pointer (some ⟨x, 0, none⟩)]] w fun e w' => IdxRm l t w e w' := by
  have eg : ∀ args w, (callFunc 47 args).run Tryz.prog w = .ok (.enter 47 args) w := enters_of Tryz.func47 (by kernel_rfl) rfl
  obtain ⟨n, hnn⟩ : ∃ n, l.length = n := ⟨_, rfl⟩
  rw [hnn] at hn ⊢
  replace hnn := hide hnn
  go_enter Tryz.func83, Tryz.ntmps83
  go_wp2
  go_loopw [5, 8] (fun _ i wr => ∃ j : Nat, j ≤ n ∧ i = .int .i64 j ∧ Hid (¬ t ∈ (codesR l).take j) ∧ Below w.heap.size w wr) (fun _ i _ => n - (intOf i).toNat)
  case atStart => exact ⟨0, Nat.zero_le _, rfl, hide (by simp), Below.refl _ _⟩
  case round =>
    obtain ⟨j, hj, rfl, ho, hb⟩ := hrel
    by_cases hlt : j < n
    · obtain ⟨y, hy⟩ : ∃ y, l[j]? = some y := ⟨_, List.getElem?_eq_getElem (by rw [hnn.out]; exact hlt)⟩
      have hsn := codesR_snoc hy
      obtain ⟨rb, off, A3, c3, A4, c4, rfl, -, hrb, ⟨q0, q1, q2, q3, q4⟩, -, -, -, -⟩ := (hL.later hb).room hy
      have hcall := rhas1_walk ⟨y.1, y.2.1, y.2.2.1, A3, y.2.2.2.1.length, c3, A4, y.2.2.2.2.length, c4⟩ t x wr (cell_later hb hc)
      obtain ⟨z, bl, sn, fs, ts⟩ := y
      dsimp only at q0 q1 q2 q3 q4 hsn hcall
      obtain ⟨nf, hnf⟩ : ∃ nf, fs.length = nf := ⟨_, rfl⟩
      obtain ⟨nt, hnt⟩ : ∃ nt, ts.length = nt := ⟨_, rfl⟩
      rw [hnf] at q3 hcall
      rw [hnt] at q4 hcall
      have hj0 : (0 : Int) ≤ (j : Int) := by omega
      have hj1 : (j : Int) < (n : Int) := by omega
      clear hy hnf hnt hc
      by_cases hzt : z.toList = t.toList
      · have hbe : (z.toList == t.toList) = true := by rw [hzt]; simp
        rw [hbe] at hcall
        have hmem : Hid (0 ≤ idxS t (codesR l)) := hide (idx_memS.2 (by
          have e : z = t := met_inj (by rw [← toList_dataL, ← toList_dataL]; exact hzt)
          have h1 : t ∈ (codesR l).take (j + 1) := by rw [hsn, e]; simp
          exact List.mem_of_mem_take h1))
        clear hzt hsn hbe
        go_wp2_with (go_at_fn 47; refine hcall.mono ?_; rintro e w' ⟨rfl, hb'⟩)
        go_ret
        exact ⟨j, rfl, by rw [decide_eq_true hmem.out]; simp, ext_trans hb hb'⟩
      · have hbe : (z.toList == t.toList) = false := by simp [hzt]
        rw [hbe] at hcall
        have hnm : Hid (¬ t ∈ (codesR l).take (j + 1)) := hide (by
          rw [hsn, List.mem_append]
          rintro (h | h)
          · exact ho.out h
          · simp at h; exact hzt (by rw [h]))
        clear hzt hsn hbe
        go_wp2_with (go_at_fn 47; refine hcall.mono ?_; rintro e w' ⟨rfl, hb'⟩)
        go_roundw
        case rel => exact ⟨j + 1, by omega, by go_num, hnm, ext_trans hb hb'⟩
        case measure => simp [intOf]; omega
    · obtain rfl : j = n := by omega
      have hno : Hid (¬ 0 ≤ idxS t (codesR l)) := hide (fun h => ho.out (by
        have e : (codesR l).take j = codesR l := List.take_of_length_le (by unfold codesR; rw [List.length_map, hnn.out]; exact Nat.le_refl _)
        rw [e]; exact idx_memS.1 h))
      go_wp2
      go_ret
      exact ⟨-1, rfl, by have := hno.out; simp; omega, hb⟩
set_option maxHeartbeats 2000000 in
theorem rhas_walk (A : Option Addr) (l : List Room) (c : Nat) (t : ByteArray) (x : Nat) (w : World) (hn : l.length ≤ 9223372036854775807) (hL : At kRoom AnyB w A l) (hc : w.cell? ⟨x, 0, none⟩ = some (.string t)) :
    Calls Tryz.prog 46 #[.slice A l.length c, .func (.func 47) #[] #[.pointer (some ⟨x, 0, none⟩)]] w fun e w' => e = .returned (.bool (decide (0 ≤ idxS t (codesR l)))) ∧ Below w.heap.size w w' := by
  have hcall := idxRm_walk A l c t x w hn hL hc
  obtain ⟨n, hnn⟩ : ∃ n, l.length = n := ⟨_, rfl⟩
  rw [hnn] at hcall ⊢
  clear hL hc hnn
  go_enter Tryz.func46, Tryz.ntmps46
  go_wp2_with fail
  refine hcall.mono ?_
  rintro e w' ⟨r, rfl, hr, hb⟩
  replace hr := hide hr
  go_wp2
  go_ret
  exact ⟨ret_bool hr.out, hb⟩
end Go.Proofs.YtnbcaklnpflihaaGreatDoor
