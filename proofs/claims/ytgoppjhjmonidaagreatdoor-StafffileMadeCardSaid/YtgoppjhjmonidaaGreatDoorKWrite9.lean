/- Walks of stafffile.Write and timetableref09.Write. Conditions: the lecturers' cells; what the program's variables hold. -/
import Derived.Test.YtgoppjhjmonidaaGreatDoorKWriteT
import Derived.Test.YtgoppjhjmonidaaGreatDoorKValC
namespace Go.Proofs.YtgoppjhjmonidaaGreatDoor
open Go.RowKit
set_option maxRecDepth 100000

/-- The records of lecturers. -/
def rowsOf (d sl b m n : Int) (ls : List Lect) : List (List ByteArray) := if validV d sl b m n ls = 0 then ls.map (rowOf d sl b m n) else []
def WriteGives (d sl b m n : Int) (ls : List Lect) (w : World) (e : Ending) (w' : World) : Prop :=
  ∃ v, e = .returned (.tuple #[v, .int .i64 (validV d sl b m n ls)]) ∧ Own (kSlice kStr) 27 [9] 0 w.heap.size w' v (rowsOf d sl b m n ls) ∧ Below w.heap.size w w'
set_option maxHeartbeats 8000000 in
theorem sfWrite_walk (A : Option Addr) (ls : List Lect) (cap : Nat) (d sl b m n : Int) (w : World) (hcap : ls.length ≤ cap) (hL : LectsAt w.heap.size w A ls) :
    Calls Tryz.prog 12 #[.slice A ls.length cap, .agg #[.int .i64 d, .int .i64 sl, .int .i64 b, .int .i64 m], .int .i64 n] w fun e w' => WriteGives d sl b m n ls w e w' := by
  have hb0 : Below w.heap.size w (w.alloc (.cells #[.int .i64 d, .int .i64 sl, .int .i64 b, .int .i64 m] 39)) := (by repeat (first | exact Below.refl _ _ | refine ext_alloc ?_ _ | refine ext_drewN ?_ _ | refine ext_drew ?_ | refine ext_trans ?_ (by assumption)))
  have bG := Box4.new w 39 (.int .i64 d) (.int .i64 sl) (.int .i64 b) (.int .i64 m)
  have hL0 := (hL.below hb0).more hb0.size
  have hval := sfValid_walk A ls cap d sl b m n _ hcap hL0
  clear hL0
  by_cases hv : validV d sl b m n ls = 0
  · obtain ⟨hwk, h32, hpart⟩ := valid_parts hv
    have hr : Hid (rowsOf d sl b m n ls = ls.map (rowOf d sl b m n)) := hide (if_pos hv)
    obtain ⟨N, hN⟩ : ∃ N, ls.length = N := ⟨_, rfl⟩
    rw [hv] at hval
    rw [hN] at hval h32 ⊢
    replace hN := hide hN
    replace hpart := hide hpart
    replace hv := hide hv
    obtain ⟨gb, hgb⟩ : ∃ gb, w.heap.size = gb := ⟨_, rfl⟩
    go_enter Tryz.func12, Tryz.ntmps12
    go_wp2_with fail
    refine hval.mono ?_
    rintro e w1 ⟨rfl, hb1⟩
    have hbw := ext_trans hb0 hb1
    have hL1 := (hL.below hbw).more hbw.size
    rw [hgb] at bG
    obtain ⟨g0, g1, g2, g3⟩ := bG.later hb1
    have hgl : gb < w1.heap.size := World.block_lt_of_cell? _ _ g0
    replace hgb := hide hgb
    clear hval hL hb0 hb1 bG
    go_wp2_with fail
    try rw [hgb.out]
    go_loopw [9, 21] (fun v i wr => ∃ j : Nat, j ≤ N ∧ i = .int .i64 j ∧ Own (kSlice kStr) 27 [9] 0 w1.heap.size wr v ((ls.take j).map (rowOf d sl b m n)) ∧ Below w1.heap.size w1 wr) (fun _ i _ => N - (intOf i).toNat)
    case atStart => exact ⟨0, Nat.zero_le _, rfl, Own.nil, Below.refl _ _⟩
    case round =>
      obtain ⟨j, hj, rfl, hown, hb⟩ := hrel
      by_cases hlt : j < N
      · obtain ⟨l, hl⟩ : ∃ l, ls[j]? = some l := ⟨_, List.getElem?_eq_getElem (by rw [hN.out]; exact hlt)⟩
        obtain ⟨-, hl24, -, -⟩ := hpart.out j l hl
        obtain ⟨rb, off, rfl, hrb, hcell⟩ := (hL1.below hb) (by rw [hN.out]; omega)
        obtain ⟨T, c, q0, q1, ht⟩ := hcell j l hl
        have hsn : Hid ((ls.take (j + 1)).map (rowOf d sl b m n) = (ls.take j).map (rowOf d sl b m n) ++ [rowOf d sl b m n l]) := by
          refine hide ?_
          rw [List.take_add_one, hl]; simp
        have hl9 : ((ls.take j).map (rowOf d sl b m n)).length ≤ 4000000000 := by rw [List.length_map, List.length_take]; omega
        obtain ⟨lists, hlists⟩ : ∃ lists, (ls.take j).map (rowOf d sl b m n) = lists := ⟨_, rfl⟩
        rw [hlists] at hown hsn hl9
        obtain ⟨code, ts⟩ := l
        dsimp only at q0 q1 ht hl24
        obtain ⟨txt, htxt⟩ : ∃ txt, (⟨(timesL d sl b m n ts).toArray⟩ : ByteArray) = txt := ⟨_, rfl⟩
        have hte : Hid (Ending.returned (.string (⟨(timesL d sl b m n ts).toArray⟩ : ByteArray)) = Ending.returned (.string txt)) := hide (by rw [htxt])
        have hrow : Hid (rowOf d sl b m n (code, ts) = [code, txt]) := by rw [← htxt]; exact hide rfl
        obtain ⟨k, hk⟩ : ∃ k, ts.length = k := ⟨_, rfl⟩
        have hz := hb.size
        have hrbr : rb < wr.heap.size := by omega
        have hgr : gb < wr.heap.size := by omega
        have hu9 : Hid (∀ y, u9.ownBlock = some y → w1.heap.size ≤ y ∧ y < wr.heap.size) := hide hown.lt
        have hcallT := hide (fun (V : World) (hV : Below wr.heap.size wr V) => ftimesW_walk T ts c d sl b m n V (by omega) ((ht.below (hV.mono hz)).more (Nat.le_trans hz hV.size)))
        have hxx : Below wr.heap.size wr (wr.alloc (.cells #[.string code, .slice T k c] 49)) := ext_alloc (Below.refl _ _) _
        have hC : Cn6 wr.heap.size 0 (.string code) wr.heap.size 1 (.slice T k c) gb 0 (.int .i64 d) gb 1 (.int .i64 sl) gb 2 (.int .i64 b) gb 3 (.int .i64 m) (wr.alloc (.cells #[.string code, .slice T k c] 49)) := ⟨by simp, by simp, cell_alloc_of (cell_later hb g0) _, cell_alloc_of (cell_later hb g1) _, cell_alloc_of (cell_later hb g2) _, cell_alloc_of (cell_later hb g3) _⟩
        have hownx := hown.alloc (.cells #[.string code, .slice T k c] 49)
        rw [hk] at q1
        have hj0 : (0 : Int) ≤ (j : Int) := by omega
        have hj1 : (j : Int) < (N : Int) := by omega
        clear hcell hl hlists hown
        go_wp2_with fail
        obtain ⟨Wx, hWx⟩ : ∃ Wx, wr.alloc (.cells #[.string code, .slice T k c] 49) = Wx := ⟨_, rfl⟩
        obtain ⟨xb, hxb⟩ : ∃ xb, wr.heap.size = xb := ⟨_, rfl⟩
        have hxl : xb < Wx.heap.size := by rw [← hWx, World.size_alloc]; omega
        have hgx : gb < Wx.heap.size := by rw [← hWx, World.size_alloc]; omega
        rw [hWx] at hC hownx hxx
        have hbx : Below w1.heap.size w1 Wx := ext_trans hb hxx
        have hcall := hide (fun (V : World) (hV : Below Wx.heap.size Wx V) => (hcallT.out V (ext_trans hxx hV)).mono fun _ _ ⟨he, hb⟩ => (⟨he.trans hte.out, ext_trans hV hb, hC.later (ext_trans hV hb), hownx.later (ext_trans hV hb), ext_trans hbx (ext_trans hV hb)⟩ : _ = Ending.returned (.string txt) ∧ Below Wx.heap.size Wx _ ∧ Cn6 wr.heap.size 0 (.string code) wr.heap.size 1 (.slice T k c) gb 0 (.int .i64 d) gb 1 (.int .i64 sl) gb 2 (.int .i64 b) gb 3 (.int .i64 m) _ ∧ Own (kSlice kStr) 27 [9] 0 w1.heap.size _ u9 lists ∧ Below w1.heap.size w1 _))
        rw [hxb] at hC hcall hu9
        rw [hWx, hxb]
        rw [hk] at hcall
        have nx : Hid (some xb ≠ u9.ownBlock) := hide fun e => by have := (hu9.out xb e.symm).2; omega
        have ng : Hid (some gb ≠ u9.ownBlock) := hide fun e => by have := (hu9.out gb e.symm).1; omega
        obtain ⟨q2, q3, q4, q5, q6, q7⟩ := id hC
        have hCd := hC.drew
        have hrefl := Below.refl Wx.heap.size Wx
        clear hcallT htxt hk hWx hxb hxx ht q0 q1
        go_region_held3 (fun W' => W'.cell? ⟨xb, 0, none⟩ = some (.string code) ∧ W'.cell? ⟨xb, 1, none⟩ = some (.slice T k c) ∧ W'.cell? ⟨gb, 0, none⟩ = some (.int .i64 d) ∧ W'.cell? ⟨gb, 1, none⟩ = some (.int .i64 sl) ∧ W'.cell? ⟨gb, 2, none⟩ = some (.int .i64 b) ∧ W'.cell? ⟨gb, 3, none⟩ = some (.int .i64 m)) (first | ((repeat (first | (with_reducible assumption) | (with_reducible refine Cn6.alloc ?_ _) | (with_reducible refine Cn6.drew ?_) | (with_reducible refine Cn6.set ?_ ?_ ?_ ?_ ?_ ?_ ?_ _) | omega)); done)) (first | (go_at_call 53; refine (hcall.out _ (by repeat (first | (with_reducible assumption) | (with_reducible refine ext_alloc ?_ _) | (with_reducible refine ext_drew ?_)))).mono ?_; rintro e w2 ⟨rfl, hb2, hx2, ho2, hbw2⟩) | (refine step_own (S := Cn6 xb 0 (.string code) xb 1 (.slice T k c) gb 0 (.int .i64 d) gb 1 (.int .i64 sl) gb 2 (.int .i64 b) gb 3 (.int .i64 m)) (K := kSlice kStr) (t := 27) (ts := [9]) (B0 := 0) (B := w1.heap.size) (v := u9) (l := lists) rfl (.tmp 25) (.tmp 34) rfl apd_lists (by decide) (by rfl) (by repeat (first | (with_reducible assumption) | (with_reducible refine Own.alloc ?_ _) | (with_reducible refine Own.drew ?_))) hl9 (by decide) _ _ (by rfl) [code, txt] [.slice (some ⟨_, 0, none⟩) 2 2] (rep_lit_strs (cs := #[.string code, .string txt]) (t := 9) [code, txt] (by first | exact heap_alloc_new _ _ | exact block_after (heap_alloc_new _ _) | exact block_after (block_after (heap_alloc_new _ _))) rfl rfl (Below.size (w := w1) (by repeat (first | (with_reducible assumption) | (with_reducible refine ext_alloc ?_ _) | (with_reducible refine ext_drew ?_)))) (by decide)) (World.news_of_block (cs := #[.slice (some ⟨_, 0, none⟩) 2 2]) (t := 27) (fr := (0, 0)) (by first | exact heap_alloc_new _ _ | exact heap_new2 _ _ _)) (by decide) (Nat.zero_le _) (Below.size (w := w1) (by repeat (first | (with_reducible assumption) | (with_reducible refine ext_alloc ?_ _) | (with_reducible refine ext_drew ?_)))) (fun W' hg => Cn6.grown (by repeat (first | (with_reducible assumption) | (with_reducible refine Cn6.alloc ?_ _) | (with_reducible refine Cn6.drew ?_))) hg nx.out nx.out ng.out ng.out ng.out ng.out) ?_; intro gA capA w5 ho5 hg5 hs5))
        all_goals
          have hb5 : Below w1.heap.size w1 w5 := below_grown (by repeat (first | (with_reducible assumption) | (with_reducible refine ext_alloc ?_ _) | (with_reducible refine ext_drew ?_))) hg5 (fun y hy => (hu9.out y hy).1)
          clear hcall hC hCd hrefl hg5 hs5
          go_wp2
          go_roundw
          case rel => exact ⟨j + 1, by omega, by go_num, by rw [hsn.out, hrow.out]; exact ho5, hb5⟩
          case measure => simp [intOf]; omega
      · obtain rfl : j = N := by omega
        have hall : Hid (ls.take j = ls) := hide (by rw [← hN.out]; exact List.take_length)
        rw [hall.out] at hown
        have hfin := hide (hown.lower hbw.size)
        have hbn := ext_trans hbw hb
        clear hall hown g0 g1 g2 g3
        go_wp2
        go_ret2
        exact ⟨u9, by rw [hv.out]; rfl, by rw [hr.out]; exact hfin.out, hbn⟩
  · have hv2 : (validV d sl b m n ls != 0) = true := by simpa using hv
    have hr : Hid (rowsOf d sl b m n ls = []) := hide (if_neg hv)
    obtain ⟨V, hV⟩ : ∃ V, validV d sl b m n ls = V := ⟨_, rfl⟩
    rw [hV] at hval hv2
    replace hv := hide hv
    go_enter Tryz.func12, Tryz.ntmps12
    go_wp2_with fail
    refine hval.mono ?_
    rintro e w1 ⟨rfl, hb1⟩
    clear hval
    go_wp2
    go_ret2
    exact ⟨_, by rw [hV]; rfl, by rw [hr.out]; exact Own.nil, ext_trans hb0 hb1⟩
set_option maxHeartbeats 8000000 in
theorem r9Write_walk (A : Option Addr) (ls : List Lect) (cap : Nat) (d sl b m n : Int) (w : World) (hS : Std w) (hW : Wds w) (hD : Dys w) (hL : LectsAt w.heap.size w A ls) :
    Calls Tryz.prog 13 #[.slice A ls.length cap, .agg #[.int .i64 d, .int .i64 sl, .int .i64 b, .int .i64 m], .int .i64 n] w fun e w' => WriteGives d sl b m n ls w e w' := by
  have hb0 : Below w.heap.size w (w.alloc (.cells #[.int .i64 d, .int .i64 sl, .int .i64 b, .int .i64 m] 39)) := (by repeat (first | exact Below.refl _ _ | refine ext_alloc ?_ _ | refine ext_drewN ?_ _ | refine ext_drew ?_ | refine ext_trans ?_ (by assumption)))
  have bG := Box4.new w 39 (.int .i64 d) (.int .i64 sl) (.int .i64 b) (.int .i64 m)
  have hL0 := (hL.below hb0).more hb0.size
  have hval := r9Valid_walk A ls cap d sl b m n _ hL0
  clear hL0
  by_cases hv : validV d sl b m n ls = 0
  · obtain ⟨hwk, h32, hpart⟩ := valid_parts hv
    have hr : Hid (rowsOf d sl b m n ls = ls.map (rowOf d sl b m n)) := hide (if_pos hv)
    obtain ⟨N, hN⟩ : ∃ N, ls.length = N := ⟨_, rfl⟩
    rw [hv] at hval
    rw [hN] at hval h32 ⊢
    replace hN := hide hN
    replace hpart := hide hpart
    replace hv := hide hv
    obtain ⟨gb, hgb⟩ : ∃ gb, w.heap.size = gb := ⟨_, rfl⟩
    go_enter Tryz.func13, Tryz.ntmps13
    go_wp2_with fail
    refine hval.mono ?_
    rintro e w1 ⟨rfl, hb1⟩
    have hbw := ext_trans hb0 hb1
    have hL1 := (hL.below hbw).more hbw.size
    rw [hgb] at bG
    obtain ⟨g0, g1, g2, g3⟩ := bG.later hb1
    have hgl : gb < w1.heap.size := World.block_lt_of_cell? _ _ g0
    replace hgb := hide hgb
    have hS1 := hS.after hbw
    have hW1 := hW.after hbw hS
    have hD1 := hD.after hbw hS
    clear hval hL hb0 hb1 bG hS hW hD
    go_wp2_with fail
    try rw [hgb.out]
    go_loopw [9, 10] (fun v i wr => ∃ j : Nat, j ≤ N ∧ i = .int .i64 j ∧ Own (kSlice kStr) 27 [9] 0 w1.heap.size wr v ((ls.take j).map (rowOf d sl b m n)) ∧ Below w1.heap.size w1 wr) (fun _ i _ => N - (intOf i).toNat)
    case atStart => exact ⟨0, Nat.zero_le _, rfl, Own.nil, Below.refl _ _⟩
    case round =>
      obtain ⟨j, hj, rfl, hown, hb⟩ := hrel
      by_cases hlt : j < N
      · obtain ⟨l, hl⟩ : ∃ l, ls[j]? = some l := ⟨_, List.getElem?_eq_getElem (by rw [hN.out]; exact hlt)⟩
        obtain ⟨-, hl24, -, -⟩ := hpart.out j l hl
        obtain ⟨rb, off, rfl, hrb, hcell⟩ := (hL1.below hb) (by rw [hN.out]; omega)
        obtain ⟨T, c, q0, q1, ht⟩ := hcell j l hl
        have hsn : Hid ((ls.take (j + 1)).map (rowOf d sl b m n) = (ls.take j).map (rowOf d sl b m n) ++ [rowOf d sl b m n l]) := by
          refine hide ?_
          rw [List.take_add_one, hl]; simp
        have hl9 : ((ls.take j).map (rowOf d sl b m n)).length ≤ 4000000000 := by rw [List.length_map, List.length_take]; omega
        obtain ⟨lists, hlists⟩ : ∃ lists, (ls.take j).map (rowOf d sl b m n) = lists := ⟨_, rfl⟩
        rw [hlists] at hown hsn hl9
        obtain ⟨code, ts⟩ := l
        dsimp only at q0 q1 ht hl24
        obtain ⟨txt, htxt⟩ : ∃ txt, (⟨(timesL d sl b m n ts).toArray⟩ : ByteArray) = txt := ⟨_, rfl⟩
        have hte : Hid (Ending.returned (.string (⟨(timesL d sl b m n ts).toArray⟩ : ByteArray)) = Ending.returned (.string txt)) := hide (by rw [htxt])
        have hrow : Hid (rowOf d sl b m n (code, ts) = [code, txt]) := by rw [← htxt]; exact hide rfl
        obtain ⟨k, hk⟩ : ∃ k, ts.length = k := ⟨_, rfl⟩
        have hz := hb.size
        have hrbr : rb < wr.heap.size := by omega
        have hgr : gb < wr.heap.size := by omega
        have hu9 : Hid (∀ y, u9.ownBlock = some y → w1.heap.size ≤ y ∧ y < wr.heap.size) := hide hown.lt
        have hcallT := hide (fun (V : World) (hV : Below wr.heap.size wr V) => r7WriteT_walk T ts c d sl b m n V ((hS1.after hb).after hV) ((hW1.after hb hS1).after hV (hS1.after hb)) ((hD1.after hb hS1).after hV (hS1.after hb)) (by omega) ((ht.below (hV.mono hz)).more (Nat.le_trans hz hV.size)))
        rw [hk] at q1
        have hC : Cn6 rb (off + j * 2) (.string code) rb (off + j * 2 + 1) (.slice T k c) gb 0 (.int .i64 d) gb 1 (.int .i64 sl) gb 2 (.int .i64 b) gb 3 (.int .i64 m) wr := ⟨q0, q1, cell_later hb g0, cell_later hb g1, cell_later hb g2, cell_later hb g3⟩
        have hcall := hide (fun (V : World) (hV : Below wr.heap.size wr V) => (hcallT.out V hV).mono fun _ _ ⟨he, hb2⟩ => (⟨he.trans hte.out, ext_trans hV hb2, hC.later (ext_trans hV hb2), hown.later (ext_trans hV hb2), ext_trans hb (ext_trans hV hb2)⟩ : _ = Ending.returned (.string txt) ∧ Below wr.heap.size wr _ ∧ Cn6 rb (off + j * 2) (.string code) rb (off + j * 2 + 1) (.slice T k c) gb 0 (.int .i64 d) gb 1 (.int .i64 sl) gb 2 (.int .i64 b) gb 3 (.int .i64 m) _ ∧ Own (kSlice kStr) 27 [9] 0 w1.heap.size _ u9 lists ∧ Below w1.heap.size w1 _))
        rw [hk] at hcall
        have hj0 : (0 : Int) ≤ (j : Int) := by omega
        have hj1 : (j : Int) < (N : Int) := by omega
        have nr : Hid (some rb ≠ u9.ownBlock) := hide fun e => by have := (hu9.out rb e.symm).1; omega
        have ng : Hid (some gb ≠ u9.ownBlock) := hide fun e => by have := (hu9.out gb e.symm).1; omega
        obtain ⟨q2, q3, q4, q5, q6, q7⟩ := id hC
        have hCd := hC.drew
        have hrefl := Below.refl wr.heap.size wr
        clear hcell hl hlists hcallT htxt hk ht q0 q1 hS1 hW1 hD1
        go_wp2_with fail
        go_region_held3 (fun W' => W'.cell? ⟨rb, off + j * 2, none⟩ = some (.string code) ∧ W'.cell? ⟨rb, off + j * 2 + 1, none⟩ = some (.slice T k c) ∧ W'.cell? ⟨gb, 0, none⟩ = some (.int .i64 d) ∧ W'.cell? ⟨gb, 1, none⟩ = some (.int .i64 sl) ∧ W'.cell? ⟨gb, 2, none⟩ = some (.int .i64 b) ∧ W'.cell? ⟨gb, 3, none⟩ = some (.int .i64 m)) (first | ((repeat (first | (with_reducible assumption) | (with_reducible refine Cn6.alloc ?_ _) | (with_reducible refine Cn6.drew ?_) | (with_reducible refine Cn6.set ?_ ?_ ?_ ?_ ?_ ?_ ?_ _) | omega)); done)) (first | (go_at_call 54; refine (hcall.out _ (by repeat (first | (with_reducible assumption) | (with_reducible refine ext_alloc ?_ _) | (with_reducible refine ext_drew ?_)))).mono ?_; rintro e w2 ⟨rfl, hb2, hx2, ho2, hbw2⟩) | (refine step_own (S := Cn6 rb (off + j * 2) (.string code) rb (off + j * 2 + 1) (.slice T k c) gb 0 (.int .i64 d) gb 1 (.int .i64 sl) gb 2 (.int .i64 b) gb 3 (.int .i64 m)) (K := kSlice kStr) (t := 27) (ts := [9]) (B0 := 0) (B := w1.heap.size) (v := u9) (l := lists) rfl (.tmp 24) (.tmp 39) rfl apd_lists (by decide) (by rfl) (by repeat (first | (with_reducible assumption) | (with_reducible refine Own.alloc ?_ _) | (with_reducible refine Own.drew ?_))) hl9 (by decide) _ _ (by rfl) [code, txt] [.slice (some ⟨_, 0, none⟩) 2 2] (rep_lit_strs (cs := #[.string code, .string txt]) (t := 9) [code, txt] (by first | exact heap_alloc_new _ _ | exact block_after (heap_alloc_new _ _) | exact block_after (block_after (heap_alloc_new _ _))) rfl rfl (Below.size (w := w1) (by repeat (first | (with_reducible assumption) | (with_reducible refine ext_alloc ?_ _) | (with_reducible refine ext_drew ?_)))) (by decide)) (World.news_of_block (cs := #[.slice (some ⟨_, 0, none⟩) 2 2]) (t := 27) (fr := (0, 0)) (by first | exact heap_alloc_new _ _ | exact heap_new2 _ _ _)) (by decide) (Nat.zero_le _) (Below.size (w := w1) (by repeat (first | (with_reducible assumption) | (with_reducible refine ext_alloc ?_ _) | (with_reducible refine ext_drew ?_)))) (fun W' hg => Cn6.grown (by repeat (first | (with_reducible assumption) | (with_reducible refine Cn6.alloc ?_ _) | (with_reducible refine Cn6.drew ?_))) hg nr.out nr.out ng.out ng.out ng.out ng.out) ?_; intro gA capA w5 ho5 hg5 hs5))
        all_goals
          have hb5 : Below w1.heap.size w1 w5 := below_grown (by repeat (first | (with_reducible assumption) | (with_reducible refine ext_alloc ?_ _) | (with_reducible refine ext_drew ?_))) hg5 (fun y hy => (hu9.out y hy).1)
          clear hcall hC hCd hrefl hg5 hs5
          go_wp2
          go_roundw
          case rel => exact ⟨j + 1, by omega, by go_num, by rw [hsn.out, hrow.out]; exact ho5, hb5⟩
          case measure => simp [intOf]; omega
      · obtain rfl : j = N := by omega
        have hall : Hid (ls.take j = ls) := hide (by rw [← hN.out]; exact List.take_length)
        rw [hall.out] at hown
        have hfin := hide (hown.lower hbw.size)
        have hbn := ext_trans hbw hb
        clear hall hown g0 g1 g2 g3
        go_wp2
        go_ret2
        exact ⟨u9, by rw [hv.out]; rfl, by rw [hr.out]; exact hfin.out, hbn⟩
  · have hv2 : (validV d sl b m n ls != 0) = true := by simpa using hv
    have hr : Hid (rowsOf d sl b m n ls = []) := hide (if_neg hv)
    obtain ⟨V, hV⟩ : ∃ V, validV d sl b m n ls = V := ⟨_, rfl⟩
    rw [hV] at hval hv2
    replace hv := hide hv
    go_enter Tryz.func13, Tryz.ntmps13
    go_wp2_with fail
    refine hval.mono ?_
    rintro e w1 ⟨rfl, hb1⟩
    clear hval
    go_wp2
    go_ret2
    exact ⟨_, by rw [hV]; rfl, by rw [hr.out]; exact Own.nil, ext_trans hb0 hb1⟩
end Go.Proofs.YtgoppjhjmonidaaGreatDoor
