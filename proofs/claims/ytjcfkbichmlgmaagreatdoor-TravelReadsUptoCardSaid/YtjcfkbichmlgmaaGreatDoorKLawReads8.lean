/- The statement TravelReads: its walk. Condition: what is read is bounded. -/
import Derived.Test.YtjcfkbichmlgmaaGreatDoorKAwake8
import Derived.Test.YtjcfkbichmlgmaaGreatDoorKR8R
import Derived.Test.YtjcfkbichmlgmaaGreatDoorKSameT
import Derived.Test.YtjcfkbichmlgmaaGreatDoorKValC
import Derived.Test.YtjcfkbichmlgmaaGreatDoorKRecArg
namespace Go.Proofs.YtjcfkbichmlgmaaGreatDoor
open Go.RowKit
set_option maxRecDepth 100000

theorem recs_len8 {B : Nat} {w : World} {A : Option Addr} {rs : List Rec} (h : RecsAt B w A rs) (j : Nat) (hj : j < rs.length) :
    ∃ b off F c, A = some ⟨b, off, none⟩ ∧ b < B ∧ w.cell? ⟨b, off + j * 2, none⟩ = some (.int .i64 (rs.getD j (0, [])).1) ∧ w.cell? ⟨b, off + j * 2 + 1, none⟩ = some (.slice F (rs.getD j (0, [])).2.length c) := by
  obtain ⟨b, off, e, hb, hc⟩ := h (by omega)
  obtain ⟨F, c, c0, c1, -⟩ := hc j (rs.getD j (0, [])) (by rw [List.getD_eq_getElem?_getD, List.getElem?_eq_getElem hj]; rfl)
  exact ⟨b, off, F, c, e, hb, c0, c1⟩
/-- A table that was read, as data. -/
theorem trav_data {nm : List ByteArray} {m : List (List Int)} {B : Nat} {w : World} {A : Option Addr} {c : Nat} {v : Value} {hs : List Nat} (hN : Own kStr 9 [] 0 B w (.slice A nm.length c) nm) (hM : Mat nm.length B w v hs m) :
    At kStr AnyB w A nm ∧ nm.length ≤ 9223372036854775807 ∧ ∃ A' c', v = .slice A' m.length c' ∧ At (kSlice kInt) AnyB w A' m ∧ m.length ≤ 9223372036854775807 ∧ ∀ x ∈ m, x.length ≤ 9223372036854775807 := by
  obtain ⟨A', c', hv, -, hA⟩ := hM.any
  have hl := hN.le
  refine ⟨hN.any'.any, hl, A', c', hv, hA, by have := hM.own.le; rw [hM.len] at this; exact this, fun x hx => ?_⟩
  obtain ⟨j, hj⟩ := List.getElem?_of_mem hx
  obtain ⟨h, -, hr⟩ := hM.at_ hj
  have h1 := row_len hr
  omega
set_option maxHeartbeats 8000000 in
theorem reads8_walk (A : Option Addr) (rs : List Rec) (cap : Nat) (w : World) (hR : RecsAt w.heap.size w A rs) (hN : rs.length ≤ 1048576) (hs : ∀ r ∈ rs, ∀ f ∈ r.2, f.1.size < 1073741824) :
    Calls Tryz.prog 3 #[.slice A rs.length cap] w fun e w' => e = .returned (.bool true) ∧ Below w.heap.size w w' := by
  obtain ⟨N, hNN⟩ : ∃ N, rs.length = N := ⟨_, rfl⟩
  have hread := fun (V : World) (hV : Below w.heap.size w V) => tread_walk A rs cap V ((hR.below hV).more hV.size) (by omega) hs
  have hread2 := fun (V : World) (hV : Below w.heap.size w V) => r8read_walk A rs cap V ((hR.below hV).more hV.size) (by omega)
  unfold TravGives at hread hread2
  rw [hNN] at hread hread2 hN ⊢
  obtain ⟨nm, hnm⟩ : ∃ nm, bldV (readWays rs).ls = nm := ⟨_, rfl⟩
  obtain ⟨m, hm⟩ : ∃ m, tabM nm (readWays rs).ls = m := ⟨_, rfl⟩
  obtain ⟨ps, hps⟩ : ∃ ps, (readWays rs).ps = ps := ⟨_, rfl⟩
  rw [hnm, hm, hps] at hread hread2
  replace hNN := hide hNN
  replace hread := hide hread
  replace hread2 := hide hread2
  clear hs hnm hm hps
  have hrefl := Below.refl w.heap.size w
  go_enter Tryz.func3, Tryz.ntmps3
  go_wp2_with fail
  go_loopw [3] (fun i wr => ∃ j : Nat, j ≤ N ∧ i = .int .i64 j ∧ wr = w) (fun i _ => N - (intOf i).toNat)
  case atStart => exact ⟨0, Nat.zero_le _, rfl, rfl⟩
  case round =>
    obtain ⟨j, hj, rfl, rfl⟩ := hrel
    by_cases hlt : j < N
    · obtain ⟨rb, off, F, c, rfl, hrb, q0, q1⟩ := recs_len8 hR j (by rw [hNN.out]; exact hlt)
      obtain ⟨k, hk⟩ : ∃ k, (rs.getD j (0, [])).2.length = k := ⟨_, rfl⟩
      rw [hk] at q1
      have hj0 : (0 : Int) ≤ (j : Int) := by omega
      have hj1 : (j : Int) < (N : Int) := by omega
      clear hk hR hread hread2
      by_cases h20 : 20 < k
      · go_wp2_with fail
        refine (awake08_walk _).mono ?_
        rintro e w1 ⟨rfl, hb1⟩
        go_wp2
        go_ret
        exact ⟨rfl, hb1⟩
      · go_wp2
        go_roundw
        case rel => exact ⟨j + 1, by omega, by go_num, by first | rfl | trivial⟩
        case measure => simp [intOf]; omega
    · obtain rfl : j = N := by omega
      clear hR
      go_wp2_with fail
      refine (hread.out _ hrefl).mono ?_
      rintro e w1 ⟨A1, c1, v1, hs1, p1, rfl, hN1, hM1, hP1, hb1⟩
      obtain ⟨n1, hnl, B1, d1, rfl, m1, hml, hrl⟩ := trav_data hN1 hM1
      clear hN1 hM1 hread
      have hbx : TBox (w1.alloc (.cells #[.slice A1 nm.length c1, .slice B1 m.length d1] 30)) w1.heap.size (.slice A1 nm.length c1) (.slice B1 m.length d1) := heap_alloc_new _ _
      have hb3 : Below w1.heap.size w1 (w1.alloc (.cells #[.slice A1 nm.length c1, .slice B1 m.length d1] 30)) := ext_alloc (Below.refl _ _) _
      obtain ⟨w3, hw3⟩ : ∃ w3, w1.alloc (.cells #[.slice A1 nm.length c1, .slice B1 m.length d1] 30) = w3 := ⟨_, rfl⟩
      obtain ⟨g1, hg1⟩ : ∃ g, w1.heap.size = g := ⟨_, rfl⟩
      rw [hw3] at hbx hb3
      replace n1 := n1.later hb3
      replace m1 := m1.later hb3
      replace hP1 := owns_later hP1 hb3
      have hb0 := ext_trans hb1 hb3
      rw [hg1] at hbx
      replace hw3 := hide hw3
      replace hg1 := hide hg1
      clear hb3 hb1
      go_upto_region 7 with fail
      rw [hw3.out, hg1.out]
      clear hw3 hg1
      go_wp2_with fail
      refine (hread2.out _ hb0).mono ?_
      rintro e w4 ⟨A2, c2, v2, hs2, p2, rfl, hN2, hM2, hP2, hb4⟩
      obtain ⟨n2, -, B2, d2, rfl, m2, -, -⟩ := trav_data hN2 hM2
      replace n1 := n1.later hb4
      replace m1 := m1.later hb4
      replace hP1 := owns_later hP1 hb4
      replace hbx := tbox_later hbx hb4
      replace hb0 := ext_trans hb0 hb4
      clear hN2 hM2 hread2 hb4
      have hby : TBox (w4.alloc (.cells #[.slice A2 nm.length c2, .slice B2 m.length d2] 30)) w4.heap.size (.slice A2 nm.length c2) (.slice B2 m.length d2) := heap_alloc_new _ _
      have hb5 : Below w4.heap.size w4 (w4.alloc (.cells #[.slice A2 nm.length c2, .slice B2 m.length d2] 30)) := ext_alloc (Below.refl _ _) _
      obtain ⟨w5, hw5⟩ : ∃ w5, w4.alloc (.cells #[.slice A2 nm.length c2, .slice B2 m.length d2] 30) = w5 := ⟨_, rfl⟩
      obtain ⟨g2, hg2⟩ : ∃ g, w4.heap.size = g := ⟨_, rfl⟩
      rw [hw5] at hby hb5
      replace n1 := n1.later hb5
      replace m1 := m1.later hb5
      replace n2 := n2.later hb5
      replace m2 := m2.later hb5
      replace hP1 := owns_later hP1 hb5
      replace hP2 := owns_later hP2 hb5
      replace hbx := tbox_later hbx hb5
      replace hb0 := ext_trans hb0 hb5
      rw [hg2] at hby
      replace hw5 := hide hw5
      replace hg2 := hide hg2
      clear hb5
      go_upto_region 8 with fail
      rw [hw5.out, hg2.out]
      clear hw5 hg2
      go_wp2_with fail
      refine (awake08_walk w5).mono ?_
      rintro e w6 ⟨rfl, hb6⟩
      replace n1 := n1.later hb6
      replace m1 := m1.later hb6
      replace n2 := n2.later hb6
      replace m2 := m2.later hb6
      replace hP1 := owns_later hP1 hb6
      replace hP2 := owns_later hP2 hb6
      replace hbx := tbox_later hbx hb6
      replace hby := tbox_later hby hb6
      replace hb0 := ext_trans hb0 hb6
      obtain ⟨e0, e1, -, -⟩ := tbox_cells hbx
      obtain ⟨f0, f1, -, -⟩ := tbox_cells hby
      have hgl := blk_lt hbx
      have hgl2 := blk_lt hby
      have hsame := r8Same_walk A1 A2 B1 B2 nm m c1 c2 d1 d2 w6 hnl hml hrl n1 n2 m1 m2
      clear n1 n2 m1 m2 hb6 hbx hby
      go_wp2_with fail
      refine hsame.mono ?_
      clear hsame e0 e1 f0 f1
      rintro e w7 ⟨rfl, hb7⟩
      have hsp := probs_same _ _ p1 p2 _ w7 (owns_later hP1 hb7) (owns_later hP2 hb7)
      replace hb0 := ext_trans hb0 hb7
      clear hP1 hP2 hb7
      go_wp2_with fail
      refine hsp.mono ?_
      rintro e w8 ⟨rfl, hb8⟩
      clear hsp
      go_wp2
      go_ret
      exact ⟨rfl, ext_trans hb0 hb8⟩
end Go.Proofs.YtjcfkbichmlgmaaGreatDoor
