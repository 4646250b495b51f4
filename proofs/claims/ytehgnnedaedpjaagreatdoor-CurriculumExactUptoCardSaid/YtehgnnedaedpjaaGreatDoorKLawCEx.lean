/- The statement CurriculumExact: its walk. Conditions: what is read is bounded; what the program's variables hold. -/
import Derived.Test.YtehgnnedaedpjaaGreatDoorKAwake11
import Derived.Test.YtehgnnedaedpjaaGreatDoorKCWriteR
import Derived.Test.YtehgnnedaedpjaaGreatDoorKValC
namespace Go.Proofs.YtehgnnedaedpjaaGreatDoor
open Go.RowKit
set_option maxRecDepth 100000

theorem recs_len11 {B : Nat} {w : World} {A : Option Addr} {rs : List Rec} (h : RecsAt B w A rs) (j : Nat) (hj : j < rs.length) :
    ∃ b off F c, A = some ⟨b, off, none⟩ ∧ b < B ∧ w.cell? ⟨b, off + j * 2, none⟩ = some (.int .i64 (rs.getD j (0, [])).1) ∧ w.cell? ⟨b, off + j * 2 + 1, none⟩ = some (.slice F (rs.getD j (0, [])).2.length c) := by
  obtain ⟨b, off, e, hb, hc⟩ := h (by omega)
  obtain ⟨F, c, c0, c1, -⟩ := hc j (rs.getD j (0, [])) (by rw [List.getD_eq_getElem?_getD, List.getElem?_eq_getElem hj]; rfl)
  exact ⟨b, off, F, c, e, hb, c0, c1⟩
section
variable {α : Type} {n : Nat} {P : Int → List Fld → List α → Option Prob} {f : List Fld → α}
theorem readAll_all {Pr : α → Prop} (hP : ∀ line fs ls, P line fs ls = none → Pr (f fs)) (rs : List Rec) : ∀ x ∈ (readAll n P f rs).ls, Pr x := by
  have key : ∀ (rs : List Rec) (s : RG α), (∀ x ∈ s.ls, Pr x) → ∀ x ∈ (rs.foldl (gathStep n P f) s).ls, Pr x := by
    intro rs
    induction rs with
    | nil => intro s h; exact h
    | cons r rs ih =>
      intro s h
      refine ih _ ?_
      unfold gathStep
      split
      · split
        · exact h
        · rename_i hp
          intro x hx
          rcases List.mem_append.1 hx with hx | hx
          · exact h x hx
          · simp at hx; subst hx; exact hP _ _ _ hp
      · exact h
  exact key rs ⟨[], [], []⟩ (fun x hx => by simp at hx)
end
theorem readCurr_short (rs : List Rec) : ∀ x ∈ (readCurr rs).ls, x.2.length ≤ 8 := readAll_all (Pr := fun x : Curr => x.2.length ≤ 8) (fun line fs ls h => by
  unfold currP at h
  split at h
  · have h1 := (noted_none (noted_none (noted_none h).1).1).1
    unfold codesP at h1
    have := of_decide_eq_false (noted_none h1).2
    show (listV (textAt fs 1)).2.length ≤ 8
    omega
  · cases h) rs
def PairSt (wr : World) (b o1 j k c1 : Nat) (F : Option Addr) (code : ByteArray) (P : List (Int × Int)) (n : Nat) (e : Ending) (V : World) : Prop :=
  ∃ A' c', e = .returned (.slice A' n c') ∧ Cn2 b ((o1 + j * 2)) (.string code) b ((o1 + j * 2 + 1)) (.slice F k c1) V ∧ Below wr.heap.size wr V ∧ At kStart AnyB V A' P
def PairSt2 (wr : World) (b o1 j k c1 : Nat) (F : Option Addr) (code : ByteArray) (P : List (Int × Int)) (n : Nat) (A1 : Option Addr) (e : Ending) (V : World) : Prop :=
  ∃ A' c', e = .returned (.slice A' n c') ∧ Cn2 b ((o1 + j * 2)) (.string code) b ((o1 + j * 2 + 1)) (.slice F k c1) V ∧ Below wr.heap.size wr V ∧ At kStart AnyB V A' P ∧ At kStart AnyB V A1 P
theorem At.drewK {α : Type} {K : Kind α} {S : Nat → Prop} {w : World} {A : Option Addr} {l : List α} (h : At K S w A l) : At K S w.drew A l := h.later (ext_drew (Below.refl _ _))
set_option maxHeartbeats 8000000 in
theorem exact11_walk (A : Option Addr) (l : List Curr) (c : Nat) (R : Option Addr) (rs : List Rec) (cap : Nat) (Q : Option Addr) (cls : List Cls) (cq : Nat) (w : World) (hS : Std w) (hn : l.length ≤ 9223372036854775807) (hlc : l.length ≤ c) (hm : ∀ x ∈ l, x.2.length ≤ 9223372036854775807) (h : At kCurr AnyB w A l)
    (hR : RecsAt w.heap.size w R rs) (hN : rs.length ≤ 1048576) (hs : ∀ r ∈ rs, ∀ f ∈ r.2, f.1.size < 1073741824) (hQ : At kCls AnyB w Q cls) (hql : cls.length ≤ 9223372036854775807) :
    Calls Tryz.prog 4 #[.slice A l.length c, .slice R rs.length cap, .slice Q cls.length cq] w fun e w' => e = .returned (.bool true) ∧ Below w.heap.size w w' := by
  have hwr := cwrite_walk A l c w hS hn hlc hm h
  have hwr2 := hide (fun (V : World) (hV : Below w.heap.size w V) => r11write_walk A l c V hn hm (h.later hV))
  have hrd := hide (fun (V : World) (hV : Below w.heap.size w V) => cRead_walk R rs cap V (hS.after hV) ((hR.below hV).more hV.size) (by omega) hs)
  have hrd2 := hide (fun (V : World) (hV : Below w.heap.size w V) => r11Read_walk R rs cap V (hS.after hV) ((hR.below hV).more hV.size) (by omega) hs)
  have hv1 := hide (fun (V : World) (hV : Below w.heap.size w V) => cval_walk A l c V hn hlc hm (h.later hV))
  have hv2 := hide (fun (V : World) (hV : Below w.heap.size w V) => r11valid_walk A l c V hn hm (h.later hV))
  have hpr := hide (fun (j : Nat) (x : Curr) (hx : l[j]? = some x) (hq : cls.length ≤ 40) (F : Option Addr) (dc : Nat) (V : World) (hV : Below w.heap.size w V) (hF : At kStr AnyB V F x.2) => (⟨pairs_walk x.1 F x.2 dc Q cls cq V (by omega) (hm x (List.mem_of_getElem? hx)) hF (hQ.later hV), r11pairs_walk x.1 F x.2 dc Q cls cq V (by omega) (hm x (List.mem_of_getElem? hx)) hF (hQ.later hV)⟩ : _ ∧ _))
  obtain ⟨N, hNN⟩ : ∃ N, rs.length = N := ⟨_, rfl⟩
  obtain ⟨L, hLL⟩ : ∃ L, l.length = L := ⟨_, rfl⟩
  obtain ⟨q, hqq⟩ : ∃ q, cls.length = q := ⟨_, rfl⟩
  obtain ⟨xs, hxs⟩ : ∃ xs, rowsC l = xs := ⟨_, rfl⟩
  have hxl : xs.length ≤ 9223372036854775807 ∧ ∀ x ∈ xs, x.length ≤ 9223372036854775807 := by
    rw [← hxs]
    unfold rowsC
    split
    · refine ⟨by rw [List.length_map]; exact hn, fun x hx => ?_⟩
      obtain ⟨y, -, rfl⟩ := List.mem_map.1 hx
      show 2 ≤ 9223372036854775807
      decide
    · exact ⟨by simp, fun x hx => by simp at hx⟩
  have hlsl : (readCurr rs).ls.length ≤ 16 := (readCurr_len rs).1
  have hsam := hide (fun (A1 A2 : Option Addr) (c1 c2 : Nat) (V : World) (h1 : At kCurr AnyB V A1 (readCurr rs).ls) (h2 : At kCurr AnyB V A2 (readCurr rs).ls) => r11Same_walk A1 A2 (readCurr rs).ls c1 c2 V (by omega) (fun x hx => by have := readCurr_short rs x hx; omega) h1 h2)
  rw [hLL] at hwr hwr2 hv1 hv2 hn hlc ⊢
  rw [hNN] at hrd hrd2 hN ⊢
  rw [hqq] at hpr hql ⊢
  replace hNN := hide hNN
  replace hLL := hide hLL
  replace hqq := hide hqq
  replace hm := hide hm
  replace hs := hide hs
  clear hQ
  go_enter Tryz.func4, Tryz.ntmps4
  go_wp2_with fail
  go_loopw [7] (fun i wr => ∃ j : Nat, j ≤ N ∧ i = .int .i64 j ∧ w = wr) (fun i _ => N - (intOf i).toNat)
  case atStart => exact ⟨0, Nat.zero_le _, rfl, rfl⟩
  case round =>
    obtain ⟨j, hj, rfl, rfl⟩ := hrel
    by_cases hlt : j < N
    · obtain ⟨rb, off, F, c, rfl, hrb, q0, q1⟩ := recs_len11 hR j (by rw [hNN.out]; exact hlt)
      obtain ⟨k, hk⟩ : ∃ k, (rs.getD j (0, [])).2.length = k := ⟨_, rfl⟩
      rw [hk] at q1
      have hj0 : (0 : Int) ≤ (j : Int) := by omega
      have hj1 : (j : Int) < (N : Int) := by omega
      have haw := awake11_walk _ hS
      clear hk hR hwr hwr2 hrd hrd2 hv1 hv2 hpr hsam h hm hs hlsl
      by_cases h20 : 20 < k
      · go_wp2_with fail
        refine haw.mono ?_
        rintro e w1 ⟨rfl, hb1⟩
        go_wp2
        go_ret
        exact ⟨rfl, hb1⟩
      · clear haw
        go_wp2
        go_roundw
        case rel => exact ⟨j + 1, by omega, by go_num, by first | rfl | trivial⟩
        case measure => simp [intOf]; omega
    · obtain rfl : j = N := by omega
      clear hR
      go_wp2_with fail
      refine hwr.mono ?_
      rintro e w1 ⟨va, rfl, hOa, hb1⟩
      clear hwr
      go_wp2_with fail
      refine (hwr2.out _ hb1).mono ?_
      rintro e w2 ⟨vb, rfl, hOb, hb2⟩
      replace hOa := hOa.later hb2
      replace hb1 := ext_trans hb1 hb2
      clear hwr2 hb2
      go_wp2_with fail
      refine (hrd.out _ hb1).mono ?_
      rintro e w3 ⟨vm, vp, rfl, hLm, hPm, hb3⟩
      replace hOa := hOa.later hb3
      replace hOb := hOb.later hb3
      replace hb1 := ext_trans hb1 hb3
      clear hrd hb3
      go_wp2_with fail
      refine (hrd2.out _ hb1).mono ?_
      rintro e w4 ⟨vn, vq, rfl, hLn, hPn, hb4⟩
      replace hOa := hOa.later hb4
      replace hOb := hOb.later hb4
      replace hLm := hLm.later hb4
      replace hPm := owns_later hPm hb4
      replace hb1 := ext_trans hb1 hb4
      clear hrd2 hb4
      obtain ⟨Aa, ca, rfl, -, hAa⟩ := hOa.any
      obtain ⟨Ab, cb, rfl, -, hAb⟩ := hOb.any
      obtain ⟨Am, cm, rfl, -, hAm⟩ := hLm.any
      obtain ⟨An, cn, rfl, -, hAn⟩ := hLn.any
      rw [hxs] at hAa hAb ⊢
      go_wp2_with fail
      generalize hcr : (readCurr rs).ls.length = nm at *
      replace hcr := hide hcr
      have hq0 : Hid (∀ k : Nat, k = k) := hide fun _ => rfl
      go_loopw [16] (fun i V => ∃ j : Nat, j ≤ L ∧ i = .int .i64 j ∧ Below w.heap.size w V ∧ At (kSlice kStr) AnyB V Aa xs ∧ At (kSlice kStr) AnyB V Ab xs ∧ At kCurr AnyB V Am (readCurr rs).ls ∧ At kCurr AnyB V An (readCurr rs).ls ∧ ProbsOwn w2.heap.size V vp (readCurr rs).ps ∧ ProbsOwn w3.heap.size V vq (readCurr rs).ps) (fun i _ => L - (intOf i).toNat)
      case atStart => exact ⟨0, Nat.zero_le _, rfl, hb1, hAa.any, hAb.any, hAm.any, hAn.any, hPm, hPn⟩
      case round =>
        clear hAa hAb hAm hAn hPm hPn hOa hOb hLm hLn hb1
        obtain ⟨j, hj, rfl, hb, hAa, hAb, hAm, hAn, hPm, hPn⟩ := hrel
        by_cases hlt : j < L
        · have hj0 : (0 : Int) ≤ (j : Int) := by omega
          have hj1 : (j : Int) < (L : Int) := by omega
          by_cases hq40 : q ≤ 40
          · have hqi : (q : Int) ≤ 40 := by omega
            obtain ⟨x, hx⟩ : ∃ x, l[j]? = some x := ⟨_, List.getElem?_eq_getElem (by rw [hLL.out]; exact hlt)⟩
            obtain ⟨b, o1, F, c1, rfl, -, hbl, a0, a1, -, hF⟩ := (h.later hb).curr hx
            have hc1 := hide (fun (V : World) (hV : Below wr.heap.size wr V) => hpr.out j x hx (hq40) F c1 V (ext_trans hb hV) (hF.later hV).any)
            obtain ⟨P, hP⟩ : ∃ P, pairsV x.2 cls = P := ⟨_, rfl⟩
            obtain ⟨k, hk⟩ : ∃ k, x.2.length = k := ⟨_, rfl⟩
            obtain ⟨np, hnp⟩ : ∃ np, P.length = np := ⟨_, rfl⟩
            obtain ⟨code, cs⟩ := x
            dsimp only at a0 a1 hc1 hP hk
            rw [hP, hk] at hc1
            rw [hk] at a1
            have hSL : Cn2 b ((o1 + j * 2)) (.string code) b ((o1 + j * 2 + 1)) (.slice F k c1) wr := ⟨a0, a1⟩
            have hp1 := hide (fun (V : World) (hV : Below wr.heap.size wr V) => (hc1.out V hV).1.mono fun e V' ⟨v, he, hO, hbv⟩ => (by
              obtain ⟨A', c', rfl, -, hAt⟩ := hO.any
              rw [hnp] at he
              exact ⟨A', c', he, hSL.later (ext_trans hV hbv), ext_trans hV hbv, hAt.any⟩ : PairSt wr b o1 j k c1 F code P np e V'))
            have hp2 := hide (fun (A1 : Option Addr) (V : World) (hA1 : At kStart AnyB V A1 P) (hV : Below wr.heap.size wr V) => (hc1.out V hV).2.mono fun e V' ⟨v, he, hO, hbv⟩ => (by
              obtain ⟨A', c', rfl, -, hAt⟩ := hO.any
              rw [hnp] at he
              exact ⟨A', c', he, hSL.later (ext_trans hV hbv), ext_trans hV hbv, hAt.any, hA1.later hbv⟩ : PairSt2 wr b o1 j k c1 F code P np A1 e V'))
            have hpl : Hid (P.length ≤ 9223372036854775807) := hide (by
              rw [← hP]
              unfold pairsV
              have h1 := pairsL_len ((List.range cls.length).filter (okC cs cls))
              have h2 : ((List.range cls.length).filter (okC cs cls)).length ≤ 40 := Nat.le_trans (List.length_filter_le (okC cs cls) (List.range cls.length)) (by rw [List.length_range, hqq.out]; exact hq40)
              have h3 : ((List.range cls.length).filter (okC cs cls)).length * ((List.range cls.length).filter (okC cs cls)).length ≤ 40 * 40 := Nat.mul_le_mul h2 h2
              omega)
            have hp3 := hide (fun (A1 A2 : Option Addr) (k1 k2 : Nat) (V : World) (h1 : At kStart AnyB V A1 P) (h2 : At kStart AnyB V A2 P) (hV : Below wr.heap.size wr V) => (by
              have := samepairs_walk A1 A2 P k1 k2 V hpl.out h1 h2
              rw [hnp] at this
              exact this.mono fun e V' ⟨he, hbv⟩ => ⟨he, ext_trans hV hbv, hSL.later (ext_trans hV hbv)⟩ : Calls Tryz.prog 27 #[.slice A1 np k1, .slice A2 np k2] V fun e V' => e = .returned (.bool true) ∧ Below wr.heap.size wr V' ∧ Cn2 b ((o1 + j * 2)) (.string code) b ((o1 + j * 2 + 1)) (.slice F k c1) V'))
            have hSd := hSL.drew
            have hrefl := Below.refl wr.heap.size wr
            have hkeep := hide (fun (V : World) (hV : Below wr.heap.size wr V) => (⟨hAa.later hV, hAb.later hV, hAm.later hV, hAn.later hV, owns_later hPm hV, owns_later hPn hV⟩ : _ ∧ _ ∧ _ ∧ _ ∧ _ ∧ _))
            clear hAa hAb hAm hAn hPm hPn hx hP hnp hk hc1 hF h hm hs hpr hxl hxs
            go_wp2_with fail
            go_region_held3 (fun W' => Cn2 b ((o1 + j * 2)) (.string code) b ((o1 + j * 2 + 1)) (.slice F k c1) W') (first | ((repeat (first | (with_reducible assumption) | (with_reducible refine Cn2.alloc ?_ _) | (with_reducible refine Cn2.drew ?_))); done)) (first | (go_at_call 20; (with_reducible refine (hp1.out _ (by repeat (first | (with_reducible assumption) | (with_reducible refine ext_alloc ?_ _) | (with_reducible refine ext_drew ?_)))).mono ?_); rintro e w5 ⟨A5, c5, rfl, hx5, hb5, hA5⟩) | (go_at_call 28; (with_reducible refine (hp2.out A5 _ ?_ ?_).mono ?_); (repeat (first | (with_reducible assumption) | (with_reducible refine At.drewK ?_) | (with_reducible refine ext_drew ?_))); rintro e w6 ⟨A6, c6, rfl, hx6, hb6, hA6, hA56⟩) | (go_at_call 27; (with_reducible refine (hp3.out A5 A6 c5 c6 _ ?_ ?_ ?_).mono ?_); (repeat (first | (with_reducible assumption) | (with_reducible refine At.drewK ?_) | (with_reducible refine ext_drew ?_))); rintro e w7 ⟨rfl, hb7, hx7⟩))
            all_goals
              clear hp1 hp2 hp3 hpl
              go_wp2
              go_roundw
              case rel =>
                first
                  | (obtain ⟨z1, z2, z3, z4, z5, z6⟩ := hkeep.out _ hb7
                     exact ⟨j + 1, by omega, by go_num, ext_trans hb hb7, z1, z2, z3, z4, z5, z6⟩)
                  | (obtain ⟨z1, z2, z3, z4, z5, z6⟩ := hkeep.out _ (ext_drew hb7)
                     exact ⟨j + 1, by omega, by go_num, ext_trans hb (ext_drew hb7), z1, z2, z3, z4, z5, z6⟩)
              case measure => simp [intOf]; omega
          · have hqi : ¬ (q : Int) ≤ 40 := by omega
            clear hj1
            (
            have hSv := hS.after hb
            have haw := awake11_walk wr hSv
            have hv1' := hide (fun (V : World) (hV : Below wr.heap.size wr V) => hv1.out V (ext_trans hb hV))
            have hv2' := hide (fun (V : World) (hV : Below wr.heap.size wr V) => hv2.out V (ext_trans hb hV))
            have hsl := hide (fun (V : World) (hV : Below wr.heap.size wr V) => r2SameL_walk Aa Ab xs ca cb V hxl.1 hxl.2 (hAa.later hV) (hAb.later hV))
            have hsc := hide (fun (V : World) (hV : Below wr.heap.size wr V) => hsam.out Am An cm cn V (hAm.later hV) (hAn.later hV))
            have hsp := hide (fun (V : World) (hV : Below wr.heap.size wr V) => probs_same _ _ vp vq _ V (owns_later hPm hV) (owns_later hPn hV))
            clear hAa hAb hAm hAn hPm hPn h hm hs hpr hsam hv1 hv2 hxs hSv
            go_wp2_with fail
            refine haw.mono ?_
            rintro e w5 ⟨rfl, hb5⟩
            clear haw
            go_wp2_with fail
            refine (hv1'.out _ hb5).mono ?_
            rintro e w6 ⟨rfl, hb6⟩
            replace hb5 := ext_trans hb5 hb6
            clear hb6
            go_wp2_with fail
            refine (hv2'.out _ hb5).mono ?_
            rintro e w7 ⟨rfl, hb7⟩
            replace hb5 := ext_trans hb5 hb7
            clear hb7
            go_wp2_with fail
            refine (hsl.out _ hb5).mono ?_
            rintro e w8 ⟨rfl, hb8⟩
            replace hb5 := ext_trans hb5 hb8
            clear hb8
            go_wp2_with fail
            refine (hsc.out _ hb5).mono ?_
            rintro e w9 ⟨rfl, hb9⟩
            replace hb5 := ext_trans hb5 hb9
            clear hb9
            go_wp2_with fail
            refine (hsp.out _ hb5).mono ?_
            rintro e w10 ⟨rfl, hb10⟩
            replace hb5 := ext_trans hb5 hb10
            go_wp2
            go_ret
            exact ⟨rfl, ext_trans hb hb5⟩)
        · obtain rfl : j = L := by omega
          (
            have hSv := hS.after hb
            have haw := awake11_walk wr hSv
            have hv1' := hide (fun (V : World) (hV : Below wr.heap.size wr V) => hv1.out V (ext_trans hb hV))
            have hv2' := hide (fun (V : World) (hV : Below wr.heap.size wr V) => hv2.out V (ext_trans hb hV))
            have hsl := hide (fun (V : World) (hV : Below wr.heap.size wr V) => r2SameL_walk Aa Ab xs ca cb V hxl.1 hxl.2 (hAa.later hV) (hAb.later hV))
            have hsc := hide (fun (V : World) (hV : Below wr.heap.size wr V) => hsam.out Am An cm cn V (hAm.later hV) (hAn.later hV))
            have hsp := hide (fun (V : World) (hV : Below wr.heap.size wr V) => probs_same _ _ vp vq _ V (owns_later hPm hV) (owns_later hPn hV))
            clear hAa hAb hAm hAn hPm hPn h hm hs hpr hsam hv1 hv2 hxs hSv
            go_wp2_with fail
            refine haw.mono ?_
            rintro e w5 ⟨rfl, hb5⟩
            clear haw
            go_wp2_with fail
            refine (hv1'.out _ hb5).mono ?_
            rintro e w6 ⟨rfl, hb6⟩
            replace hb5 := ext_trans hb5 hb6
            clear hb6
            go_wp2_with fail
            refine (hv2'.out _ hb5).mono ?_
            rintro e w7 ⟨rfl, hb7⟩
            replace hb5 := ext_trans hb5 hb7
            clear hb7
            go_wp2_with fail
            refine (hsl.out _ hb5).mono ?_
            rintro e w8 ⟨rfl, hb8⟩
            replace hb5 := ext_trans hb5 hb8
            clear hb8
            go_wp2_with fail
            refine (hsc.out _ hb5).mono ?_
            rintro e w9 ⟨rfl, hb9⟩
            replace hb5 := ext_trans hb5 hb9
            clear hb9
            go_wp2_with fail
            refine (hsp.out _ hb5).mono ?_
            rintro e w10 ⟨rfl, hb10⟩
            replace hb5 := ext_trans hb5 hb10
            go_wp2
            go_ret
            exact ⟨rfl, ext_trans hb hb5⟩)
end Go.Proofs.YtehgnnedaedpjaaGreatDoor
