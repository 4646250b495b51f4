/- The statement RequestsExact: its walk. Conditions: what is read is bounded; what the program's variables hold. -/
import Derived.Test.YthejgholpkeldaaGreatDoorZQWriteR
import Derived.Test.YthejgholpkeldaaGreatDoorZQWantR
import Derived.Test.YthejgholpkeldaaGreatDoorZOneLen
namespace Go.Proofs.YthejgholpkeldaaGreatDoor
open Go.RowKit
set_option maxRecDepth 100000

theorem recs_len12 {B : Nat} {w : World} {A : Option Addr} {rs : List Rec} (h : RecsAt B w A rs) (j : Nat) (hj : j < rs.length) :
  ∃ b off F c, A = some ⟨b, off, none⟩ ∧ b < B ∧ w.cell? ⟨b, off + j * 2, none⟩ = some (.int .i64 (rs.getD j (0, [])).1) ∧ w.cell? ⟨b, off + j * 2 + 1, none⟩ = some (.slice F (rs.getD j (0, [])).2.length c) := by
 obtain ⟨b, off, e, hb, hc⟩ := h (by omega)
 obtain ⟨F, c, c0, c1, -⟩ := hc j (rs.getD j (0, [])) (by rw [List.getD_eq_getElem?_getD, List.getElem?_eq_getElem hj]; rfl)
 exact ⟨b, off, F, c, e, hb, c0, c1⟩
theorem readReq_ins (rs : List Rec) : ∀ x ∈ (readReq rs).ls, x.2.2.2.length ≤ 9223372036854775807 := by
 induction rs using snoc_ind with
 | h0 => intro x hx; simp [readReq, readAll] at hx
 | h1 rs r ih =>
  obtain ⟨line, fs⟩ := r
  have hst : readReq (rs ++ [(line, fs)]) = gathStep 4 reqP reqOf (readReq rs) (line, fs) := by simp [readReq, readAll, List.foldl_append]
  rw [hst]
  unfold gathStep
  dsimp only
  split
  ·split
   ·exact ih
   ·intro x hx
    rcases List.mem_append.1 hx with hx | hx
    ·exact ih x hx
    ·simp at hx
     subst hx
     show (listV (textAt fs 3)).2.length ≤ _
     have := listV_len64 (textAt fs 3)
     omega
  ·exact ih
set_option maxHeartbeats 8000000 in
theorem exact12_walk (A : Option Addr) (l : List Req) (c : Nat) (R : Option Addr) (rs : List Rec) (cap : Nat) (st : ByteArray) (w : World) (hS : Std w) (hlc : l.length ≤ c) (hn : l.length ≤ 1000000000) (hm : ∀ x ∈ l, x.1.size ≤ 9223372036854775807 ∧ x.2.2.2.length ≤ 1000000000) (h : At kReq AnyB w A l)
  (hR : RecsAt w.heap.size w R rs) (hN : rs.length ≤ 1048576) (hs : ∀ r ∈ rs, ∀ f ∈ r.2, f.1.size < 1073741824) :
  Calls Tryz.prog 16 #[.slice A l.length c, .slice R rs.length cap, .string st] w fun e w' => e = .returned (.bool true) ∧ Below w.heap.size w w' := by
 have hm2 : ReqShort l := fun x hx => ⟨(hm x hx).1, by have := (hm x hx).2; omega⟩
 have hwr := qWrite_walk A l c w hS hlc (by omega) hm2 h
 have hwr2 := hide (fun (V : World) (hV : Below w.heap.size w V) => r12write_walk A l c V (hS.after hV) (by omega) hm2 (h.later hV))
 have hrd := hide (fun (V : World) (hV : Below w.heap.size w V) => qRead_walk R rs cap V (hS.after hV) ((hR.below hV).more hV.size) (by omega) hs)
 have hrd2 := hide (fun (V : World) (hV : Below w.heap.size w V) => r12Read_walk R rs cap V (hS.after hV) ((hR.below hV).more hV.size) (by omega) hs)
 have hv1 := hide (fun (V : World) (hV : Below w.heap.size w V) => qval_walk A l c V hlc (by omega) hm2 (h.later hV))
 have hv2 := hide (fun (V : World) (hV : Below w.heap.size w V) => r12val_walk A l c V (by omega) hm2 (h.later hV))
 have hst1 := hide (fun (V : World) (hV : Below w.heap.size w V) => studentsQ_walk A l c V (by omega) (fun x hx => (hm x hx).1) (h.later hV))
 have hst2 := hide (fun (V : World) (hV : Below w.heap.size w V) => r12studs_walk A l c V hn (fun x hx => (hm x hx).1) (h.later hV))
 have hwa1 := hide (fun (V : World) (hV : Below w.heap.size w V) => wantQ_walk A l c st V hn (fun x hx => (hm x hx).2) (h.later hV))
 have hwa2 := hide (fun (V : World) (hV : Below w.heap.size w V) => r12want_walk A l c st V hn (h.later hV))
 obtain ⟨N, hNN⟩ : ∃ N, rs.length = N := ⟨_, rfl⟩
 obtain ⟨L, hLL⟩ : ∃ L, l.length = L := ⟨_, rfl⟩
 obtain ⟨xs, hxs⟩ : ∃ xs, rowsQ l = xs := ⟨_, rfl⟩
 have hxl : xs.length ≤ 9223372036854775807 ∧ ∀ x ∈ xs, x.length ≤ 9223372036854775807 := by
  rw [← hxs]
  unfold rowsQ
  split
  ·refine ⟨by rw [List.length_map]; omega, fun x hx => ?_⟩
   obtain ⟨y, -, rfl⟩ := List.mem_map.1 hx
   show 4 ≤ 9223372036854775807
   decide
  ·exact ⟨by simp, fun x hx => by simp at hx⟩
 have hlsl : (readReq rs).ls.length ≤ 400 := (readReq_len rs).1
 have hsvl : (studsV l).length ≤ 1000000000 := by rw [show (studsV l).length = (freshS (studs l)).length from stR_len (studs l)]; refine Nat.le_trans (fresh_len _) ?_; unfold studs; rw [List.length_map]; exact hn
 have hwvl : (wantV st l).length ≤ 1000000000 := Nat.le_trans (ofR_len st l) hn
 have hwvm : Hid (∀ x ∈ wantV st l, x.2.2.2.length ≤ 9223372036854775807) := hide fun x hx => by
  have hx := (ascG_perm (ofS st l)).mem_iff.1 hx
  have := (hm x (List.mem_filter.1 hx).1).2
  omega
 have hsam := hide (fun (A1 A2 : Option Addr) (c1 c2 : Nat) (V : World) (h1 : At kReq AnyB V A1 (readReq rs).ls) (h2 : At kReq AnyB V A2 (readReq rs).ls) => r12Same_walk A1 A2 (readReq rs).ls c1 c2 V (by omega) (readReq_ins rs) h1 h2)
 rw [hLL] at hwr hwr2 hv1 hv2 hst1 hst2 hwa1 hwa2 hn hlc ⊢
 rw [hNN] at hrd hrd2 hN ⊢
 replace hNN := hide hNN
 replace hLL := hide hLL
 replace hs := hide hs
 clear hm hm2
 go_enter Tryz.func16, Tryz.ntmps16
 go_wp2_with fail
 go_loopw [7] (fun i wr => ∃ j : Nat, j ≤ N ∧ i = .int .i64 j ∧ w = wr) (fun i _ => N - (intOf i).toNat)
 case atStart => exact ⟨0, Nat.zero_le _, rfl, rfl⟩
 case round =>
  obtain ⟨j, hj, rfl, rfl⟩ := hrel
  by_cases hlt : j < N
  ·obtain ⟨rb, off, F, c, rfl, hrb, q0, q1⟩ := recs_len12 hR j (by rw [hNN.out]; exact hlt)
   obtain ⟨k, hk⟩ : ∃ k, (rs.getD j (0, [])).2.length = k := ⟨_, rfl⟩
   rw [hk] at q1
   have hj0 : (0 : Int) ≤ (j : Int) := by omega
   have hj1 : (j : Int) < (N : Int) := by omega
   have haw := awake12_walk _ hS
   clear hk hR hwr hwr2 hrd hrd2 hv1 hv2 hst1 hst2 hwa1 hwa2 hsam h hs hlsl
   by_cases h20 : 20 < k
   ·go_wp2_with fail
    refine haw.mono ?_
    rintro e w1 ⟨rfl, hb1⟩
    go_wp2
    go_ret
    exact ⟨rfl, hb1⟩
   ·clear haw
    go_wp2
    go_roundw
    case rel => exact ⟨j + 1, by omega, by go_num, by first | rfl | trivial⟩
    case measure => simp [intOf]; omega
  ·obtain rfl : j = N := by omega
   clear hR
   go_wp2_with fail
   refine hwr.mono ?_
   rintro e w1 ⟨va, rfl, hOa, hb1⟩
   clear hwr
   go_wp2_with fail
   refine (hwr2.out _ hb1).mono ?_
   rintro e w2 ⟨vb, rfl, hOb, hb2⟩
   replace hOa := hOa.later hb2
   replace hb1 := ext_trans hb1 hb2
   clear hwr2 hb2
   go_wp2_with fail
   refine (hrd.out _ hb1).mono ?_
   rintro e w3 ⟨vm, vp, rfl, hLm, hPm, hb3⟩
   replace hOa := hOa.later hb3
   replace hOb := hOb.later hb3
   replace hb1 := ext_trans hb1 hb3
   clear hrd hb3
   go_wp2_with fail
   refine (hrd2.out _ hb1).mono ?_
   rintro e w4 ⟨vn, vq, rfl, hLn, hPn, hb4⟩
   replace hOa := hOa.later hb4
   replace hOb := hOb.later hb4
   replace hLm := hLm.later hb4
   replace hPm := owns_later hPm hb4
   replace hb1 := ext_trans hb1 hb4
   clear hrd2 hb4
   obtain ⟨Aa, ca, rfl, -, hAa⟩ := hOa.any
   obtain ⟨Ab, cb, rfl, -, hAb⟩ := hOb.any
   obtain ⟨Am, cm, rfl, -, hAm⟩ := hLm.any
   obtain ⟨An, cn, rfl, -, hAn⟩ := hLn.any
   rw [hxs] at hAa hAb ⊢
   have haw := awake12_walk w4 (hS.after hb1)
   have hv1' := hide (fun (V : World) (hV : Below w4.heap.size w4 V) => hv1.out V (ext_trans hb1 hV))
   have hv2' := hide (fun (V : World) (hV : Below w4.heap.size w4 V) => hv2.out V (ext_trans hb1 hV))
   have hst1' := hide (fun (V : World) (hV : Below w4.heap.size w4 V) => hst1.out V (ext_trans hb1 hV))
   have hst2' := hide (fun (V : World) (hV : Below w4.heap.size w4 V) => hst2.out V (ext_trans hb1 hV))
   have hwa1' := hide (fun (V : World) (hV : Below w4.heap.size w4 V) => hwa1.out V (ext_trans hb1 hV))
   have hwa2' := hide (fun (V : World) (hV : Below w4.heap.size w4 V) => hwa2.out V (ext_trans hb1 hV))
   have hsl := hide (fun (V : World) (hV : Below w4.heap.size w4 V) => r2SameL_walk Aa Ab xs ca cb V hxl.1 hxl.2 (hAa.any.later hV) (hAb.any.later hV))
   have hsc := hide (fun (V : World) (hV : Below w4.heap.size w4 V) => hsam.out Am An cm cn V (hAm.any.later hV) (hAn.any.later hV))
   have hsp := hide (fun (V : World) (hV : Below w4.heap.size w4 V) => probs_same _ _ vp vq _ V (owns_later hPm hV) (owns_later hPn hV))
   clear hAa hAb hAm hAn hPm hPn h hs hsam hv1 hv2 hst1 hst2 hwa1 hwa2 hxs hOa hOb hLm hLn hS
   generalize hcr : (readReq rs).ls.length = nm at *
   replace hcr := hide hcr
   go_wp2_with fail
   refine haw.mono ?_
   rintro e w5 ⟨rfl, hb5⟩
   clear haw
   go_wp2_with fail
   refine (hv1'.out _ hb5).mono ?_
   rintro e w6 ⟨rfl, hb6⟩
   replace hb5 := ext_trans hb5 hb6
   clear hb6
   go_wp2_with fail
   refine (hv2'.out _ hb5).mono ?_
   rintro e w7 ⟨rfl, hb7⟩
   replace hb5 := ext_trans hb5 hb7
   clear hb7
   go_wp2_with fail
   refine (hsl.out _ hb5).mono ?_
   rintro e w8 ⟨rfl, hb8⟩
   replace hb5 := ext_trans hb5 hb8
   clear hb8
   go_wp2_with fail
   refine (hsc.out _ hb5).mono ?_
   rintro e w9 ⟨rfl, hb9⟩
   replace hb5 := ext_trans hb5 hb9
   clear hb9
   go_wp2_with fail
   refine (hsp.out _ hb5).mono ?_
   rintro e w10 ⟨rfl, hb10⟩
   replace hb5 := ext_trans hb5 hb10
   clear hb10 hsl hsc hsp hv1' hv2'
   go_wp2_with fail
   refine (hst1'.out _ hb5).mono ?_
   rintro e w11 ⟨v11, rfl, hO11, hb11⟩
   replace hb5 := ext_trans hb5 hb11
   clear hb11
   go_wp2_with fail
   refine (hst2'.out _ hb5).mono ?_
   rintro e w12 ⟨v12, rfl, hO12, hb12⟩
   replace hb5 := ext_trans hb5 hb12
   obtain ⟨A11, c11, rfl⟩ := hO11.form
   obtain ⟨A12, c12, rfl⟩ := hO12.form
   have hss := r2SameS_walk A11 A12 (studsV l) c11 c12 w12 (by omega) (hO11.later hb12).any'.any hO12.any'.any
   obtain ⟨ns, hns⟩ : ∃ ns, (studsV l).length = ns := ⟨_, rfl⟩
   rw [hns] at hss ⊢
   clear hb12 hO11 hO12 hst1' hst2' hns hsvl
   go_wp2_with fail
   refine hss.mono ?_
   clear hss
   rintro e w13 ⟨rfl, hb13⟩
   replace hb5 := ext_trans hb5 hb13
   clear hb13
   go_wp2_with fail
   refine (hwa1'.out _ hb5).mono ?_
   rintro e w14 ⟨v14, rfl, hO14, hb14⟩
   replace hb5 := ext_trans hb5 hb14
   clear hb14
   go_wp2_with fail
   refine (hwa2'.out _ hb5).mono ?_
   rintro e w15 ⟨v15, rfl, hO15, hb15⟩
   replace hb5 := ext_trans hb5 hb15
   obtain ⟨A14, c14, rfl⟩ := hO14.form
   obtain ⟨A15, c15, rfl⟩ := hO15.form
   have hss := r12Same_walk A14 A15 (wantV st l) c14 c15 w15 (by omega) hwvm.out (hO14.later hb15).any'.any hO15.any'.any
   obtain ⟨nw, hnw⟩ : ∃ nw, (wantV st l).length = nw := ⟨_, rfl⟩
   rw [hnw] at hss ⊢
   clear hb15 hO14 hO15 hwa1' hwa2' hnw hwvl
   go_wp2_with fail
   refine hss.mono ?_
   clear hss
   rintro e w16 ⟨rfl, hb16⟩
   replace hb5 := ext_trans hb5 hb16
   go_wp2
   go_ret
   exact ⟨rfl, ext_trans hb1 hb5⟩
end Go.Proofs.YthejgholpkeldaaGreatDoor
