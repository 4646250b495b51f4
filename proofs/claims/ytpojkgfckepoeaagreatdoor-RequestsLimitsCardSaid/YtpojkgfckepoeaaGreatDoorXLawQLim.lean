/- The statement RequestsExact: its walk. Conditions: what is read is bounded; what the program's variables hold. The statement RequestsLimits: its walk. Conditions: what the program's variables hold. -/
import Derived.Test.YtpojkgfckepoeaaGreatDoorShelfS
import Derived.Test.YtpojkgfckepoeaaGreatDoorRows
import Derived.WalkKit
import Derived.WalkSpells
import Derived.WalkLawsBesides
import Derived.BigGuardPart
import Derived.Lib.Hide
import Derived.Laws.BitsAllLaws
import Derived.Laws.BitsLemmas
import Derived.Lib.LaidTab
import Derived.Test.YtpojkgfckepoeaaGreatDoorShelf
import Derived.Lib.ConvBytes
import Derived.Deep.QuietTactic
import Derived.BigQuiet
import Derived.Laws.ResultCell
import Derived.RegionTactic
import Derived.BigRegion
import Derived.Deep.RegionHeld3
import Derived.Deep.DeepCutAuto
import Derived.Lib.SmallJoins
import Derived.Lib.SplitLaws
import Derived.Lib.CountLaws
import Derived.Lib.IndexMore
import Derived.Lib.Split
import Derived.Lib.Join
import Derived.Lib.ItoaNum
import Derived.Laws.AppendOwn
import Derived.Test.YtpojkgfckepoeaaGreatDoorShelfT
import Derived.Lib.ItoaLen
import Derived.Lib.AppendIntMem
import Derived.Deep.AppendLies
import Derived.Lib.PathFns
import Derived.Maps.Range
import Derived.Lib.OwnBridge
import Derived.Sort.OwnSorted
import Derived.Sort.Walk0
import Derived.Test.YtpojkgfckepoeaaGreatDoorCards
import Derived.Test.YtpojkgfckepoeaaGreatDoorTie
import Derived.ProofKit
import Derived.OpenShut
import Derived.LaidMore
import Derived.Lay
import Derived.SevenTiedAt
import Derived.Stop.Joined
import Derived.Stop.LaidErr
import Derived.Deep.DeepHandedRow
import Derived.Lib.LaidU8
import Derived.LaidSub
import Derived.Deep.Slices
import Derived.Deep.Fields
import Derived.ChangeSame
import Derived.Maps.OwnSet
import Derived.Deep.RegionLaw
import Derived.Deep.RegionLawGrows
import Derived.StringKeys
import Derived.Sort.LotA
import Derived.Shelf.SlSortCmp.NoneTotal
import Derived.Shelf.SlSortCmp.InsertionK
import Derived.Shelf.SlSortCmp.SiftDownK
import Derived.Shelf.SlSortCmp.KitK
import Derived.Shelf.SlSortCmp.ReverseRangeK
import Derived.Maps.RangeWalk
import Derived.Ground.SlsfProg
import Derived.Test.YtpojkgfckepoeaaGreatDoorXR9A
import Derived.Test.YtpojkgfckepoeaaGreatDoorXAwake12
import Derived.Test.YtpojkgfckepoeaaGreatDoorXQStudR
import Derived.Test.YtpojkgfckepoeaaGreatDoorXQWrite
import Derived.Test.YtpojkgfckepoeaaGreatDoorXQWriteR
import Derived.Test.YtpojkgfckepoeaaGreatDoorXQWantR
import Derived.Test.YtpojkgfckepoeaaGreatDoorXOneLen
import Derived.Test.YtpojkgfckepoeaaGreatDoorXPlainA
namespace Go.Proofs.YtpojkgfckepoeaaGreatDoor
open Go.RowKit
set_option maxRecDepth 100000

theorem recs_len12 {B : Nat} {w : World} {A : Option Addr} {rs : List Rec} (h : RecsAt B w A rs) (j : Nat) (hj : j < rs.length) :
    ∃ b off F c, A = some ⟨b, off, none⟩ ∧ b < B ∧ w.cell? ⟨b, off + j * 2, none⟩ = some (.int .i64 (rs.getD j (0, [])).1) ∧ w.cell? ⟨b, off + j * 2 + 1, none⟩ = some (.slice F (rs.getD j (0, [])).2.length c) := by
  obtain ⟨b, off, e, hb, hc⟩ := h (by omega)
  obtain ⟨F, c, c0, c1, -⟩ := hc j (rs.getD j (0, [])) (by rw [List.getD_eq_getElem?_getD, List.getElem?_eq_getElem hj]; rfl)
  exact ⟨b, off, F, c, e, hb, c0, c1⟩
theorem readReq_ins (rs : List Rec) : ∀ x ∈ (readReq rs).ls, x.2.2.2.length ≤ 9223372036854775807 := by
  induction rs using snoc_ind with
  | h0 => intro x hx; simp [readReq, readAll] at hx
  | h1 rs r ih =>
    obtain ⟨line, fs⟩ := r
    have hst : readReq (rs ++ [(line, fs)]) = gathStep 4 reqP reqOf (readReq rs) (line, fs) := by simp [readReq, readAll, List.foldl_append]
    rw [hst]
    unfold gathStep
    dsimp only
    split
    · split
      · exact ih
      · intro x hx
        rcases List.mem_append.1 hx with hx | hx
        · exact ih x hx
        · simp at hx
          subst hx
          show (listV (textAt fs 3)).2.length ≤ _
          have := listV_len64 (textAt fs 3)
          omega
    · exact ih
set_option maxHeartbeats 8000000 in
theorem exact12_walk (A : Option Addr) (l : List Req) (c : Nat) (R : Option Addr) (rs : List Rec) (cap : Nat) (st : ByteArray) (w : World) (hS : Std w) (hlc : l.length ≤ c) (hn : l.length ≤ 1000000000) (hm : ∀ x ∈ l, x.1.size ≤ 9223372036854775807 ∧ x.2.2.2.length ≤ 1000000000) (h : At kReq AnyB w A l)
    (hR : RecsAt w.heap.size w R rs) (hN : rs.length ≤ 1048576) (hs : ∀ r ∈ rs, ∀ f ∈ r.2, f.1.size < 1073741824) :
    Calls Tryz.prog 3 #[.slice A l.length c, .slice R rs.length cap, .string st] w fun e w' => e = .returned (.bool true) ∧ Below w.heap.size w w' := by
  have hm2 : ReqShort l := fun x hx => ⟨(hm x hx).1, by have := (hm x hx).2; omega⟩
  have hwr := qWrite_walk A l c w hS hlc (by omega) hm2 h
  have hwr2 := hide (fun (V : World) (hV : Below w.heap.size w V) => r12write_walk A l c V (hS.after hV) (by omega) hm2 (h.later hV))
  have hrd := hide (fun (V : World) (hV : Below w.heap.size w V) => qRead_walk R rs cap V (hS.after hV) ((hR.below hV).more hV.size) (by omega) hs)
  have hrd2 := hide (fun (V : World) (hV : Below w.heap.size w V) => r12Read_walk R rs cap V (hS.after hV) ((hR.below hV).more hV.size) (by omega) hs)
  have hv1 := hide (fun (V : World) (hV : Below w.heap.size w V) => qval_walk A l c V hlc (by omega) hm2 (h.later hV))
  have hv2 := hide (fun (V : World) (hV : Below w.heap.size w V) => r12val_walk A l c V (by omega) hm2 (h.later hV))
  have hst1 := hide (fun (V : World) (hV : Below w.heap.size w V) => studentsQ_walk A l c V (by omega) (fun x hx => (hm x hx).1) (h.later hV))
  have hst2 := hide (fun (V : World) (hV : Below w.heap.size w V) => r12studs_walk A l c V hn (fun x hx => (hm x hx).1) (h.later hV))
  have hwa1 := hide (fun (V : World) (hV : Below w.heap.size w V) => wantQ_walk A l c st V hn (fun x hx => (hm x hx).2) (h.later hV))
  have hwa2 := hide (fun (V : World) (hV : Below w.heap.size w V) => r12want_walk A l c st V hn (h.later hV))
  obtain ⟨N, hNN⟩ : ∃ N, rs.length = N := ⟨_, rfl⟩
  obtain ⟨L, hLL⟩ : ∃ L, l.length = L := ⟨_, rfl⟩
  obtain ⟨xs, hxs⟩ : ∃ xs, rowsQ l = xs := ⟨_, rfl⟩
  have hxl : xs.length ≤ 9223372036854775807 ∧ ∀ x ∈ xs, x.length ≤ 9223372036854775807 := by
    rw [← hxs]
    unfold rowsQ
    split
    · refine ⟨by rw [List.length_map]; omega, fun x hx => ?_⟩
      obtain ⟨y, -, rfl⟩ := List.mem_map.1 hx
      show 4 ≤ 9223372036854775807
      decide
    · exact ⟨by simp, fun x hx => by simp at hx⟩
  have hlsl : (readReq rs).ls.length ≤ 400 := (readReq_len rs).1
  have hsvl : (studsV l).length ≤ 1000000000 := by rw [show (studsV l).length = (freshS (studs l)).length from stR_len (studs l)]; refine Nat.le_trans (fresh_len _) ?_; unfold studs; rw [List.length_map]; exact hn
  have hwvl : (wantV st l).length ≤ 1000000000 := Nat.le_trans (ofR_len st l) hn
  have hwvm : Hid (∀ x ∈ wantV st l, x.2.2.2.length ≤ 9223372036854775807) := hide fun x hx => by
    have hx := (ascG_perm (ofS st l)).mem_iff.1 hx
    have := (hm x (List.mem_filter.1 hx).1).2
    omega
  have hsam := hide (fun (A1 A2 : Option Addr) (c1 c2 : Nat) (V : World) (h1 : At kReq AnyB V A1 (readReq rs).ls) (h2 : At kReq AnyB V A2 (readReq rs).ls) => r12Same_walk A1 A2 (readReq rs).ls c1 c2 V (by omega) (readReq_ins rs) h1 h2)
  rw [hLL] at hwr hwr2 hv1 hv2 hst1 hst2 hwa1 hwa2 hn hlc ⊢
  rw [hNN] at hrd hrd2 hN ⊢
  replace hNN := hide hNN
  replace hLL := hide hLL
  replace hs := hide hs
  clear hm hm2
  go_enter Tryz.func3, Tryz.ntmps3
  go_wp2_with fail
  go_loopw [7] (fun i wr => ∃ j : Nat, j ≤ N ∧ i = .int .i64 j ∧ w = wr) (fun i _ => N - (intOf i).toNat)
  case atStart => exact ⟨0, Nat.zero_le _, rfl, rfl⟩
  case round =>
    obtain ⟨j, hj, rfl, rfl⟩ := hrel
    by_cases hlt : j < N
    · obtain ⟨rb, off, F, c, rfl, hrb, q0, q1⟩ := recs_len12 hR j (by rw [hNN.out]; exact hlt)
      obtain ⟨k, hk⟩ : ∃ k, (rs.getD j (0, [])).2.length = k := ⟨_, rfl⟩
      rw [hk] at q1
      have hj0 : (0 : Int) ≤ (j : Int) := by omega
      have hj1 : (j : Int) < (N : Int) := by omega
      have haw := awake12_walk _ hS
      clear hk hR hwr hwr2 hrd hrd2 hv1 hv2 hst1 hst2 hwa1 hwa2 hsam h hs hlsl
      by_cases h20 : 20 < k
      · go_wp2_with fail
        refine haw.mono ?_
        rintro e w1 ⟨rfl, hb1⟩
        go_wp2
        go_ret
        exact ⟨rfl, hb1⟩
      · clear haw
        go_wp2
        go_roundw
        case rel => exact ⟨j + 1, by omega, by go_num, by first | rfl | trivial⟩
        case measure => simp [intOf]; omega
    · obtain rfl : j = N := by omega
      clear hR
      go_wp2_with fail
      refine hwr.mono ?_
      rintro e w1 ⟨va, rfl, hOa, hb1⟩
      clear hwr
      go_wp2_with fail
      refine (hwr2.out _ hb1).mono ?_
      rintro e w2 ⟨vb, rfl, hOb, hb2⟩
      replace hOa := hOa.later hb2
      replace hb1 := ext_trans hb1 hb2
      clear hwr2 hb2
      go_wp2_with fail
      refine (hrd.out _ hb1).mono ?_
      rintro e w3 ⟨vm, vp, rfl, hLm, hPm, hb3⟩
      replace hOa := hOa.later hb3
      replace hOb := hOb.later hb3
      replace hb1 := ext_trans hb1 hb3
      clear hrd hb3
      go_wp2_with fail
      refine (hrd2.out _ hb1).mono ?_
      rintro e w4 ⟨vn, vq, rfl, hLn, hPn, hb4⟩
      replace hOa := hOa.later hb4
      replace hOb := hOb.later hb4
      replace hLm := hLm.later hb4
      replace hPm := owns_later hPm hb4
      replace hb1 := ext_trans hb1 hb4
      clear hrd2 hb4
      obtain ⟨Aa, ca, rfl, -, hAa⟩ := hOa.any
      obtain ⟨Ab, cb, rfl, -, hAb⟩ := hOb.any
      obtain ⟨Am, cm, rfl, -, hAm⟩ := hLm.any
      obtain ⟨An, cn, rfl, -, hAn⟩ := hLn.any
      rw [hxs] at hAa hAb ⊢
      have haw := awake12_walk w4 (hS.after hb1)
      have hv1' := hide (fun (V : World) (hV : Below w4.heap.size w4 V) => hv1.out V (ext_trans hb1 hV))
      have hv2' := hide (fun (V : World) (hV : Below w4.heap.size w4 V) => hv2.out V (ext_trans hb1 hV))
      have hst1' := hide (fun (V : World) (hV : Below w4.heap.size w4 V) => hst1.out V (ext_trans hb1 hV))
      have hst2' := hide (fun (V : World) (hV : Below w4.heap.size w4 V) => hst2.out V (ext_trans hb1 hV))
      have hwa1' := hide (fun (V : World) (hV : Below w4.heap.size w4 V) => hwa1.out V (ext_trans hb1 hV))
      have hwa2' := hide (fun (V : World) (hV : Below w4.heap.size w4 V) => hwa2.out V (ext_trans hb1 hV))
      have hsl := hide (fun (V : World) (hV : Below w4.heap.size w4 V) => r2SameL_walk Aa Ab xs ca cb V hxl.1 hxl.2 (hAa.any.later hV) (hAb.any.later hV))
      have hsc := hide (fun (V : World) (hV : Below w4.heap.size w4 V) => hsam.out Am An cm cn V (hAm.any.later hV) (hAn.any.later hV))
      have hsp := hide (fun (V : World) (hV : Below w4.heap.size w4 V) => probs_same _ _ vp vq _ V (owns_later hPm hV) (owns_later hPn hV))
      clear hAa hAb hAm hAn hPm hPn h hs hsam hv1 hv2 hst1 hst2 hwa1 hwa2 hxs hOa hOb hLm hLn hS
      generalize hcr : (readReq rs).ls.length = nm at *
      replace hcr := hide hcr
      go_wp2_with fail
      refine haw.mono ?_
      rintro e w5 ⟨rfl, hb5⟩
      clear haw
      go_wp2_with fail
      refine (hv1'.out _ hb5).mono ?_
      rintro e w6 ⟨rfl, hb6⟩
      replace hb5 := ext_trans hb5 hb6
      clear hb6
      go_wp2_with fail
      refine (hv2'.out _ hb5).mono ?_
      rintro e w7 ⟨rfl, hb7⟩
      replace hb5 := ext_trans hb5 hb7
      clear hb7
      go_wp2_with fail
      refine (hsl.out _ hb5).mono ?_
      rintro e w8 ⟨rfl, hb8⟩
      replace hb5 := ext_trans hb5 hb8
      clear hb8
      go_wp2_with fail
      refine (hsc.out _ hb5).mono ?_
      rintro e w9 ⟨rfl, hb9⟩
      replace hb5 := ext_trans hb5 hb9
      clear hb9
      go_wp2_with fail
      refine (hsp.out _ hb5).mono ?_
      rintro e w10 ⟨rfl, hb10⟩
      replace hb5 := ext_trans hb5 hb10
      clear hb10 hsl hsc hsp hv1' hv2'
      go_wp2_with fail
      refine (hst1'.out _ hb5).mono ?_
      rintro e w11 ⟨v11, rfl, hO11, hb11⟩
      replace hb5 := ext_trans hb5 hb11
      clear hb11
      go_wp2_with fail
      refine (hst2'.out _ hb5).mono ?_
      rintro e w12 ⟨v12, rfl, hO12, hb12⟩
      replace hb5 := ext_trans hb5 hb12
      obtain ⟨A11, c11, rfl⟩ := hO11.form
      obtain ⟨A12, c12, rfl⟩ := hO12.form
      have hss := r2SameS_walk A11 A12 (studsV l) c11 c12 w12 (by omega) (hO11.later hb12).any'.any hO12.any'.any
      obtain ⟨ns, hns⟩ : ∃ ns, (studsV l).length = ns := ⟨_, rfl⟩
      rw [hns] at hss ⊢
      clear hb12 hO11 hO12 hst1' hst2' hns hsvl
      go_wp2_with fail
      refine hss.mono ?_
      clear hss
      rintro e w13 ⟨rfl, hb13⟩
      replace hb5 := ext_trans hb5 hb13
      clear hb13
      go_wp2_with fail
      refine (hwa1'.out _ hb5).mono ?_
      rintro e w14 ⟨v14, rfl, hO14, hb14⟩
      replace hb5 := ext_trans hb5 hb14
      clear hb14
      go_wp2_with fail
      refine (hwa2'.out _ hb5).mono ?_
      rintro e w15 ⟨v15, rfl, hO15, hb15⟩
      replace hb5 := ext_trans hb5 hb15
      obtain ⟨A14, c14, rfl⟩ := hO14.form
      obtain ⟨A15, c15, rfl⟩ := hO15.form
      have hss := r12Same_walk A14 A15 (wantV st l) c14 c15 w15 (by omega) hwvm.out (hO14.later hb15).any'.any hO15.any'.any
      obtain ⟨nw, hnw⟩ : ∃ nw, (wantV st l).length = nw := ⟨_, rfl⟩
      rw [hnw] at hss ⊢
      clear hb15 hO14 hO15 hwa1' hwa2' hnw hwvl
      go_wp2_with fail
      refine hss.mono ?_
      clear hss
      rintro e w16 ⟨rfl, hb16⟩
      replace hb5 := ext_trans hb5 hb16
      go_wp2
      go_ret
      exact ⟨rfl, ext_trans hb1 hb5⟩
end Go.Proofs.YtpojkgfckepoeaaGreatDoor

namespace Go.Proofs.YtpojkgfckepoeaaGreatDoor
open Go.RowKit
set_option maxRecDepth 100000

def nmB (a b : Nat) : ByteArray := ⟨#[UInt8.ofNat (48 + a), UInt8.ofNat (48 + b)]⟩
theorem conv_two (W : World) (a b : Nat) (ha : a ≤ 100) (hb : b ≤ 100) (cap : Nat) : (convert 59 9 (.slice (some ⟨W.heap.size, 0, none⟩) 2 cap)).run Tryz.prog (W.alloc (.cells #[.int .u8 (48 + (a : Int)), .int .u8 (48 + (b : Int))] 5)) = .ok (.string (nmB a b)) (W.alloc (.cells #[.int .u8 (48 + (a : Int)), .int .u8 (48 + (b : Int))] 5)) :=
  run_convert_bytes_back _ 59 9 5 ⟨W.heap.size, 0, none⟩ cap [UInt8.ofNat (48 + a), UInt8.ofNat (48 + b)] Tryz.underlying59 Tryz.underlying5 Tryz.underlying9 (by
    intro j hj
    have hj : j = 0 ∨ j = 1 := by simp at hj; omega
    have h1 : ((UInt8.ofNat (48 + a)).toNat : Int) = 48 + (a : Int) := by rw [UInt8.toNat_ofNat']; omega
    have h2 : ((UInt8.ofNat (48 + b)).toNat : Int) = 48 + (b : Int) := by rw [UInt8.toNat_ofNat']; omega
    rcases hj with rfl | rfl
    · simp [Addr.add]
      omega
    · simp [Addr.add]
      omega)
theorem own_rowOf {α : Type} {K : Kind α} {t : TypeId} {ts : List TypeId} {B0 B : Nat} {w : World} {v : Value} {l : List α} (h : Own K t ts B0 B w v l) : ∃ xs, w.ownsRow B t K.k v l.length xs := by obtain ⟨vss, -, h, -⟩ := h; exact ⟨_, h⟩
/-- What the law has made: requests and their records. -/
def LimMade (k : Nat) (l : List Req) (f : List (List ByteArray)) : Prop := l.length ≤ k ∧ f.length ≤ k ∧ (∀ x ∈ l, x.1.size ≤ 100 ∧ x.2.2.2.length = 0) ∧ ∀ x ∈ f, x.length ≤ 1000 ∧ ∀ z ∈ x, z.size ≤ 100
set_option maxHeartbeats 4000000 in
theorem limits12_walk (n : Int) (w : World) (hS : Std w) :
    Calls Tryz.prog 6 #[.int .i64 n] w fun e w' => e = .returned (.bool true) ∧ Below w.heap.size w w' := by
  obtain ⟨m1, m2, -⟩ := modV_bd n 5
  have m2 := m2 (by decide)
  obtain ⟨q, hq⟩ := Int.eq_ofNat_of_zero_le m1
  have hmod := mod_walk n 5 (by decide) w
  rw [hq] at hmod
  have hq5 : q < 5 := by omega
  have hbig := hS.big
  clear m1 m2 hq
  go_enter Tryz.func6, Tryz.ntmps6
  go_wp2_with (go_at_call 33; refine hmod.mono ?_; rintro e w' ⟨rfl, rfl⟩)
  go_loopw [3, 4, 5] (fun u v i wr => ∃ (k : Nat) (l : List Req) (f : List (List ByteArray)), i = .int .i64 k ∧ k ≤ 66 ∧ LimMade (66 - k) l f ∧ Own kReq 61 [9] 0 w.heap.size wr u l ∧ Own (kSlice kStr) 40 [9] 0 w.heap.size wr v f ∧ Below w.heap.size w wr) (fun _ _ i _ => (intOf i).toNat)
  case atStart => exact ⟨62 + q, [], [], by go_num, by omega, ⟨Nat.zero_le _, Nat.zero_le _, fun x hx => by simp at hx, fun x hx => by simp at hx⟩, Own.nil, Own.nil, Below.refl _ _⟩
  case round =>
    obtain ⟨k, l, f, rfl, hk, hmade, hl, hf, hb⟩ := hrel
    by_cases hk0 : 0 < k
    · have hk0i : (0 : Int) < (k : Int) := by omega
      obtain ⟨a, ha⟩ : ∃ a, k / 10 = a := ⟨_, rfl⟩
      obtain ⟨b, hb'⟩ : ∃ b, k % 10 = b := ⟨_, rfl⟩
      have hab : a ≤ 6 ∧ b ≤ 9 := by omega
      have ea : (k : Int) / 10 = (a : Int) := by omega
      have eb : (k : Int) % 10 = (b : Int) := by omega
      have et : (k : Int).tdiv 10 = (a : Int) := by rw [Int.tdiv_eq_ediv_of_nonneg (by omega)]; exact ea
      have em : (k : Int).tmod 10 = (b : Int) := by rw [Int.tmod_eq_emod_of_nonneg (by omega)]; exact eb
      have wa : IntKind.u8.wrap (48 + (a : Int)) = 48 + (a : Int) := by simp [IntKind.wrap, IntKind.bits, IntKind.signed]; omega
      have wb : IntKind.u8.wrap (48 + (b : Int)) = 48 + (b : Int) := by simp [IntKind.wrap, IntKind.bits, IntKind.signed]; omega
      have wa2 : IntKind.i64.wrap (48 + (a : Int)) = 48 + (a : Int) := by rw [IntKind.wrap_i64]; omega
      have wb2 : IntKind.i64.wrap (48 + (b : Int)) = 48 + (b : Int) := by rw [IntKind.wrap_i64]; omega
      have hcv := conv_two wr a b (by omega) (by omega) 2
      obtain ⟨A3, c3, rfl⟩ := hl.form
      obtain ⟨A4, c4, rfl⟩ := hf.form
      obtain ⟨g1, g2, g3, g4⟩ := hmade
      have hl9 : l.length ≤ 4000000000 := by omega
      have hf9 : f.length ≤ 4000000000 := by omega
      have hb0 : Below wr.heap.size wr (wr.alloc (.cells #[.int .u8 (48 + (a : Int)), .int .u8 (48 + (b : Int))] 5)) := ext_alloc (Below.refl _ _) _
      have hl0 := hl.later hb0
      have hf0 := hf.later hb0
      have hbw0 := ext_trans hb hb0
      obtain ⟨nm, hnm⟩ : ∃ nm, (⟨#[115]⟩ : ByteArray) ++ nmB a b = nm := ⟨_, rfl⟩
      have hsz : nm.size ≤ 100 := by rw [← hnm]; show 3 ≤ 100; decide
      have hs2 : (nmB a b).size = 2 := rfl
      replace hf := hide hf
      clear hl hb0
      go_upto_region 7 with fail
      try rw [hnm]
      replace hnm := hide hnm
      obtain ⟨W0, hW0⟩ : ∃ W0, wr.alloc (.cells #[.int .u8 (48 + (a : Int)), .int .u8 (48 + (b : Int))] 5) = W0 := ⟨_, rfl⟩
      rw [hW0] at hl0 hf0 hbw0 ⊢
      clear hcv hW0 ea eb et em wa wb wa2 wb2 hf
      have hrq := req_rep (S := Ty [9] 0 w.heap.size (W0.alloc (.cells #[.string nm, .string ⟨#[65]⟩, .int .i64 1, .slice none 0 0] 61))) (W := W0.alloc (.cells #[.string nm, .string ⟨#[65]⟩, .int .i64 1, .slice none 0 0] 61)) (z := nm) (co := ⟨#[65]⟩) (m := 1) (F := none) (n := 0) (c := 0) (l := []) ⟨none, 0, rfl, Nat.le_refl _, fun h => absurd h (Nat.lt_irrefl 0)⟩
      go_wp2_with (at_builtin; refine wpList_own rfl _ _ rfl apd_reqs (by decide) rfl (hl0.alloc _) ?c1 (by decide) ⟨W0.heap.size, 0, none⟩ 1 rfl (nm, ⟨#[65]⟩, 1, []) [.string nm, .string ⟨#[65]⟩, .int .i64 1, .slice none 0 0] hrq (World.news_of_block (cs := #[.string nm, .string ⟨#[65]⟩, .int .i64 1, .slice none 0 0]) (t := 61) (fr := (0, 0)) (heap_alloc_new _ _)) (by decide) (Nat.zero_le _) ?c2 ?_)
      case c1 => exact hl9
      case c2 => rw [World.size_alloc]; have := hbw0.size; omega
      intro v5 w5 hl5 hg5
      have hb5 : Below w.heap.size w w5 := (hl0.alloc (.cells #[.string nm, .string ⟨#[65]⟩, .int .i64 1, .slice none 0 0] 61)).below_grown (ext_alloc hbw0 _) (Nat.le_refl _) hg5
      obtain ⟨xs5, hx5⟩ := own_rowOf (hl0.alloc (.cells #[.string nm, .string ⟨#[65]⟩, .int .i64 1, .slice none 0 0] 61))
      have hf5 := (hf0.alloc (.cells #[.string nm, .string ⟨#[65]⟩, .int .i64 1, .slice none 0 0] 61)).grown hx5 (Nat.zero_le _) hg5 (by decide) (by decide)
      obtain ⟨A5, c5, rfl⟩ := hl5.form
      clear hl0 hf0 hg5 hrq hbw0
      go_wp2_with (at_builtin; refine wpList_own (K := kSlice kStr) rfl _ _ rfl apd_lists (by decide) rfl ((hf5.alloc _).alloc _) ?d1 (by decide) ⟨w5.heap.size + 1, 0, none⟩ 1 (by simp [Act.eval]) [nm, ⟨#[65]⟩, ⟨#[49]⟩, ⟨#[]⟩] [.slice (some ⟨w5.heap.size, 0, none⟩) 4 4] (rep_lit_strs (cs := #[.string nm, .string ⟨#[65]⟩, .string ⟨#[49]⟩, .string ⟨#[]⟩]) (t := 9) [nm, ⟨#[65]⟩, ⟨#[49]⟩, ⟨#[]⟩] (by first | exact heap_alloc_new _ _ | exact block_after (heap_alloc_new _ _) | exact block_after (block_after (heap_alloc_new _ _))) rfl rfl (Below.size (w := w) hb5) (by decide)) (World.news_of_block (cs := #[.slice (some ⟨w5.heap.size, 0, none⟩) 4 4]) (t := 40) (fr := (0, 0)) (by first | exact heap_alloc_new _ _ | exact heap_new2 _ _ _)) (by decide) (Nat.zero_le _) ?d2 ?_)
      case d1 => exact hf9
      case d2 => have := hb5.size; simp only [World.size_alloc]; omega
      intro v6 w6 hf6 hg6
      have hb6 : Below w.heap.size w w6 := ((hf5.alloc (.cells #[.string nm, .string ⟨#[65]⟩, .string ⟨#[49]⟩, .string ⟨#[]⟩] 9)).alloc (.cells #[.slice (some ⟨w5.heap.size, 0, none⟩) 4 4] 40)).below_grown (ext_alloc (ext_alloc hb5 _) _) (Nat.le_refl _) hg6
      obtain ⟨xs6, hx6⟩ := own_rowOf ((hf5.alloc (.cells #[.string nm, .string ⟨#[65]⟩, .string ⟨#[49]⟩, .string ⟨#[]⟩] 9)).alloc (.cells #[.slice (some ⟨w5.heap.size, 0, none⟩) 4 4] 40))
      have hl6 := ((hl5.alloc (.cells #[.string nm, .string ⟨#[65]⟩, .string ⟨#[49]⟩, .string ⟨#[]⟩] 9)).alloc (.cells #[.slice (some ⟨w5.heap.size, 0, none⟩) 4 4] 40)).grown hx6 (Nat.zero_le _) hg6 (by decide) (by decide)
      have hkw : IntKind.i64.wrap ((k : Int) - 1) = ((k - 1 : Nat) : Int) := by rw [IntKind.wrap_i64]; omega
      have hmade2 : LimMade (66 - (k - 1)) (l ++ [(nm, ⟨#[65]⟩, 1, [])]) (f ++ [[nm, ⟨#[65]⟩, ⟨#[49]⟩, ⟨#[]⟩]]) := by
        refine ⟨by simp; omega, by simp; omega, fun x hx => ?_, fun x hx => ?_⟩
        · rcases List.mem_append.1 hx with hx | hx
          · exact g3 x hx
          · simp at hx; subst hx; exact ⟨hsz, rfl⟩
        · rcases List.mem_append.1 hx with hx | hx
          · exact g4 x hx
          · simp at hx
            subst hx
            refine ⟨show 4 ≤ 1000 by decide, fun z hz => ?_⟩
            simp at hz
            rcases hz with rfl | rfl | rfl | rfl
            · exact hsz
            · decide
            · decide
            · decide
      clear hl5 hf5 hg6 hb5
      obtain ⟨k1, hk1⟩ : ∃ k1, k - 1 = k1 := ⟨_, rfl⟩
      rw [hk1] at hkw hmade2
      go_wp2_with fail
      go_roundw
      case rel => exact ⟨k1, _, _, rfl, by omega, hmade2, by rw [List.length_append] at hl6; exact hl6, hf6, hb6⟩
      case measure => first | (simp [intOf]; done) | (simp [intOf]; omega)
    · obtain rfl : k = 0 := by omega
      obtain ⟨A3, c3, rfl⟩ := hl.form
      obtain ⟨A4, c4, rfl⟩ := hf.form
      obtain ⟨g1, g2, g3, g4⟩ := hmade
      have hpl := plain_walk A4 f c4 wr (lists_in_of_at hf.any') (by omega) (fun x hx => ⟨(g4 x hx).1, fun z hz => by have := (g4 x hx).2 z hz; omega⟩)
      obtain ⟨nf, hnf⟩ : ∃ nf, f.length = nf := ⟨_, rfl⟩
      have hcap := hl.cap
      have hat := hl.any'.any
      rw [hnf] at hpl ⊢
      clear hf
      go_wp2_with fail
      refine hpl.mono ?_
      clear hpl
      rintro e w2 ⟨v, rfl, hR, hb2⟩
      have hrl : (plainR 1 f).length = nf := by rw [← hnf]; exact plainR_len f 1
      obtain ⟨A1, c1, rfl⟩ : ∃ A1 c1, v = .slice A1 nf c1 := by obtain ⟨us, -, h, -⟩ := hR; rw [← hrl]; exact owns_form h
      have hR1 := recs_at hR
      have hex := exact12_walk A3 l c3 A1 (plainR 1 f) c1 ⟨#[115, 48, 49]⟩ w2 (hS.after (ext_trans hb hb2)) hcap (by omega) (fun x hx => ⟨by have := (g3 x hx).1; omega, by rw [(g3 x hx).2]; decide⟩) (hat.later hb2) hR1 (by rw [hrl]; omega) (fun r hr fl hfl => by have := plainR_sizes (S := 100) (n := 1) (fun x hx z hz => (g4 x hx).2 z hz) r hr fl hfl; omega)
      rw [hrl] at hex
      obtain ⟨nl, hnl⟩ : ∃ nl, l.length = nl := ⟨_, rfl⟩
      rw [hnl] at hex ⊢
      clear hR hR1 hat g1 g2 g3 g4 hcap hl hnl hrl hnf
      go_wp2_with fail
      refine hex.mono ?_
      clear hex
      rintro e w3 ⟨rfl, hb3⟩
      go_wp2
      go_ret
      exact ⟨rfl, ext_trans (ext_trans hb hb2) hb3⟩
end Go.Proofs.YtpojkgfckepoeaaGreatDoor
