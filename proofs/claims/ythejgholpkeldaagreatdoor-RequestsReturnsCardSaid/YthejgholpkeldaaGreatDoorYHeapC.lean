/- Walk of fields.Read at requests. Conditions: texts shorter than 2^30 bytes; what the program's variables hold. Three objects made; a field's text. No condition. -/
import Derived.Test.YthejgholpkeldaaGreatDoorShelfS
import Derived.Test.YthejgholpkeldaaGreatDoorRows
import Derived.WalkKit
import Derived.WalkSpells
import Derived.WalkLawsBesides
import Derived.BigGuardPart
import Derived.Lib.Hide
import Derived.Laws.BitsAllLaws
import Derived.Laws.BitsLemmas
import Derived.Lib.LaidTab
import Derived.Test.YthejgholpkeldaaGreatDoorShelf
import Derived.Lib.ConvBytes
import Derived.Deep.QuietTactic
import Derived.BigQuiet
import Derived.Laws.ResultCell
import Derived.RegionTactic
import Derived.BigRegion
import Derived.Deep.RegionHeld3
import Derived.Deep.DeepCutAuto
import Derived.Lib.SmallJoins
import Derived.Lib.SplitLaws
import Derived.Lib.CountLaws
import Derived.Lib.IndexMore
import Derived.Lib.Split
import Derived.Lib.Join
import Derived.Lib.ItoaNum
import Derived.Laws.AppendOwn
import Derived.Test.YthejgholpkeldaaGreatDoorShelfT
import Derived.Lib.ItoaLen
import Derived.Lib.AppendIntMem
import Derived.Deep.AppendLies
import Derived.Lib.PathFns
import Derived.Maps.Range
import Derived.Lib.OwnBridge
import Derived.Sort.OwnSorted
import Derived.Sort.Walk0
import Derived.Test.YthejgholpkeldaaGreatDoorCards
import Derived.Test.YthejgholpkeldaaGreatDoorTie
import Derived.ProofKit
import Derived.OpenShut
import Derived.LaidMore
import Derived.Lay
import Derived.SevenTiedAt
import Derived.Stop.Joined
import Derived.Stop.LaidErr
import Derived.Deep.DeepHandedRow
import Derived.Lib.LaidU8
import Derived.LaidSub
import Derived.Deep.Slices
import Derived.Deep.Fields
import Derived.ChangeSame
import Derived.Maps.OwnSet
import Derived.Deep.RegionLaw
import Derived.Deep.RegionLawGrows
import Derived.StringKeys
import Derived.Sort.LotA
import Derived.Test.YthejgholpkeldaaGreatDoorYSameL
import Derived.Test.YthejgholpkeldaaGreatDoorYQOne
namespace Go.Proofs.YthejgholpkeldaaGreatDoor
open Go.RowKit
set_option maxRecDepth 100000

theorem apart_req : TyApart 53 [9] := ⟨by decide, by decide, by decide, by decide, by decide, by decide, by decide⟩
/-- What is read is no longer than the fields. -/
theorem readReq_short (rs : List Rec) (hs : ∀ r ∈ rs, ∀ f ∈ r.2, f.1.size < 1073741824) : ∀ x ∈ (readReq rs).ls, x.1.size ≤ 9223372036854775807 := by
  induction rs using snoc_ind with
  | h0 => intro x hx; simp [readReq, readAll] at hx
  | h1 rs r ih =>
    obtain ⟨line, fs⟩ := r
    have ih := ih fun r hr => hs r (List.mem_append_left _ hr)
    have hst : readReq (rs ++ [(line, fs)]) = gathStep 4 reqP reqOf (readReq rs) (line, fs) := by simp [readReq, readAll, List.foldl_append]
    rw [hst]
    unfold gathStep
    dsimp only
    split
    · split
      · exact ih
      · intro x hx
        rcases List.mem_append.1 hx with hx | hx
        · exact ih x hx
        · simp at hx
          subst hx
          have : (textAt fs 0).size < 1073741824 := by
            unfold textAt
            rw [List.getD_eq_getElem?_getD]
            cases hk : fs[0]? with
            | none => decide
            | some f => exact hs (line, fs) (by simp) _ (List.mem_of_getElem? hk)
          show (textAt fs 0).size ≤ _
          omega
    · exact ih
abbrev GQ (w0 : World) (u6 u7 u8 : Value) (ls : List Req) (lines : List Int) (ps : List Prob) (W : World) : Prop := GG kReq 53 [9] w0 u6 u7 u8 ls lines ps W
def ReadQGives (rs : List Rec) (w : World) (e : Ending) (w' : World) : Prop :=
  ∃ v6 v7 v8, e = .returned (.tuple #[v6, v7, v8]) ∧ GQ w v6 v7 v8 (readReq rs).ls (readReq rs).lines (readReq rs).ps w'
def ReadQLoop (rs : List Rec) (w : World) (v6 v7 v8 i : Value) (wr : World) : Prop :=
  ∃ j : Nat, j ≤ rs.length ∧ i = .int .i64 j ∧ GQ w v6 v7 v8 (readReq (rs.take j)).ls (readReq (rs.take j)).lines (readReq (rs.take j)).ps wr
set_option maxHeartbeats 8000000 in
theorem qread_walk (A : Option Addr) (rs : List Rec) (cap : Nat) (w : World) (hS : Std w) (hR : RecsAt w.heap.size w A rs) (hN : rs.length ≤ 4000000000000) (hs : ∀ r ∈ rs, ∀ f ∈ r.2, f.1.size < 1073741824) :
    Calls Tryz.prog 62 #[.slice A rs.length cap, .int .i64 4, .func (.func 63) #[] #[]] w fun e w' => ReadQGives rs w e w' := by
  have eg : ∀ args w, (callFunc 63 args).run Tryz.prog w = .ok (.enter 63 args) w := enters_of Tryz.func63 (by kernel_rfl) rfl
  obtain ⟨iP, hiP, hP0, hP1, hP2⟩ := info_parts infoProb
  obtain ⟨N, hNN⟩ : ∃ N, rs.length = N := ⟨_, rfl⟩
  have hbig := hS.big
  rw [hNN] at hN ⊢
  replace hNN := hide hNN
  replace hs := hide hs
  go_enter Tryz.func62, Tryz.ntmps62
  go_wp2
  go_loopw [6, 7, 8, 15] (fun v6 v7 v8 i wr => ReadQLoop rs w v6 v7 v8 i wr) (fun _ _ _ i _ => N - (intOf i).toNat)
  case atStart => exact ⟨0, Nat.zero_le _, rfl, Own.nil, Own.nil, World.ownsRow_nil _ _ _ _, Below.refl _ _⟩
  case round =>
    obtain ⟨j, hj, rfl, hG⟩ := hrel
    rw [hNN.out] at hj
    by_cases hlt : j < N
    · obtain ⟨r, hr⟩ : ∃ r, rs[j]? = some r := ⟨_, List.getElem?_eq_getElem (by rw [hNN.out]; exact hlt)⟩
      obtain ⟨rb, off, rfl, hrb, hcell⟩ := (hR.below hG.below) (by rw [hNN.out]; omega)
      obtain ⟨F, c, k0, k1, hF⟩ := hcell j r hr
      have hsr := hide (hs.out r (List.mem_of_getElem? hr))
      have hstep := hide (readAll_take (n := 4) (P := reqP) (f := reqOf) rs j r hr)
      obtain ⟨st, hst⟩ : ∃ st, readAll 4 reqP reqOf (rs.take j) = st := ⟨_, rfl⟩
      have hlen := readReq_len (rs.take j)
      have hshort := hide (readReq_short (rs.take j) (fun r hr => hs.out r (List.mem_of_mem_take hr)))
      rw [List.length_take, hNN.out] at hlen
      unfold readReq at hG hlen hshort
      rw [hst] at hG hlen hstep hshort
      obtain ⟨n1, n2, n3⟩ := hlen
      obtain ⟨line, fs⟩ := r
      dsimp only at k0 k1 hF hsr
      have hz := hG.below.size
      have hrb2 : rb < wr.heap.size := by omega
      have h3N : st.ps.length ≤ 4000000000000 := by omega
      have hSr := hS.after hG.below
      clear hcell hr hst hR n3
      replace n2 := hide n2
      obtain ⟨g, hg⟩ : ∃ g, wr.heap.size + 1 = g := ⟨_, rfl⟩
      have hsc0 : Scan ((wr.alloc (.cells #[.int .i64 line, .slice F fs.length c] 75)).alloc (.cells #[.int .i64 line, .slice F fs.length c, .int .i64 0, .pointer none] 129)) g line F fs.length c 0 none :=
        ⟨.pointer none, by rw [← hg]; exact heap_new2 _ _ _, rfl⟩
      have hb1 : Below wr.heap.size wr ((wr.alloc (.cells #[.int .i64 line, .slice F fs.length c] 75)).alloc (.cells #[.int .i64 line, .slice F fs.length c, .int .i64 0, .pointer none] 129)) := (by repeat (first | exact Below.refl _ _ | refine ext_alloc ?_ _ | refine ext_drewN ?_ _ | refine ext_drew ?_ | refine ext_trans ?_ (by assumption)))
      have q0 : ((wr.alloc (.cells #[.int .i64 line, .slice F fs.length c] 75)).alloc (.cells #[.int .i64 line, .slice F fs.length c, .int .i64 0, .pointer none] 129)).cell? ⟨wr.heap.size, 0, none⟩ = some (.int .i64 line) := by simp
      have hgw : wr.heap.size < g := by omega
      replace hg := hide hg
      obtain ⟨A6, c6, rfl⟩ := hG.ls.form
      have hu6 : Hid (∀ y, (Value.slice A6 st.ls.length c6).ownBlock = some y → y < wr.heap.size) := hide fun y e => (hG.ls.lt y e).2
      have hu7 : Hid (∀ y, u7.ownBlock = some y → y < wr.heap.size) := hide fun y e => (hG.ins.lt y e).2
      have hat := hG.ls.any'
      by_cases hm : fs.length = 4
      · have hm2 : ((fs.length : Int) != 4) = false := by simp; omega
        have h1s : ∀ k, (textAt fs k).size < 1073741824 := by
          intro k
          unfold textAt
          rw [List.getD_eq_getElem?_getD]
          cases hk : fs[k]? with
          | none => decide
          | some f => exact hsr.out _ (List.mem_of_getElem? hk)
        rw [show gathStep 4 reqP reqOf st (line, fs) = (match reqP line fs st.ls with | some p => ⟨st.ls, st.lines, st.ps ++ [p]⟩ | none => ⟨st.ls ++ [reqOf fs], st.lines ++ [line], st.ps⟩) from if_pos hm] at hstep
        replace hm := hide hm
        go_wp2_with fail
        rw [hg.out]
        refine (whole_walk g line F fs.length c 0 none false 9 _ hsc0).mono ?_
        rintro e w2 ⟨rfl, hs2, ho2⟩
        have hs2 : Scan w2 g line F fs.length c 0 none := hs2
        have c3 := scan_none hs2
        have hb2 : Below wr.heap.size wr w2 := hb1.trans (Only.below ho2 (by omega) hb1.size)
        have q2 := (ho2.cell (by rw [World.size_alloc, World.size_alloc]; omega) (by omega)).trans q0
        have hG2 := hG.later hb2
        have hS2 := hSr.after hb2
        have v1 : g < w2.heap.size := World.block_lt_of_cell? _ _ c3
        have v0 : wr.heap.size < w2.heap.size := World.block_lt_of_cell? _ _ q2
        have hF2 : FieldsAt w.heap.size w2 F fs := hF.below (hb2.mono hz)
        have hat2 : At kReq (· < g) w2 A6 st.ls := (hat.below hb2).up (by omega)
        have hbx : Below w2.heap.size w2 (w2.alloc (.cells #[.string ⟨#[]⟩, .string ⟨#[]⟩, .int .i64 0, .slice none 0 0] 53)) := ext_alloc (Below.refl _ _) _
        have hsx := hs2.later hbx
        have hFx := hF2.below (hbx.mono (by omega) : Below w.heap.size _ _)
        have hax := hat2.below (hbx.mono (by omega) : Below g _ _)
        have hcall := hide (qone_walk w.heap.size g line F fs c A6 st.ls c6 _ (hS2.after hbx) hsx hFx hm.out (by omega) hbig h1s (by omega) hshort.out hax)
        clear hsc0 hb1 q0 ho2 hG hb2 hF hat hat2 hF2 hsx hFx hax hSr hS2
        go_upto_region 9 with (go_at_fn 63; refine hcall.out.mono ?_; rintro e w3 ⟨a0, a1, nn, l9, v9, k, rfl, hown3, hs3, hP3, ho3⟩; obtain ⟨A9, c9, rfl⟩ := hown3.form; have x0 : w3.cell? ⟨w2.heap.size, 0, none⟩ = some (.string ⟨#[]⟩) := (ho3.cell (by simp) (by omega)).trans (by simp); have x1 : w3.cell? ⟨w2.heap.size, 1, none⟩ = some (.string ⟨#[]⟩) := (ho3.cell (by simp) (by omega)).trans (by simp); have x2 : w3.cell? ⟨w2.heap.size, 2, none⟩ = some (.int .i64 0) := (ho3.cell (by simp) (by omega)).trans (by simp); have x3 : w3.cell? ⟨w2.heap.size, 3, none⟩ = some (.slice none 0 0) := (ho3.cell (by simp) (by omega)).trans (by simp); have xf0 : w3.frozen? ⟨w2.heap.size, 0, none⟩ = false := (ho3.frozen (by simp) (by omega)).trans (by simp); have xf1 : w3.frozen? ⟨w2.heap.size, 1, none⟩ = false := (ho3.frozen (by simp) (by omega)).trans (by simp); have xf2 : w3.frozen? ⟨w2.heap.size, 2, none⟩ = false := (ho3.frozen (by simp) (by omega)).trans (by simp); have xf3 : w3.frozen? ⟨w2.heap.size, 3, none⟩ = false := (ho3.frozen (by simp) (by omega)).trans (by simp))
        have hgx : w2.heap.size ≠ g := by omega
        obtain ⟨y0, y1, y2, y3⟩ := set4q_cells (a := .string a0) (b := .string a1) (c := .int .i64 (nn : Int)) (d := .slice A9 l9.length c9) x0 x1 x2 x3
        have hs4 := set4q_scan (z := a0) (b2 := .string a1) (c2 := .int .i64 (nn : Int)) (d2 := .slice A9 l9.length c9) hs3 x0 hgx
        have ho4 : Only g w2 (set4q w3 w2.heap.size (.string a0) (.string a1) (.int .i64 (nn : Int)) (.slice A9 l9.length c9)) := set4q_only ((Only.later (Only.refl g w2) (ext_alloc (Below.refl _ _) _)).trans ho3) (Or.inr (Nat.le_refl _))
        have hxo : Only w2.heap.size w3 (set4q w3 w2.heap.size (.string a0) (.string a1) (.int .i64 (nn : Int)) (.slice A9 l9.length c9)) := set4q_only (Only.refl _ w3) (Or.inl rfl)
        have hown4 : Own kStr 9 [] 0 w.heap.size _ (.slice A9 l9.length c9) l9 := Own.lower (C := w.heap.size) (hown3.noting hxo (by rw [World.size_alloc]; omega)) (by rw [World.size_alloc]; omega)
        obtain ⟨U, hU⟩ : ∃ U, set4q w3 w2.heap.size (.string a0) (.string a1) (.int .i64 (nn : Int)) (.slice A9 l9.length c9) = U := ⟨_, rfl⟩
        rw [hU] at y0 y1 y2 y3 hs4 ho4 hown4
        unfold set4q at hU
        have hG4 := hG2.scan apart_req hs2 ho4 (by omega)
        have q4 := (ho4.cell v0 (by omega)).trans q2
        rw [hU]
        have hzU : w.heap.size ≤ U.heap.size := hG4.below.size
        clear hU x0 x1 x2 x3 xf0 xf1 xf2 xf3 hs3 ho3 ho4 hxo hG2 hs2 c3 q2 eg hcall hbx hown3
        cases hsp : reqP line fs st.ls with
        | some p =>
          rw [hsp] at hs4 hstep
          obtain ⟨line', col, er⟩ := p
          obtain ⟨h, c3, p0, p1, p2, p3⟩ := scan_some hs4
          dsimp only at p0 p1 p2 p3 hstep
          clear hsp hs4 y0 y1 y2 y3 q4 hP3 hown4
          have v1 : g < U.heap.size := World.block_lt_of_cell? _ _ c3
          have v2 : h < U.heap.size := World.block_lt_of_cell? _ _ p0
          go_wp2_with (at_builtin; refine wpList_append_own _ rfl _ _ 47 rfl w.heap.size 102 iP (.agg #[.int .i64 0, .int .i64 0, .int .i64 0, .int .i64 0]) 4 32 Tryz.underlying47 hiP hP0 hP1 hP2 rfl (by decide) _ _ _ rfl (hG4.alloc _).ps ⟨U.heap.size, 0, none⟩ 1 1 (encP (line', col, er)) rfl rfl (new_prob _ _ _ _ _) (one_prob _) ?c3 ?c4 ?c5 ?_)
          case c3 => unfold maxLen; omega
          case c4 => omega
          case c5 => rw [World.size_alloc]; omega
          intro v' w4 hPn hgrow _
          have hGn := (hG4.alloc _).prob (p := (line', col, er)) apart_req hgrow hPn
          clear hG4 c3 p0 p1 p2 p3 hPn hgrow
          go_wp2
          go_roundw
          case rel => exact ⟨j + 1, by rw [hNN.out]; omega, by go_num, by unfold readReq; rw [hstep.out]; exact hGn⟩
          case measure => simp [intOf]; omega
        | none =>
          rw [hsp] at hs4 hstep
          have hcur := hP3 hsp
          have c3 := scan_none hs4
          have v1 : g < U.heap.size := World.block_lt_of_cell? _ _ c3
          have v2 : w2.heap.size < U.heap.size := World.block_lt_of_cell? _ _ y0
          have v3 : wr.heap.size < U.heap.size := World.block_lt_of_cell? _ _ q4
          dsimp only at hstep
          rw [← hcur] at hstep
          have n32 : st.lines.length ≤ 100000 := by rw [n2.out]; omega
          have n31 : st.ls.length ≤ 100000 := by omega
          have hn6 : Hid (∀ k, wr.heap.size ≤ k → some k ≠ (Value.slice A6 st.ls.length c6).ownBlock) := hide fun k hk e => by have := hu6.out k e.symm; omega
          have hn7 : Hid (∀ k, wr.heap.size ≤ k → some k ≠ u7.ownBlock) := hide fun k hk e => by have := hu7.out k e.symm; omega
          have e1 := hide (hn6.out w2.heap.size (by omega))
          have e2 := hide (hn6.out wr.heap.size (Nat.le_refl _))
          have e3 := hide (hn7.out w2.heap.size (by omega))
          have e4 := hide (hn7.out wr.heap.size (Nat.le_refl _))
          clear hsp hs4 hcur hP3
          go_upto_region 11 with fail
          clear c3
          have hGd := hG4.drew
          have hSd : Cn5 w2.heap.size 0 ((.string a0)) w2.heap.size 1 ((.string a1)) w2.heap.size 2 ((.int .i64 (nn : Int))) w2.heap.size 3 ((.slice A9 l9.length c9)) wr.heap.size 0 ((.int .i64 line)) U.drew := ⟨y0, y1, y2, y3, q4⟩
          have hS0 : Cn5 w2.heap.size 0 ((.string a0)) w2.heap.size 1 ((.string a1)) w2.heap.size 2 ((.int .i64 (nn : Int))) w2.heap.size 3 ((.slice A9 l9.length c9)) wr.heap.size 0 ((.int .i64 line)) U := ⟨y0, y1, y2, y3, q4⟩
          have hownd := hown4.drew
          clear y0 y1 y2 y3 q4
          go_region_held3 (fun W' => W'.cell? ⟨w2.heap.size, 0, none⟩ = some ((.string a0)) ∧ W'.cell? ⟨w2.heap.size, 1, none⟩ = some ((.string a1)) ∧ W'.cell? ⟨w2.heap.size, 2, none⟩ = some ((.int .i64 (nn : Int))) ∧ W'.cell? ⟨w2.heap.size, 3, none⟩ = some ((.slice A9 l9.length c9)) ∧ W'.cell? ⟨wr.heap.size, 0, none⟩ = some ((.int .i64 line))) (first | ((repeat (first | (with_reducible assumption) | (with_reducible refine Cn5.alloc ?_ _) | (with_reducible refine Cn5.drew ?_) | (with_reducible refine Cn5.set ?_ ?_ ?_ ?_ ?_ ?_ _) | omega)); done)) (first | (refine stepg_ls (S := Cn5 w2.heap.size 0 ((.string a0)) w2.heap.size 1 ((.string a1)) w2.heap.size 2 ((.int .i64 (nn : Int))) w2.heap.size 3 ((.slice A9 l9.length c9)) wr.heap.size 0 ((.int .i64 line))) (K := kReq) (t := 53) (ts := [9]) (t2 := 27) (bytes := 64) (w0 := w) (u6 := .slice A6 st.ls.length c6) (u7 := u7) (u8 := u8) (ls := st.ls) (lines := st.lines) (ps := st.ps) apart_req apd_reqs (by decide) (by decide) rfl (.tmp 52) (.tmp 54) rfl (by rfl) (by repeat (first | (with_reducible assumption) | (with_reducible refine GG.alloc ?_ _) | (with_reducible refine GG.drew ?_))) n31 _ _ (by rfl) (a0, a1, (nn : Int), l9) [.string a0, .string a1, .int .i64 (nn : Int), .slice A9 l9.length c9] (req_rep (Own.rep (by repeat (first | (with_reducible assumption) | (with_reducible refine Own.alloc ?_ _) | (with_reducible refine Own.drew ?_))))) (World.news_of_block (cs := #[.string a0, .string a1, .int .i64 (nn : Int), .slice A9 l9.length c9]) (t := 53) (fr := (0, 0)) (by first | exact heap_alloc_new _ _ | exact heap_new2 _ _ _ | exact (Below.heap_alloc _ _ _ (by first | (simp; done) | (simp; omega))).trans (heap_alloc_new _ _))) (fun W' hg => Cn5.grown (by repeat (first | (with_reducible assumption) | (with_reducible refine Cn5.alloc ?_ _) | (with_reducible refine Cn5.drew ?_))) hg e1.out e1.out e1.out e1.out e2.out) ?_; intro gA capA w4 hg2 hgrow hs4) | (refine stepg_ins (S := Cn5 w2.heap.size 0 ((.string a0)) w2.heap.size 1 ((.string a1)) w2.heap.size 2 ((.int .i64 (nn : Int))) w2.heap.size 3 ((.slice A9 l9.length c9)) wr.heap.size 0 ((.int .i64 line))) (K := kReq) (t := 53) (ts := [9]) (w0 := w) (u6 := .slice (some ⟨gA, 0, none⟩) (st.ls.length + 1) capA) (u7 := u7) (u8 := u8) (ls := st.ls ++ [(a0, a1, (nn : Int), l9)]) (lines := st.lines) (ps := st.ps) apart_req rfl (.tmp 56) (.tmp 59) rfl (by rfl) (by repeat (first | (with_reducible assumption) | (with_reducible refine GG.alloc ?_ _) | (with_reducible refine GG.drew ?_))) n32 _ _ (by rfl) line (World.news_of_block (cs := #[.int .i64 line]) (t := 3) (fr := (0, 0)) (by first | exact heap_alloc_new _ _ | exact heap_new2 _ _ _ | exact (Below.heap_alloc _ _ _ (by first | (simp; done) | (simp; omega))).trans (heap_alloc_new _ _) | exact (hgrow.block _ (by first | (simp; done) | (simp; omega)) (hn6.out _ (by first | omega | (simp; done) | (simp; omega)))).trans (by first | exact heap_alloc_new _ _ | exact heap_new2 _ _ _ | exact (Below.heap_alloc _ _ _ (by first | (simp; done) | (simp; omega))).trans (heap_alloc_new _ _)))) (fun W' hg => Cn5.grown (by repeat (first | (with_reducible assumption) | (with_reducible refine Cn5.alloc ?_ _) | (with_reducible refine Cn5.drew ?_))) hg e3.out e3.out e3.out e3.out e4.out) ?_; intro gB capB w5 hg3 hgrow3 hs5))
          all_goals
            clear hGd hSd hS0 hG4 hown4 hownd
            go_wp2
            go_roundw
            case rel => exact ⟨j + 1, by rw [hNN.out]; omega, by go_num, by unfold readReq; rw [hstep.out]; exact hg3⟩
            case measure => simp [intOf]; omega
      · have hm2 : ((fs.length : Int) != 4) = true := by simp; omega
        rw [show gathStep 4 reqP reqOf st (line, fs) = ⟨st.ls, st.lines, st.ps ++ [(line, 0, 9)]⟩ from if_neg hm] at hstep
        replace hm := hide hm
        clear hat hSr
        go_wp2_with fail
        rw [hg.out]
        refine (whole_walk g line F fs.length c 0 none true 9 _ hsc0).mono ?_
        rintro e w2 ⟨rfl, hs2, ho2⟩
        obtain ⟨h, c3, p0, p1, p2, p3⟩ := scan_some hs2
        have hb2 : Below wr.heap.size wr w2 := hb1.trans (Only.below ho2 (by omega) hb1.size)
        have hG2 := hG.later hb2
        clear hsc0 hb1 q0 hs2 ho2 hG
        dsimp only at p0 p1 p2 p3
        have v1 := World.block_lt_of_cell? _ _ c3
        have v2 := World.block_lt_of_cell? _ _ p0
        have hz2 := hG2.below.size
        go_wp2_with (at_builtin; refine wpList_append_own _ rfl _ _ 47 rfl w.heap.size 102 iP (.agg #[.int .i64 0, .int .i64 0, .int .i64 0, .int .i64 0]) 4 32 Tryz.underlying47 hiP hP0 hP1 hP2 rfl (by decide) _ _ _ rfl ((hG2.alloc _).alloc _).ps ⟨w2.heap.size + 1, 0, none⟩ 1 1 (encP (line, 0, 9)) rfl rfl ?c0 (one_prob _) ?c3 ?c4 ?c5 ?_)
        case c0 => exact new_prob2 _ _ _ _ _ _
        case c3 => unfold maxLen; omega
        case c4 => omega
        case c5 => rw [World.size_alloc, World.size_alloc]; omega
        intro v' w4 hPn hgrow _
        have hGn := ((hG2.alloc _).alloc _).prob (p := (line, 0, 9)) apart_req hgrow hPn
        clear hG2 c3 p0 p1 p2 p3 hb2 hPn hgrow
        go_wp2
        go_roundw
        case rel => exact ⟨j + 1, by rw [hNN.out]; omega, by go_num, by unfold readReq; rw [hstep.out]; exact hGn⟩
        case measure => simp [intOf]; omega
    · obtain rfl : j = N := by omega
      have hall : Hid (rs.take j = rs) := hide (by rw [← hNN.out]; exact List.take_length)
      rw [hall.out] at hG
      clear hall
      go_wp2
      go_ret3
      exact ⟨_, _, _, rfl, hG⟩
theorem qlines_walk (A : Option Addr) (rs : List Rec) (cap : Nat) (w : World) (hS : Std w) (hR : RecsAt w.heap.size w A rs) (hN : rs.length ≤ 4000000000000) (hs : ∀ r ∈ rs, ∀ f ∈ r.2, f.1.size < 1073741824) :
    Calls Tryz.prog 40 #[.slice A rs.length cap] w fun e w' => ReadQGives rs w e w' := by
  have hcall := qread_walk A rs cap w hS hR hN hs
  clear hR hN hs hS
  obtain ⟨N, hNN⟩ : ∃ N, rs.length = N := ⟨_, rfl⟩
  rw [hNN] at hcall ⊢
  clear hNN
  go_enter Tryz.func40, Tryz.ntmps40
  go_wp2_with fail
  refine hcall.mono ?_
  clear hcall
  rintro e w' ⟨v6, v7, v8, rfl, hG⟩
  go_wp2
  go_ret3
  exact ⟨_, _, _, rfl, hG⟩
def ReqReads (rs : List Rec) (w : World) (e : Ending) (w' : World) : Prop :=
  ∃ v6 v8, e = .returned (.tuple #[v6, v8]) ∧ Own kReq 53 [9] 0 w.heap.size w' v6 (readReq rs).ls ∧ ProbsOwn w.heap.size w' v8 (readReq rs).ps ∧ Below w.heap.size w w'
theorem qRead_walk (A : Option Addr) (rs : List Rec) (cap : Nat) (w : World) (hS : Std w) (hR : RecsAt w.heap.size w A rs) (hN : rs.length ≤ 4000000000000) (hs : ∀ r ∈ rs, ∀ f ∈ r.2, f.1.size < 1073741824) :
    Calls Tryz.prog 19 #[.slice A rs.length cap] w fun e w' => ReqReads rs w e w' := by
  have hcall := qlines_walk A rs cap w hS hR hN hs
  clear hR hN hs hS
  obtain ⟨N, hNN⟩ : ∃ N, rs.length = N := ⟨_, rfl⟩
  rw [hNN] at hcall ⊢
  clear hNN
  go_enter Tryz.func19, Tryz.ntmps19
  go_wp2_with fail
  refine hcall.mono ?_
  clear hcall
  rintro e w' ⟨v6, v7, v8, rfl, hG⟩
  go_wp2
  go_ret2
  exact ⟨_, _, rfl, hG.ls, hG.ps, hG.below⟩
end Go.Proofs.YthejgholpkeldaaGreatDoor

namespace Go.Proofs.YthejgholpkeldaaGreatDoor
open Go.RowKit
set_option maxRecDepth 100000

theorem heap3c (w : World) (o1 o2 o3 : Obj) : (((w.alloc o1).alloc o2).alloc o3).heap[w.heap.size]? = some o1 ∧ (((w.alloc o1).alloc o2).alloc o3).heap[w.heap.size + 1]? = some o2 ∧ (((w.alloc o1).alloc o2).alloc o3).heap[w.heap.size + 2]? = some o3 := by
  have s1 : (w.alloc o1).heap.size = w.heap.size + 1 := World.size_alloc _ _
  have s2 : ((w.alloc o1).alloc o2).heap.size = w.heap.size + 2 := by rw [World.size_alloc, s1]
  refine ⟨?_, ?_, heap_new3 _ _ _ _⟩
  · rw [Below.heap_alloc _ _ _ (by omega), Below.heap_alloc _ _ _ (by omega)]; exact heap_alloc_new _ _
  · rw [Below.heap_alloc _ _ _ (by omega)]; exact heap_new2 _ _ _
end Go.Proofs.YthejgholpkeldaaGreatDoor
