/- Walk of fields.Read at classes. Conditions: texts shorter than 2^30 bytes; what the program's variables hold. Walks of coursefile.Lines and coursefile.Read. Conditions: texts shorter than 2^30 bytes; what the program's variables hold. -/
import Derived.Test.YtimcdikeajbabaaGreatDoorRows
import Derived.WalkKit
import Derived.WalkSpells
import Derived.WalkLawsBesides
import Derived.BigGuardPart
import Derived.Lib.Hide
import Derived.Laws.BitsAllLaws
import Derived.Laws.BitsLemmas
import Derived.Lib.LaidTab
import Derived.Test.YtimcdikeajbabaaGreatDoorShelf
import Derived.Lib.ConvBytes
import Derived.Deep.QuietTactic
import Derived.BigQuiet
import Derived.Test.YtimcdikeajbabaaGreatDoorShelfS
import Derived.Laws.ResultCell
import Derived.RegionTactic
import Derived.BigRegion
import Derived.Deep.RegionHeld3
import Derived.Deep.DeepCutAuto
import Derived.Lib.SmallJoins
import Derived.Lib.SplitLaws
import Derived.Lib.CountLaws
import Derived.Lib.IndexMore
import Derived.Lib.Split
import Derived.Lib.Join
import Derived.Lib.ItoaNum
import Derived.Laws.AppendOwn
import Derived.Test.YtimcdikeajbabaaGreatDoorShelfT
import Derived.Lib.ItoaLen
import Derived.Lib.AppendIntMem
import Derived.Deep.AppendLies
import Derived.Lib.PathFns
import Derived.Maps.Range
import Derived.Lib.OwnBridge
import Derived.Sort.OwnSorted
import Derived.Sort.Walk0
import Derived.Test.YtimcdikeajbabaaGreatDoorCards
import Derived.Test.YtimcdikeajbabaaGreatDoorTie
import Derived.ProofKit
import Derived.OpenShut
import Derived.LaidMore
import Derived.Lay
import Derived.SevenTiedAt
import Derived.Stop.Joined
import Derived.Stop.LaidErr
import Derived.Deep.DeepHandedRow
import Derived.Lib.LaidU8
import Derived.LaidSub
import Derived.Deep.Slices
import Derived.Deep.Fields
import Derived.ChangeSame
import Derived.Shelf.SlSortCmp.NoneTotal
import Derived.Ground.SlsfProg
import Derived.Lib.SliceRun
import Derived.Lib.Walk
import Derived.RangeFuncNested
import Derived.RangeFuncBound
import Derived.RangeFuncCalls
import Derived.RangeFuncLeaves
import Derived.RangeFuncBox
import Derived.RangeFuncWrites
import Derived.Shelf.Abstract
import Derived.Shelf.RegionOpen
import Derived.OwnWalkIn
import Derived.TacticsInMore
import Derived.LoopNIn
import Derived.LoopIn
import Derived.Maps.AppendAt
import Derived.Deep.RegionLaw
import Derived.Deep.RegionLawGrows
import Derived.Test.YtimcdikeajbabaaGreatDoorQKOne
import Derived.Test.YtimcdikeajbabaaGreatDoorQKGath
import Derived.Test.YtimcdikeajbabaaGreatDoorQStaffB
namespace Go.Proofs.YtimcdikeajbabaaGreatDoor
open Go.RowKit
set_option maxRecDepth 100000

def ReadKGives (d sl _b _m n : Int) (rs : List Rec) (w : World) (e : Ending) (w' : World) : Prop :=
  ∃ v6 v7 v8, e = .returned (.tuple #[v6, v7, v8]) ∧ GK w v6 v7 v8 (readCls d sl n rs).ls (readCls d sl n rs).lines (readCls d sl n rs).ps w'
def ReadKLoop (d sl _b _m n : Int) (rs : List Rec) (w : World) (v6 v7 v8 i : Value) (wr : World) : Prop :=
  ∃ j : Nat, j ≤ rs.length ∧ i = .int .i64 j ∧ GK w v6 v7 v8 (readCls d sl n (rs.take j)).ls (readCls d sl n (rs.take j)).lines (readCls d sl n (rs.take j)).ps wr
set_option maxHeartbeats 8000000 in
theorem kread_walk (gb nb : Nat) (d sl b m n : Int) (A : Option Addr) (rs : List Rec) (cap : Nat) (w : World) (hS : Std w) (hCl : Cl gb nb d sl b m n w) (hR : RecsAt w.heap.size w A rs) (hN : rs.length ≤ 4000000000000) (hs : ∀ r ∈ rs, ∀ f ∈ r.2, f.1.size < 1073741824) (hsl : 1 ≤ sl ∧ sl ≤ 24) :
    Calls Tryz.prog 64 #[.slice A rs.length cap, .int .i64 9, .func (.func 65) #[] #[.pointer (some ⟨gb, 0, none⟩), .pointer (some ⟨nb, 0, none⟩)]] w fun e w' => ReadKGives d sl b m n rs w e w' := by
  have eg : ∀ args w, (callFunc 65 args).run Tryz.prog w = .ok (.enter 65 args) w := enters_of Tryz.func65 (by kernel_rfl) rfl
  obtain ⟨iP, hiP, hP0, hP1, hP2⟩ := info_parts infoProb
  obtain ⟨N, hNN⟩ : ∃ N, rs.length = N := ⟨_, rfl⟩
  have hbig := hS.big
  rw [hNN] at hN ⊢
  replace hNN := hide hNN
  replace hs := hide hs
  go_enter Tryz.func64, Tryz.ntmps64
  go_wp2
  go_loopw [6, 7, 8, 15] (fun v6 v7 v8 i wr => ReadKLoop d sl b m n rs w v6 v7 v8 i wr) (fun _ _ _ i _ => N - (intOf i).toNat)
  case atStart => exact ⟨0, Nat.zero_le _, rfl, OwnO.nil, Own.nil, World.ownsRow_nil _ _ _ _, Below.refl _ _⟩
  case round =>
    obtain ⟨j, hj, rfl, hG⟩ := hrel
    rw [hNN.out] at hj
    by_cases hlt : j < N
    · obtain ⟨r, hr⟩ : ∃ r, rs[j]? = some r := ⟨_, List.getElem?_eq_getElem (by rw [hNN.out]; exact hlt)⟩
      obtain ⟨rb, off, rfl, hrb, hcell⟩ := (hR.below hG.below) (by rw [hNN.out]; omega)
      obtain ⟨F, c, k0, k1, hF⟩ := hcell j r hr
      have hsr := hide (hs.out r (List.mem_of_getElem? hr))
      have hstep := hide (readAll_take (n := 9) (P := clsP d sl n) (f := clsOf d sl n) rs j r hr)
      obtain ⟨st, hst⟩ : ∃ st, readAll 9 (clsP d sl n) (clsOf d sl n) (rs.take j) = st := ⟨_, rfl⟩
      have hlen := readCls_len d sl n (rs.take j)
      rw [List.length_take, hNN.out] at hlen
      unfold readCls at hG hlen
      rw [hst] at hG hlen hstep
      obtain ⟨n1, n2, n3⟩ := hlen
      obtain ⟨line, fs⟩ := r
      dsimp only at k0 k1 hF hsr
      have hz := hG.below.size
      have hrb2 : rb < wr.heap.size := by omega
      have h3N : st.ps.length ≤ 4000000000000 := by omega
      have hSr := hS.after hG.below
      clear hcell hr hst hR n3
      replace n2 := hide n2
      obtain ⟨g, hg⟩ : ∃ g, wr.heap.size + 1 = g := ⟨_, rfl⟩
      have hsc0 : Scan ((wr.alloc (.cells #[.int .i64 line, .slice F fs.length c] 27)).alloc (.cells #[.int .i64 line, .slice F fs.length c, .int .i64 0, .pointer none] 149)) g line F fs.length c 0 none :=
        ⟨.pointer none, by rw [← hg]; exact heap_new2 _ _ _, rfl⟩
      have hb1 : Below wr.heap.size wr ((wr.alloc (.cells #[.int .i64 line, .slice F fs.length c] 27)).alloc (.cells #[.int .i64 line, .slice F fs.length c, .int .i64 0, .pointer none] 149)) := (by repeat (first | exact Below.refl _ _ | refine ext_alloc ?_ _ | refine ext_drewN ?_ _ | refine ext_drew ?_ | refine ext_trans ?_ (by assumption)))
      have q0 : ((wr.alloc (.cells #[.int .i64 line, .slice F fs.length c] 27)).alloc (.cells #[.int .i64 line, .slice F fs.length c, .int .i64 0, .pointer none] 149)).cell? ⟨wr.heap.size, 0, none⟩ = some (.int .i64 line) := by simp
      have hgw : wr.heap.size < g := by omega
      replace hg := hide hg
      obtain ⟨A6, c6, rfl⟩ := hG.own.form
      have hu6 : Hid (∀ y, (Value.slice A6 st.ls.length c6).ownBlock = some y → y < wr.heap.size) := hide fun y e => (hG.own.lt y e).2
      have hu7 : Hid (∀ y, u7.ownBlock = some y → y < wr.heap.size) := hide fun y e => (hG.ins.lt y e).2
      have hat := hG.own.any'
      have hwz : Hid (w.heap.size ≤ wr.heap.size) := hide hz
      by_cases hm : fs.length = 9
      · have hm2 : ((fs.length : Int) != 9) = false := by simp; omega
        have h1s : ∀ k, (textAt fs k).size < 1073741824 := by
          intro k
          unfold textAt
          rw [List.getD_eq_getElem?_getD]
          cases hk : fs[k]? with
          | none => decide
          | some f => exact hsr.out _ (List.mem_of_getElem? hk)
        rw [show gathStep 9 (clsP d sl n) (clsOf d sl n) st (line, fs) = (match clsP d sl n line fs st.ls with | some p => ⟨st.ls, st.lines, st.ps ++ [p]⟩ | none => ⟨st.ls ++ [clsOf d sl n fs], st.lines ++ [line], st.ps⟩) from if_pos hm] at hstep
        replace hm := hide hm
        go_wp2_with fail
        rw [hg.out]
        refine (whole_walk g line F fs.length c 0 none false 9 _ hsc0).mono ?_
        rintro e w2 ⟨rfl, hs2, ho2⟩
        have hs2 : Scan w2 g line F fs.length c 0 none := hs2
        have c3 := scan_none hs2
        have hb2 : Below wr.heap.size wr w2 := hb1.trans (Only.below ho2 (by omega) hb1.size)
        have q2 := (ho2.cell (by rw [World.size_alloc, World.size_alloc]; omega) (by omega)).trans q0
        have hG2 := hG.later hb2
        have hS2 := hSr.after hb2
        have v1 : g < w2.heap.size := World.block_lt_of_cell? _ _ c3
        have v0 : wr.heap.size < w2.heap.size := World.block_lt_of_cell? _ _ q2
        have hF2 : FieldsAt w.heap.size w2 F fs := hF.below (hb2.mono hz)
        have hat2 : At kCls (· < g) w2 A6 st.ls := (hat.below hb2).up (by omega)
        have hbx : Below w2.heap.size w2 (w2.alloc (.cells #[.string ⟨#[]⟩, .string ⟨#[]⟩, .string ⟨#[]⟩, .int .i64 0, .slice none 0 0, .int .i64 0, .slice none 0 0, .slice none 0 0, .slice none 0 0] 47)) := ext_alloc (Below.refl _ _) _
        have hsx := hs2.later hbx
        have hFx := hF2.below (hbx.mono (by omega) : Below w.heap.size _ _)
        have hax := hat2.below (hbx.mono (by omega) : Below g _ _)
        have hcall := hide (kone_walk w.heap.size gb nb g d sl b m n line F fs c A6 st.ls c6 _ (hS2.after hbx) ((hCl.later (ext_trans hG2.below hbx))) (by have := hCl.lt.1; omega) (by have := hCl.lt.2; omega) hsx hFx hm.out (by omega) hbig h1s (by omega) hax hsl)
        clear hsc0 hb1 q0 ho2 hG hb2 hF hat hat2 hF2 hsx hFx hax hSr hS2
        have hbox := (cbox_new w2 ⟨⟨#[]⟩, ⟨#[]⟩, ⟨#[]⟩, 0, none, 0, 0, 0, none, 0, 0, none, 0, 0, none, 0, 0⟩)
        have hzx : (w2.alloc (.cells (cboxV ⟨⟨#[]⟩, ⟨#[]⟩, ⟨#[]⟩, 0, none, 0, 0, 0, none, 0, 0, none, 0, 0, none, 0, 0⟩) 47)).heap.size = w2.heap.size + 1 := World.size_alloc _ _
        go_upto_region 9 with (go_at_fn 65; refine hcall.out.mono ?_; rintro e w3 ⟨⟨z, co, pa, nl, A4, n4, c4, mm, Aa, n6, c6', Ab, n7, c7, Ac, n8, c8⟩, ps, f6, f7, ss, k, rfl, o4, o6, o7, o8, hs3, hP3, ho3⟩; dsimp only [cboxV] at o4 o6 o7 o8 hP3 ⊢; have hbox3 := hbox.only ho3 (by omega); have x0 := hbox3.c0; have x1 := hbox3.c1; have x2 := hbox3.c2; have x3 := hbox3.c3; have x4 := hbox3.c4; have x5 := hbox3.c5; have x6 := hbox3.c6; have x7 := hbox3.c7; have x8 := hbox3.c8; dsimp only at x0 x1 x2 x3 x4 x5 x6 x7 x8; have xf0 := hbox3.free 0; have xf1 := hbox3.free 1; have xf2 := hbox3.free 2; have xf3 := hbox3.free 3; have xf4 := hbox3.free 4; have xf5 := hbox3.free 5; have xf6 := hbox3.free 6; have xf7 := hbox3.free 7; have xf8 := hbox3.free 8)
        have hgx : w2.heap.size ≠ g := by omega
        have hbox4 := set9_box (q := ⟨z, co, pa, nl, A4, n4, c4, mm, Aa, n6, c6', Ab, n7, c7, Ac, n8, c8⟩) hbox3
        have hs4 := set9_scan (q := ⟨z, co, pa, nl, A4, n4, c4, mm, Aa, n6, c6', Ab, n7, c7, Ac, n8, c8⟩) hs3 hbox3 hgx
        have ho4 : Only g w2 (set9 w3 w2.heap.size ⟨z, co, pa, nl, A4, n4, c4, mm, Aa, n6, c6', Ab, n7, c7, Ac, n8, c8⟩) := set9_only ((Only.later (Only.refl g w2) (ext_alloc (Below.refl _ _) _)).trans ho3) (Or.inr (Nat.le_refl _))
        have hxo : Only w2.heap.size w3 (set9 w3 w2.heap.size ⟨z, co, pa, nl, A4, n4, c4, mm, Aa, n6, c6', Ab, n7, c7, Ac, n8, c8⟩) := set9_only (Only.refl _ w3) (Or.inl rfl)
        have hlo : wr.heap.size ≤ w2.heap.size := by omega
        have p4 := (o4.noteT hxo (by rw [World.size_alloc]; omega)).lower (C := wr.heap.size) (by rw [World.size_alloc]; omega)
        have p6 := (o6.noteT hxo (by rw [World.size_alloc]; omega)).lower (C := wr.heap.size) (by rw [World.size_alloc]; omega)
        have p7 := (o7.noteT hxo (by rw [World.size_alloc]; omega)).lower (C := wr.heap.size) (by rw [World.size_alloc]; omega)
        have p8 := (o8.noteT hxo (by rw [World.size_alloc]; omega)).lower (C := wr.heap.size) (by rw [World.size_alloc]; omega)
        obtain ⟨U, hU⟩ : ∃ U, set9 w3 w2.heap.size ⟨z, co, pa, nl, A4, n4, c4, mm, Aa, n6, c6', Ab, n7, c7, Ac, n8, c8⟩ = U := ⟨_, rfl⟩
        rw [hU] at hbox4 hs4 ho4 p4 p6 p7 p8
        unfold set9 at hU
        dsimp only at hU
        have hG4 := hG2.scan hs2 ho4 (by omega)
        have q4 := (ho4.cell v0 (by omega)).trans q2
        rw [hU]
        have hzU : w.heap.size ≤ U.heap.size := hG4.below.size
        have y0 := hbox4.c0; have y1 := hbox4.c1; have y2 := hbox4.c2; have y3 := hbox4.c3; have y4 := hbox4.c4; have y5 := hbox4.c5; have y6 := hbox4.c6; have y7 := hbox4.c7; have y8 := hbox4.c8
        dsimp only at y0 y1 y2 y3 y4 y5 y6 y7 y8
        clear hU x0 x1 x2 x3 x4 x5 x6 x7 x8 xf0 xf1 xf2 xf3 xf4 xf5 xf6 xf7 xf8 hs3 ho3 ho4 o4 o6 o7 o8 hxo hG2 hs2 c3 q2 eg hcall hbx hbox hbox3 hbox4 hzx
        cases hsp : clsP d sl n line fs st.ls with
        | some p =>
          rw [hsp] at hs4 hstep
          obtain ⟨line', col, er⟩ := p
          obtain ⟨h, c3, p0, p1, p2, p3⟩ := scan_some hs4
          dsimp only at p0 p1 p2 p3 hstep
          clear hsp hs4 y0 y1 y2 y3 y4 y5 y6 y7 y8 q4 hP3 p4 p6 p7 p8
          have v1 : g < U.heap.size := World.block_lt_of_cell? _ _ c3
          have v2 : h < U.heap.size := World.block_lt_of_cell? _ _ p0
          go_wp2_with (at_builtin; refine wpList_append_own _ rfl _ _ 30 rfl w.heap.size 74 iP (.agg #[.int .i64 0, .int .i64 0, .int .i64 0, .int .i64 0]) 4 32 Tryz.underlying30 hiP hP0 hP1 hP2 rfl (by decide) _ _ _ rfl (hG4.alloc _).ps ⟨U.heap.size, 0, none⟩ 1 1 (encP (line', col, er)) rfl rfl (new_prob _ _ _ _ _) (one_prob _) ?c3 ?c4 ?c5 ?_)
          case c3 => unfold maxLen; omega
          case c4 => omega
          case c5 => rw [World.size_alloc]; omega
          intro v' w4 hPn hgrow _
          have hGn := (hG4.alloc _).prob (p := (line', col, er)) hgrow hPn
          clear hG4 c3 p0 p1 p2 p3 hPn hgrow
          go_wp2
          go_roundw
          case rel => exact ⟨j + 1, by rw [hNN.out]; omega, by go_num, by unfold readCls; rw [hstep.out]; exact hGn⟩
          case measure => simp [intOf]; omega
        | none =>
          rw [hsp] at hs4 hstep
          have hcur := hP3 hsp
          have c3 := scan_none hs4
          have v1 : g < U.heap.size := World.block_lt_of_cell? _ _ c3
          have v2 : w2.heap.size < U.heap.size := World.block_lt_of_cell? _ _ y0
          have v3 : wr.heap.size < U.heap.size := World.block_lt_of_cell? _ _ q4
          dsimp only at hstep
          rw [← hcur] at hstep
          have n32 : st.lines.length ≤ 100000 := by rw [n2.out]; omega
          have n31 : st.ls.length ≤ 100000 := by omega
          have hn6 : Hid (∀ k, wr.heap.size ≤ k → some k ≠ (Value.slice A6 st.ls.length c6).ownBlock) := hide fun k hk e => by have := hu6.out k e.symm; omega
          have hn7 : Hid (∀ k, wr.heap.size ≤ k → some k ≠ u7.ownBlock) := hide fun k hk e => by have := hu7.out k e.symm; omega
          have e1 := hide (hn6.out w2.heap.size (by omega))
          have e2 := hide (hn6.out wr.heap.size (Nat.le_refl _))
          have e3 := hide (hn7.out w2.heap.size (by omega))
          have e4 := hide (hn7.out wr.heap.size (Nat.le_refl _))
          clear hsp hs4 hcur hP3
          go_upto_region 11 with fail
          clear c3
          have hGd := hG4.drew
          have hSd : Cn10 w2.heap.size 0 ((.string z)) w2.heap.size 1 ((.string co)) w2.heap.size 2 ((.string pa)) w2.heap.size 3 ((.int .i64 nl)) w2.heap.size 4 ((.slice A4 n4 c4)) w2.heap.size 5 ((.int .i64 mm)) w2.heap.size 6 ((.slice Aa n6 c6')) w2.heap.size 7 ((.slice Ab n7 c7)) w2.heap.size 8 ((.slice Ac n8 c8)) wr.heap.size 0 ((.int .i64 line)) U.drew := ⟨y0, y1, y2, y3, y4, y5, y6, y7, y8, q4⟩
          have hS0 : Cn10 w2.heap.size 0 ((.string z)) w2.heap.size 1 ((.string co)) w2.heap.size 2 ((.string pa)) w2.heap.size 3 ((.int .i64 nl)) w2.heap.size 4 ((.slice A4 n4 c4)) w2.heap.size 5 ((.int .i64 mm)) w2.heap.size 6 ((.slice Aa n6 c6')) w2.heap.size 7 ((.slice Ab n7 c7)) w2.heap.size 8 ((.slice Ac n8 c8)) wr.heap.size 0 ((.int .i64 line)) U := ⟨y0, y1, y2, y3, y4, y5, y6, y7, y8, q4⟩
          have p4d := p4.drew
          have p6d := p6.drew
          have p7d := p7.drew
          have p8d := p8.drew
          clear y0 y1 y2 y3 y4 y5 y6 y7 y8 q4
          go_region_held3 (fun W' => W'.cell? ⟨w2.heap.size, 0, none⟩ = some ((.string z)) ∧ W'.cell? ⟨w2.heap.size, 1, none⟩ = some ((.string co)) ∧ W'.cell? ⟨w2.heap.size, 2, none⟩ = some ((.string pa)) ∧ W'.cell? ⟨w2.heap.size, 3, none⟩ = some ((.int .i64 nl)) ∧ W'.cell? ⟨w2.heap.size, 4, none⟩ = some ((.slice A4 n4 c4)) ∧ W'.cell? ⟨w2.heap.size, 5, none⟩ = some ((.int .i64 mm)) ∧ W'.cell? ⟨w2.heap.size, 6, none⟩ = some ((.slice Aa n6 c6')) ∧ W'.cell? ⟨w2.heap.size, 7, none⟩ = some ((.slice Ab n7 c7)) ∧ W'.cell? ⟨w2.heap.size, 8, none⟩ = some ((.slice Ac n8 c8)) ∧ W'.cell? ⟨wr.heap.size, 0, none⟩ = some ((.int .i64 line))) (first | ((repeat (first | (with_reducible assumption) | (with_reducible refine Cn10.alloc ?_ _) | (with_reducible refine Cn10.drew ?_) | (with_reducible refine Cn10.set ?_ ?_ ?_ ?_ ?_ ?_ ?_ ?_ ?_ ?_ ?_ _) | omega)); done)) (first | (refine stepk_ls (S := Cn10 w2.heap.size 0 ((.string z)) w2.heap.size 1 ((.string co)) w2.heap.size 2 ((.string pa)) w2.heap.size 3 ((.int .i64 nl)) w2.heap.size 4 ((.slice A4 n4 c4)) w2.heap.size 5 ((.int .i64 mm)) w2.heap.size 6 ((.slice Aa n6 c6')) w2.heap.size 7 ((.slice Ab n7 c7)) w2.heap.size 8 ((.slice Ac n8 c8)) wr.heap.size 0 ((.int .i64 line))) (w0 := w) (u6 := .slice A6 st.ls.length c6) (u7 := u7) (u8 := u8) (ls := st.ls) (lines := st.lines) (ps := st.ps) rfl (.tmp 52) (.tmp 54) rfl (by rfl) (by repeat (first | (with_reducible assumption) | (with_reducible refine GK.alloc ?_ _) | (with_reducible refine GK.drew ?_))) n31 _ _ (by rfl) (z, co, pa, nl, ps, mm, f6, f7, ss) [.string z, .string co, .string pa, .int .i64 nl, .slice A4 n4 c4, .int .i64 mm, .slice Aa n6 c6', .slice Ab n7 c7, .slice Ac n8 c8] (cls_rep (q := ⟨z, co, pa, nl, A4, n4, c4, mm, Aa, n6, c6', Ab, n7, c7, Ac, n8, c8⟩) (own_repS (K := kInt) (t := 3) (B := wr.heap.size) (by repeat (first | (with_reducible assumption) | (with_reducible refine Own.alloc ?_ _) | (with_reducible refine Own.drew ?_))) (by decide) hwz.out hu7.out) (own_repS (K := kStr) (t := 9) (B := wr.heap.size) (by repeat (first | (with_reducible assumption) | (with_reducible refine Own.alloc ?_ _) | (with_reducible refine Own.drew ?_))) (by decide) hwz.out hu7.out) (own_repS (K := kStr) (t := 9) (B := wr.heap.size) (by repeat (first | (with_reducible assumption) | (with_reducible refine Own.alloc ?_ _) | (with_reducible refine Own.drew ?_))) (by decide) hwz.out hu7.out) (own_repS (K := kStart) (t := 70) (B := wr.heap.size) (by repeat (first | (with_reducible assumption) | (with_reducible refine Own.alloc ?_ _) | (with_reducible refine Own.drew ?_))) (by decide) hwz.out hu7.out)) (World.news_of_block (cs := #[.string z, .string co, .string pa, .int .i64 nl, .slice A4 n4 c4, .int .i64 mm, .slice Aa n6 c6', .slice Ab n7 c7, .slice Ac n8 c8]) (t := 47) (fr := (0, 0)) (by first | exact heap_alloc_new _ _ | exact heap_new2 _ _ _ | exact (Below.heap_alloc _ _ _ (by first | (simp; done) | (simp; omega))).trans (heap_alloc_new _ _))) (fun W' hg => Cn10.grown (by repeat (first | (with_reducible assumption) | (with_reducible refine Cn10.alloc ?_ _) | (with_reducible refine Cn10.drew ?_))) hg e1.out e1.out e1.out e1.out e1.out e1.out e1.out e1.out e1.out e2.out) ?_; intro gA capA w4 hg2 hgrow hs4) | (refine stepk_ins (S := Cn10 w2.heap.size 0 ((.string z)) w2.heap.size 1 ((.string co)) w2.heap.size 2 ((.string pa)) w2.heap.size 3 ((.int .i64 nl)) w2.heap.size 4 ((.slice A4 n4 c4)) w2.heap.size 5 ((.int .i64 mm)) w2.heap.size 6 ((.slice Aa n6 c6')) w2.heap.size 7 ((.slice Ab n7 c7)) w2.heap.size 8 ((.slice Ac n8 c8)) wr.heap.size 0 ((.int .i64 line))) (w0 := w) (u6 := .slice (some ⟨gA, 0, none⟩) (st.ls.length + 1) capA) (u7 := u7) (u8 := u8) (ls := st.ls ++ [(z, co, pa, nl, ps, mm, f6, f7, ss)]) (lines := st.lines) (ps := st.ps) rfl (.tmp 56) (.tmp 59) rfl (by rfl) (by repeat (first | (with_reducible assumption) | (with_reducible refine GK.alloc ?_ _) | (with_reducible refine GK.drew ?_))) n32 _ _ (by rfl) line (World.news_of_block (cs := #[.int .i64 line]) (t := 3) (fr := (0, 0)) (by first | exact heap_alloc_new _ _ | exact heap_new2 _ _ _ | exact (Below.heap_alloc _ _ _ (by first | (simp; done) | (simp; omega))).trans (heap_alloc_new _ _) | exact (hgrow.block _ (by first | (simp; done) | (simp; omega)) (hn6.out _ (by first | omega | (simp; done) | (simp; omega)))).trans (by first | exact heap_alloc_new _ _ | exact heap_new2 _ _ _ | exact (Below.heap_alloc _ _ _ (by first | (simp; done) | (simp; omega))).trans (heap_alloc_new _ _)))) (fun W' hg => Cn10.grown (by repeat (first | (with_reducible assumption) | (with_reducible refine Cn10.alloc ?_ _) | (with_reducible refine Cn10.drew ?_))) hg e3.out e3.out e3.out e3.out e3.out e3.out e3.out e3.out e3.out e4.out) ?_; intro gB capB w5 hg3 hgrow3 hs5))
          all_goals
            clear hGd hSd hS0 hG4 p4 p6 p7 p8 p4d p6d p7d p8d
            go_wp2
            go_roundw
            case rel => exact ⟨j + 1, by rw [hNN.out]; omega, by go_num, by unfold readCls; rw [hstep.out]; exact hg3⟩
            case measure => simp [intOf]; omega
      · have hm2 : ((fs.length : Int) != 9) = true := by simp; omega
        rw [show gathStep 9 (clsP d sl n) (clsOf d sl n) st (line, fs) = ⟨st.ls, st.lines, st.ps ++ [(line, 0, 9)]⟩ from if_neg hm] at hstep
        replace hm := hide hm
        clear hat hSr
        go_wp2_with fail
        rw [hg.out]
        refine (whole_walk g line F fs.length c 0 none true 9 _ hsc0).mono ?_
        rintro e w2 ⟨rfl, hs2, ho2⟩
        obtain ⟨h, c3, p0, p1, p2, p3⟩ := scan_some hs2
        have hb2 : Below wr.heap.size wr w2 := hb1.trans (Only.below ho2 (by omega) hb1.size)
        have hG2 := hG.later hb2
        clear hsc0 hb1 q0 hs2 ho2 hG
        dsimp only at p0 p1 p2 p3
        have v1 := World.block_lt_of_cell? _ _ c3
        have v2 := World.block_lt_of_cell? _ _ p0
        have hz2 := hG2.below.size
        go_wp2_with (at_builtin; refine wpList_append_own _ rfl _ _ 30 rfl w.heap.size 74 iP (.agg #[.int .i64 0, .int .i64 0, .int .i64 0, .int .i64 0]) 4 32 Tryz.underlying30 hiP hP0 hP1 hP2 rfl (by decide) _ _ _ rfl ((hG2.alloc _).alloc _).ps ⟨w2.heap.size + 1, 0, none⟩ 1 1 (encP (line, 0, 9)) rfl rfl ?c0 (one_prob _) ?c3 ?c4 ?c5 ?_)
        case c0 => exact new_prob2 _ _ _ _ _ _
        case c3 => unfold maxLen; omega
        case c4 => omega
        case c5 => rw [World.size_alloc, World.size_alloc]; omega
        intro v' w4 hPn hgrow _
        have hGn := ((hG2.alloc _).alloc _).prob (p := (line, 0, 9)) hgrow hPn
        clear hG2 c3 p0 p1 p2 p3 hb2 hPn hgrow
        go_wp2
        go_roundw
        case rel => exact ⟨j + 1, by rw [hNN.out]; omega, by go_num, by unfold readCls; rw [hstep.out]; exact hGn⟩
        case measure => simp [intOf]; omega
    · obtain rfl : j = N := by omega
      have hall : Hid (rs.take j = rs) := hide (by rw [← hNN.out]; exact List.take_length)
      rw [hall.out] at hG
      clear hall
      go_wp2
      go_ret3
      exact ⟨_, _, _, rfl, hG⟩
end Go.Proofs.YtimcdikeajbabaaGreatDoor

namespace Go.Proofs.YtimcdikeajbabaaGreatDoor
open Go.RowKit
set_option maxRecDepth 100000

def clssRead (d sl b m n : Int) (rs : List Rec) : List Cls × List Prob :=
  if weekB d sl b m n then ((readCls d sl n rs).ls, (readCls d sl n rs).ps) else ([], [(0, 0, 1)])
abbrev ClssOwn (B : Nat) (w : World) (v : Value) (l : List Cls) : Prop := Own kCls 47 clsTs 0 B w v l
def ClsLines (d sl b m n : Int) (rs : List Rec) (w : World) (e : Ending) (w' : World) : Prop :=
  ∃ v6 v7 v8, e = .returned (.tuple #[v6, v7, v8]) ∧ ClssOwn w.heap.size w' v6 (clssRead d sl b m n rs).1 ∧ ProbsOwn w.heap.size w' v8 (clssRead d sl b m n rs).2 ∧ Below w.heap.size w w'
set_option maxHeartbeats 4000000 in
theorem klines_walk (d sl b m n : Int) (A : Option Addr) (rs : List Rec) (cap : Nat) (w : World) (hS : Std w) (hR : RecsAt w.heap.size w A rs) (hN : rs.length ≤ 4000000000000) (hs : ∀ r ∈ rs, ∀ f ∈ r.2, f.1.size < 1073741824) :
    Calls Tryz.prog 36 #[.slice A rs.length cap, .agg #[.int .i64 d, .int .i64 sl, .int .i64 b, .int .i64 m], .int .i64 n] w fun e w' => ClsLines d sl b m n rs w e w' := by
  have hb0 : Below w.heap.size w ((w.alloc (.cells #[.int .i64 d, .int .i64 sl, .int .i64 b, .int .i64 m] 24)).alloc (.cells #[.int .i64 n] 3)) := (by repeat (first | exact Below.refl _ _ | refine ext_alloc ?_ _ | refine ext_drewN ?_ _ | refine ext_drew ?_ | refine ext_trans ?_ (by assumption)))
  have bG := (Box4.new w 24 (.int .i64 d) (.int .i64 sl) (.int .i64 b) (.int .i64 m)).alloc (.cells #[.int .i64 n] 3)
  have bN : ((w.alloc (.cells #[.int .i64 d, .int .i64 sl, .int .i64 b, .int .i64 m] 24)).alloc (.cells #[.int .i64 n] 3)).cell? ⟨w.heap.size + 1, 0, none⟩ = some (.int .i64 n) := by
    have := (show ((w.alloc (.cells #[.int .i64 d, .int .i64 sl, .int .i64 b, .int .i64 m] 24)).alloc (.cells #[.int .i64 n] 3)).cell? ⟨(w.alloc (.cells #[.int .i64 d, .int .i64 sl, .int .i64 b, .int .i64 m] 24)).heap.size, 0, none⟩ = some (.int .i64 n) by simp)
    rw [World.size_alloc] at this
    exact this
  obtain ⟨W, hW⟩ : ∃ W, (w.alloc (.cells #[.int .i64 d, .int .i64 sl, .int .i64 b, .int .i64 m] 24)).alloc (.cells #[.int .i64 n] 3) = W := ⟨_, rfl⟩
  rw [hW] at hb0 bG bN
  obtain ⟨N, hN'⟩ : ∃ N, rs.length = N := ⟨_, rfl⟩
  have hSW := hS.after hb0
  replace hW := hide hW
  cases hw : weekB d sl b m n
  · have e1 : clssRead d sl b m n rs = ([], [(0, 0, 1)]) := by unfold clssRead; rw [hw]; rfl
    rw [hN']
    go_enter Tryz.func36, Tryz.ntmps36
    go_wp2_with fail
    rw [hW.out]
    refine (tgWeek_walk d sl b m n W).mono ?_
    rintro e w1 ⟨rfl, hb1⟩
    rw [hw]
    have hb := ext_trans hb0 hb1
    clear hW hb0 hb1 bG bN hSW hS hR hs
    go_wp2_with fail
    refine (invalid_walk w1).mono ?_
    rintro e w2 ⟨v, rfl, hp, hb2⟩
    go_wp2
    go_ret3
    exact ⟨_, _, _, rfl, by rw [e1]; exact Own.nil, by rw [e1]; exact owns_lower hp hb.size, ext_trans hb hb2⟩
  · have e1 : clssRead d sl b m n rs = ((readCls d sl n rs).ls, (readCls d sl n rs).ps) := by unfold clssRead; rw [hw]; rfl
    rw [hN']
    go_enter Tryz.func36, Tryz.ntmps36
    go_wp2_with fail
    rw [hW.out]
    refine (tgWeek_walk d sl b m n W).mono ?_
    rintro e w1 ⟨rfl, hb1⟩
    rw [hw]
    have hb := ext_trans hb0 hb1
    have hC : Cl w.heap.size (w.heap.size + 1) d sl b m n w1 := by
      obtain ⟨g0, g1, g2, g3⟩ := bG
      exact ⟨cell_later hb1 g0, cell_later hb1 g1, cell_later hb1 g2, cell_later hb1 g3, cell_later hb1 bN⟩
    have hR1 := (hR.below hb).more hb.size
    have hcall := kread_walk w.heap.size (w.heap.size + 1) d sl b m n A rs cap w1 (hSW.after hb1) hC hR1 hN hs (by have := week_bd hw; omega)
    rw [hN'] at hcall
    clear hW hb0 hb1 bG bN hSW hS hR hs hR1 hC
    go_wp2_with fail
    refine hcall.mono ?_
    rintro e w2 ⟨v6, v7, v8, rfl, hG⟩
    have hL := hG.own
    have hP := hG.ps
    have hb2 := hG.below
    clear hcall
    go_wp2
    go_ret3
    exact ⟨_, _, _, rfl, by rw [e1]; exact hL.lower hb.size, by rw [e1]; exact owns_lower hP hb.size, ext_trans hb hb2⟩
def ClsReads (d sl b m n : Int) (rs : List Rec) (w : World) (e : Ending) (w' : World) : Prop :=
  ∃ v6 v8, e = .returned (.tuple #[v6, v8]) ∧ ClssOwn w.heap.size w' v6 (clssRead d sl b m n rs).1 ∧ ProbsOwn w.heap.size w' v8 (clssRead d sl b m n rs).2 ∧ Below w.heap.size w w'
set_option maxHeartbeats 4000000 in
theorem kfread_walk (d sl b m n : Int) (A : Option Addr) (rs : List Rec) (cap : Nat) (w : World) (hS : Std w) (hR : RecsAt w.heap.size w A rs) (hN : rs.length ≤ 4000000000000) (hs : ∀ r ∈ rs, ∀ f ∈ r.2, f.1.size < 1073741824) :
    Calls Tryz.prog 9 #[.slice A rs.length cap, .agg #[.int .i64 d, .int .i64 sl, .int .i64 b, .int .i64 m], .int .i64 n] w fun e w' => ClsReads d sl b m n rs w e w' := by
  have hb0 : Below w.heap.size w (w.alloc (.cells #[.int .i64 d, .int .i64 sl, .int .i64 b, .int .i64 m] 24)) := (by repeat (first | exact Below.refl _ _ | refine ext_alloc ?_ _ | refine ext_drewN ?_ _ | refine ext_drew ?_ | refine ext_trans ?_ (by assumption)))
  have hcall := klines_walk d sl b m n A rs cap _ (hS.after hb0) ((hR.below hb0).more hb0.size) hN hs
  obtain ⟨N, hN'⟩ : ∃ N, rs.length = N := ⟨_, rfl⟩
  rw [hN'] at hcall ⊢
  clear hR hs hS
  go_enter Tryz.func9, Tryz.ntmps9
  go_wp2_with fail
  refine hcall.mono ?_
  rintro e w2 ⟨v6, v7, v8, rfl, hL, hP, hb2⟩
  clear hcall
  go_wp2
  go_ret2
  exact ⟨_, _, rfl, hL.lower hb0.size, owns_lower hP hb0.size, ext_trans hb0 hb2⟩
end Go.Proofs.YtimcdikeajbabaaGreatDoor
