/- Walk of rulesyntax.Parse: line by line. Conditions: what the program's variables hold. The reference's readers one behind another, whether an error is noted or not. Conditions: the reader's cells are as RSt says; the words of the selections are as Lvs says. The reference's reading of a line: its ends (plain and stores). No condition. -/
import Derived.Test.YtdnnahdafhddlaaGreatDoorUSynQ
import Derived.Test.YtdnnahdafhddlaaGreatDoorURrF
namespace Go.Proofs.YtdnnahdafhddlaaGreatDoor
open Go.RowKit
set_option maxRecDepth 100000

def ParSt (d sl b m wk : Int) (lines : List ByteArray) (w : World) (v8 v9 i : Value) (wr : World) : Prop :=
  ∃ j : Nat, j ≤ lines.length ∧ i = .int .i64 j ∧ GathR w.heap.size wr v8 v9 (rulesS d sl b m wk (lines.take j)).1 ((rulesS d sl b m wk (lines.take j)).2.1.map probT) ∧ Below w.heap.size w wr
def trimT (z : ByteArray) : ByteArray := ⟨(Lib.trimS z.data.toList [32, 9]).toArray⟩
theorem trimT_walk (s : ByteArray) (w : World) (hs : s.size ≤ 9223372036854775807) :
    Calls Tryz.prog 52 #[.string s, .string ⟨#[32, 9]⟩] w fun e w' => e = .returned (.string (trimT s)) ∧ Below w.heap.size w w' :=
  Any.strings_Trim_laid Tryz.lays160 (by kernel_rfl) s ⟨#[32, 9]⟩ w hs (by decide) (ascii_of_all (by decide))
set_option maxHeartbeats 4000000 in
theorem parse_lines14 (d sl b m wk : Int) (s : ByteArray) (h : weekB d sl b m wk = true) (hs : s.size ≤ 65536) (w : World) (hStd : Std w) :
    Calls Tryz.prog 20 #[.string s, .agg #[.int .i64 d, .int .i64 sl, .int .i64 b, .int .i64 m], .int .i64 wk] w fun en w' => ParsG (rulesT d sl b m wk s) w en w' := by
  obtain ⟨lines, hl⟩ : ∃ lines, Lib.splitB ⟨#[10]⟩ 0 (Lib.countB s ⟨#[10]⟩) s = lines := ⟨_, rfl⟩
  have hr : rulesT d sl b m wk s = ((rulesS d sl b m wk lines).1, (rulesS d sl b m wk lines).2.1.map probT) := by unfold rulesT; rw [if_neg (by rw [h]; decide), if_neg (by omega), hl]
  rw [hr]
  have hwk := tgWeek_walk d sl b m wk (w.alloc (.cells #[.int .i64 d, .int .i64 sl, .int .i64 b, .int .i64 m] 23))
  rw [h] at hwk
  have hb0 : Below w.heap.size w (w.alloc (.cells #[.int .i64 d, .int .i64 sl, .int .i64 b, .int .i64 m] 23)) := (by repeat (first | exact Below.refl _ _ | refine ext_alloc ?_ _ | refine ext_drewN ?_ _ | refine ext_drew ?_ | refine ext_trans ?_ (by assumption)))
  have bG0 := Box4.new w 23 (.int .i64 d) (.int .i64 sl) (.int .i64 b) (.int .i64 m)
  have hsi : ¬ (65536 : Int) < (s.size : Int) := by omega
  have hlm : ∀ z ∈ lines, z.size ≤ 65536 := fun z hz => Nat.le_trans (splitB_mem hl hz) hs
  have hlen := splitB_len 10 s
  rw [hl] at hlen
  obtain ⟨N, hN⟩ : ∃ N, Lib.countB s ⟨#[10]⟩ + 1 = N := ⟨_, rfl⟩
  have hNz : N ≤ s.size + 1 := by
    have h1 : N = (splitOn1 10 s.data.toList).length := by rw [← hN, ← hlen, ← hl, ← splitB_one, List.length_map]
    have h2 := splitOn1_len 10 s.data.toList
    rw [ba_len] at h2
    omega
  rw [hN] at hlen
  have hsp := fun (V : World) (hV : Std V) => Tryz.strings_Split s ⟨#[10]⟩ hV.maxLen.choose V (by omega) hV.maxLen.choose_spec (by decide)
  rw [hl, hN] at hsp
  have hsp := hide hsp
  replace hl := hide hl
  replace hlm := hide hlm
  replace hlen := hide hlen
  clear hr hN
  go_enter Tryz.func20, Tryz.ntmps20
  go_wp2_with fail
  refine hwk.mono ?_
  rintro e w1 ⟨rfl, hb1⟩
  have hb := ext_trans hb0 hb1
  have bG1 := bG0.later hb1
  have hS1 := hStd.after hb
  have hsp1 := hsp.out w1 hS1
  clear hwk hb0 hb1 hsp
  go_wp2_with fail
  refine hsp1.mono ?_
  rintro e w2 ⟨rfl, rfl⟩
  clear hsp1
  obtain ⟨L, hL⟩ : ∃ L, w1.heap.size = L := ⟨_, rfl⟩
  obtain ⟨W2, hW2⟩ : ∃ W2, w1.alloc (.cells (lines.map Value.string).toArray 9) = W2 := ⟨_, rfl⟩
  have hb2 : Below w1.heap.size w1 W2 := by rw [← hW2]; exact ext_alloc (Below.refl _ _) _
  have hrow : RowS W2 L lines := ⟨_, by rw [← hW2, ← hL]; exact heap_alloc_new _ _, by simp⟩
  have hbW := ext_trans hb hb2
  have bG2 := bG1.later hb2
  have hS2 := hS1.after hb2
  have hLw : w.heap.size ≤ L := by rw [← hL]; exact hb.size
  have hst0 : ParSt d sl b m wk lines W2 (.slice none 0 0) (.slice none 0 0) (.int .i64 (0 : Nat)) W2 := ⟨0, Nat.zero_le _, rfl, GathR.nil, Below.refl _ _⟩
  have hLW : L < W2.heap.size := by obtain ⟨cs, h1, -⟩ := hrow; exact blk_lt h1
  rw [hL]
  clear bG1 hb hb2 hS1 bG0
  replace hst0 := hide hst0
  go_wp2_with fail
  go_loopw [8, 9, 36] (fun v8 v9 i wr => ParSt d sl b m wk lines W2 v8 v9 i wr) (fun _ _ i _ => N - (intOf i).toNat)
  case atStart => exact hst0.out
  case round =>
    obtain ⟨j, hj, rfl, hG, hbr⟩ := hrel
    obtain ⟨hct, hc48, hcp⟩ := rules_count gramT (finR d sl b m wk 0) RuleD.name putL 48 lines j hj
    rw [hlen.out] at hj
    obtain ⟨st, hst⟩ : ∃ st, rulesS d sl b m wk (lines.take j) = st := ⟨_, rfl⟩
    have hct : st.2.2 = j := by rw [← hst]; exact hct
    have hc48 : st.1.length ≤ 48 := by rw [← hst]; exact hc48
    have hcp : st.2.1.length ≤ j := by rw [← hst]; exact hcp
    by_cases hlt : j < N
    · obtain ⟨z, hz⟩ : ∃ z, lines[j]? = some z := ⟨_, List.getElem?_eq_getElem (by rw [hlen.out]; exact hlt)⟩
      have hzs := hlm.out z (List.mem_of_getElem? hz)
      have hstep : rulesS d sl b m wk (lines.take (j + 1)) = stepS d sl b m wk st z := by rw [← hst]; exact rules_step gramT (finR d sl b m wk 0) RuleD.name putL 48 hz
      rw [hst] at hG
      obtain ⟨q0, -, -⟩ := (hrow.later hbr).get hz
      have hSr := hS2.after hbr
      have bGr := bG2.later hbr
      have hj0 : (0 : Int) ≤ (j : Int) := by omega
      have hj1 : (j : Int) < (N : Int) := by omega
      obtain ⟨ml, hml⟩ := hSr.maxLen
      have hcut := Tryz.strings_Cut z ⟨#[35]⟩ ml wr (by omega) hml
      rw [show (⟨#[35]⟩ : ByteArray).data.toList = [35] from rfl, cut_read] at hcut
      obtain ⟨y1, hy1⟩ : ∃ y1, (Lib.cut z.data.toList [35]).2.1.toArray = y1 := ⟨_, rfl⟩
      obtain ⟨y2, hy2⟩ : ∃ y2, (Lib.cut z.data.toList [35]).2.2 = y2 := ⟨_, rfl⟩
      rw [hy1, hy2] at hcut
      obtain ⟨T, hT⟩ : ∃ T, readT z = T := ⟨_, rfl⟩
      have hTs : T.size ≤ 65536 := by rw [← hT]; unfold readT; rw [ByteArray.size_extract]; omega
      have hcut : Calls Tryz.prog 51 #[.string z, .string ⟨#[35]⟩] wr fun e w' => e = .returned (.tuple #[.string T, .string ⟨y1⟩, .bool y2]) ∧ ∃ n, w' = wr.drewN n := by rw [← hT]; exact hcut
      have hst := trim_start T
      obtain ⟨Y, hY⟩ : ∃ Y, trimT T = Y := ⟨_, rfl⟩
      have htr := hide (fun V : World => trimT_walk T V (by omega))
      rw [hY] at htr
      have hE0 := str_empty Y
      have hE2 : decide (Y.size = 0) = !decide (startT T 0 < T.size) := by
        rw [← hst, ← hY, ← ba_len]
        show decide ((Lib.trimS T.data.toList [32, 9]).toArray.toList.length = 0) = _
        rw [List.toList_toArray]
        cases Lib.trimS T.data.toList [32, 9] <;> simp
      have hE : Y.toList.isEmpty = decide (Y.size = 0) := by rw [← hE0]; cases Y.toList <;> rfl
      obtain ⟨EM, hEM⟩ : ∃ EM, decide (Y.size = 0) = EM := ⟨_, rfl⟩
      rw [hEM] at hE hE0 hE2
      replace hE2 := hide hE2
      clear hy1 hy2 hEM hY hst
      go_wp2_with fail
      refine hcut.mono ?_
      rintro e w3 ⟨rfl, n3, rfl⟩
      clear hcut
      have htr3 := htr.out (wr.drewN n3)
      clear htr
      go_wp2_with fail
      refine htr3.mono ?_
      rintro e w4 ⟨rfl, hb4⟩
      have hb3 : Below wr.heap.size wr (wr.drewN n3) := ext_drewN (Below.refl _ _) n3
      have hb34 := ext_trans hb3 hb4
      have hG4 := hG.later hb34
      have hbr4 := ext_trans hbr hb34
      clear htr3 hb3 hb4 q0 hml hst
      cases EM
      · have hsome := hE2.out
        have hlt2 : startT T 0 < T.size := by
          by_cases q : startT T 0 < T.size
          · exact q
          · rw [decide_eq_false q] at hsome; cases hsome
        have hline := line_some (G := gramT) (s := z) (by rw [hT]; exact hlt2)
        rw [hT] at hline
        obtain ⟨V5, hV5⟩ : ∃ V5, w4.alloc (.cells #[.string T, .int .i64 (z.size : Int), .int .i64 0] 91) = V5 := ⟨_, rfl⟩
        have hb5 : Below w4.heap.size w4 V5 := by rw [← hV5]; exact ext_alloc (Below.refl _ _) _
        have hps : PsAt V5 w4.heap.size T z.size 0 := by rw [← hV5]; exact heap_alloc_new _ _
        have hrd := read_walk w4.heap.size T z.size 0 V5 w4 (hSr.after hb34) hb5 (Nat.le_refl _) hps (Nat.zero_le _) (by omega)
        obtain ⟨RR, hRR⟩ : ∃ RR, ruleP gramT T z.size (T.size + 1) 0 = RR := ⟨_, rfl⟩
        rw [hRR] at hrd hline
        have hw45 : w4.heap.size < V5.heap.size := by rw [← hV5, World.size_alloc]; omega
        clear hcut hE2 hsome hps
        go_wp2_with fail
        refine hrd.mono ?_
        rintro e w6 ⟨ho6, hm⟩
        clear hrd
        have hbw6 : Below wr.heap.size wr w6 := (ext_trans hb34 hb5).trans (Only.below ho6 (by have := hb34.size; omega) (by have := hb34.size; have := hb5.size; omega))
        have hbr6 := ext_trans hbr hbw6
        have hw6 := hbw6.size
        obtain ⟨ub, hub⟩ : ∃ ub, w6.heap.size = ub := ⟨_, rfl⟩
        cases RR with
        | error y =>
          obtain ⟨pb, he, hpb, hwr⟩ := hm
          unfold ruleV at he
          subst he
          obtain ⟨y1, y2⟩ := y
          have hy1 : y1 ≤ 65536 := rule_small (M := 65536) hTs hzs _ _ _ hRR
          dsimp only at hwr
          have hsb := step_bad (d := d) (sl := sl) (b := b) (m := m) (wk := wk) hline st
          rw [← hstep, hct] at hsb
          dsimp only at hsb
          obtain ⟨U, hU⟩ : ∃ U, w6.alloc (.cells #[.string ⟨#[]⟩, .int .i64 0, .int .i64 0, .int .i64 0, .string ⟨#[]⟩, .slice none 0 0, .int .i64 0, .string ⟨#[]⟩, .slice none 0 0, .int .i64 0, .slice none 0 0, .slice none 0 0, .int .i64 0] 43) = U := ⟨_, rfl⟩
          have hbV : Below w6.heap.size w6 U := by rw [← hU]; exact ext_alloc (Below.refl _ _) _
          have hbU := ext_trans hbw6 hbV
          have hwU : U.heap[pb]? = some (.cells #[.int .i64 y1, .int .i64 y2] 96 (0, 0)) := (hbV.block pb (blk_lt hwr)).trans hwr
          have hp0 : U.cell? ⟨pb, 0, none⟩ = some (.int .i64 y1) := by rw [cell_of_row U pb _ _ _ _ hwU]; rfl
          have hp1 : U.cell? ⟨pb, 1, none⟩ = some (.int .i64 y2) := by rw [cell_of_row U pb _ _ _ _ hwU]; rfl
          have hpl := blk_lt hwU
          have hGU := hG.later hbU
          have hbB : Below U.heap.size U ((U.alloc (.cells (#[.int .i64 0, .int .i64 ((j : Int) + 1), .int .i64 ((y1 : Int) + 1), .int .i64 y2]) 55)).drew) := ext_drew (ext_alloc (Below.refl _ _) _)
          have hGB := hGU.later hbB
          have hnews : ∀ i u, (encP ((j : Int) + 1, (y1 : Int) + 1, y2))[i]? = some u → ((U.alloc (.cells (#[.int .i64 0, .int .i64 ((j : Int) + 1), .int .i64 ((y1 : Int) + 1), .int .i64 y2]) 55)).drew).cell? ((⟨U.heap.size, 0, none⟩ : Addr).add i) = some u := new_prob U ((j : Int) + 1) ((y1 : Int) + 1) y2 55
          have hB : W2.heap.size ≤ ((U.alloc (.cells (#[.int .i64 0, .int .i64 ((j : Int) + 1), .int .i64 ((y1 : Int) + 1), .int .i64 y2]) 55)).drew).heap.size := Nat.le_trans hbr.size (Nat.le_trans hbU.size hbB.size)
          have hpl2 : (st.2.1.map probT).length ≤ 2000000000 := by rw [List.length_map]; omega
          have hGh := hide hGB
          have hP := hGB.ps
          replace hU := hide hU
          replace hub := hide hub
          clear hG4 hGU hGB hwU hwr
          go_upto_region 15 with fail
          rw [hub.out, hU.out]
          have hpt : probT (j + 1, y1 + 1, y2) = ((j : Int) + 1, (y1 : Int) + 1, y2) := by unfold probT; simp
          replace hpt := hide hpt
          have hbX := hide (ext_trans (ext_trans hbr hbU) hbB)
          have e1 : IntKind.i64.wrap ((j : Int) + 1) = (j : Int) + 1 := IntWalk.i64_in _ (by omega)
          have e2 : IntKind.i64.wrap ((y1 : Int) + 1) = (y1 : Int) + 1 := IntWalk.i64_in _ (by omega)
          have hBh := hide hB
          clear hbU hbB hbr6 hbV hbw6
          go_region_law (refine step_pr (B := W2.heap.size) (H := ((U.alloc (.cells (#[.int .i64 0, .int .i64 ((j : Int) + 1), .int .i64 ((y1 : Int) + 1), .int .i64 y2]) 55)).drew).heap.size) (v := u9) (ps := st.2.1.map probT) rfl (.tmp 63) (.tmp 76) rfl (by simp [Act.eval]; done) hP hpl2 ⟨U.heap.size, 0, none⟩ 1 (by simp [Act.eval]; done) ((j : Int) + 1, (y1 : Int) + 1, y2) hnews hB rfl ?_; intro g5 c5 w5 hown5 hgr5 hwh5 hgl5; have hG5 := hide (GathR.prob hGh.out hgr5 hown5 ⟨g5, c5, _, rfl, hwh5⟩); have hb5 := hide (Below.grown hbX.out hgr5 hBh.out (fun y hy => (hGh.out.low9 y hy).1)))
          all_goals
            clear hP hnews hown5 hgr5 hwh5 hp0 hp1
            go_wp2
            go_roundw
            case rel => exact ⟨j + 1, by rw [hlen.out]; omega, by go_num, by rw [hsb]; show GathR W2.heap.size _ _ _ st.1 (List.map probT (st.2.1 ++ [_])); rw [List.map_append, List.map_singleton, hpt.out]; have hq := hG5.out; rw [List.length_map] at hq; exact hq, hb5.out⟩
            case measure => simp [intOf]; omega
        | ok q =>
          obtain ⟨u, bq⟩ := q
          obtain ⟨v1, v2, ⟨f0, f1, fA, fl, fc, s0, s1, sA, sl', sc, A, c, hve, hrep1, hrep2, hpc, hparts⟩, he⟩ := hm
          cases hve
          subst he
          have hline : lineP gramT z = some (.ok u) := hline
          obtain ⟨hz12, hpl, hpz, hpj⟩ := rule_fits hTs hRR
          obtain ⟨U1, hU1⟩ : ∃ U1, w6.alloc (.cells #[.string u.name, .int .i64 u.weight, .int .i64 u.kind, .int .i64 f0, .string f1, .slice fA fl fc, .int .i64 s0, .string s1, .slice sA sl' sc, .int .i64 u.n, .slice none 0 0, .slice none 0 0, .int .i64 ((j : Int) + 1)] 43) = U1 := ⟨_, rfl⟩
          have hrow1 : RowV 43 U1 ub [.string u.name, .int .i64 u.weight, .int .i64 u.kind, .int .i64 f0, .string f1, .slice fA fl fc, .int .i64 s0, .string s1, .slice sA sl' sc, .int .i64 u.n, .slice none 0 0, .slice none 0 0, .int .i64 ((j : Int) + 1)] := ⟨_, by rw [← hU1, ← hub]; exact heap_alloc_new _ _, rfl⟩
          have hbU1 : Below w6.heap.size w6 U1 := by rw [← hU1]; exact ext_alloc (Below.refl _ _) _
          have hbX1 := ext_trans hbw6 hbU1
          have hsU1 : U1.heap.size = ub + 1 := by rw [← hU1, ← hub, World.size_alloc]
          have hkp : ∀ x, V5.heap.size ≤ x → x < w6.heap.size → (V5.heap.size ≤ x ∧ x < ub) ∧ x < U1.heap.size ∧ U1.heap[x]? = w6.heap[x]? := fun x h1 h2 => ⟨⟨h1, by omega⟩, by omega, hbU1.block x h2⟩
          have hSU := (hSr.after hbX1)
          have hub0 : 12 ≤ ub := by have := hSr.big; omega
          have hfin := finish_walk d sl b m wk ((j : Int) + 1) u hz12 hpl hpz hpj ub (fun x => V5.heap.size ≤ x ∧ x < ub) f0 s0 f1 s1 fA sA A fl fc sl' sc c U1 hSU hub0 hrow1 (fun x h => by omega) (kSel.kept hrep1 hkp) (kSel.kept hrep2 hkp) (hparts.kept hkp) hpc
          obtain ⟨F, hF⟩ : ∃ F, finR d sl b m wk 0 u = F := ⟨_, rfl⟩
          rw [show ((j : Int) + 1) = ((j + 1 : Nat) : Int) from by omega, fin_line, hF] at hfin
          obtain ⟨g0, g1, g2, g3⟩ := bGr.later hbX1
          have hgl := (bGr.later hbX1).lt
          have e1 : IntKind.i64.wrap ((j : Int) + 1) = (j : Int) + 1 := IntWalk.i64_in _ (by omega)
          have hpl2 : (st.2.1.map probT).length ≤ 2000000000 := by rw [List.length_map]; omega
          have hfh := hide hfin
          have hlow8 := hide hG.low8
          have hlow9 := hide hG.low9
          have hwrV : wr.heap.size ≤ V5.heap.size := (ext_trans hb34 hb5).size
          replace hub := hide hub
          replace hU1 := hide hU1
          replace hF := hide hF
          clear hrep1 hrep2 hparts hrow1 hG4 hbw6 hbr6 hfin hkp hpc
          unfold ruleV
          go_upto_region 17 with fail
          rw [hub.out, hU1.out]
          have hfin := hfh.out
          clear hfh
          have hBx := Nat.le_trans hbr.size hbX1.size
          go_wp2_with fail
          refine hfin.mono ?_
          rintro e w8 ⟨ho8, hm8⟩
          have hub1 := hub.out
          have hbX8 : Below wr.heap.size wr w8 := hbX1.trans (Only.below ho8 (by omega) hbX1.size)
          have hG8 := hG.later hbX8
          have hbr8 := hide (ext_trans hbr hbX8)
          have hB8 : W2.heap.size ≤ w8.heap.size := hbr8.out.size
          clear hfin g0 g1 g2 g3 hgl hbX1
          cases F with
          | error cc =>
            obtain ⟨hcc, rfl⟩ := hm8
            have hsb := step_fin (d := d) (sl := sl) (b := b) (m := m) (wk := wk) hline hF.out st
            rw [← hstep, hct] at hsb
            have hpt : probT (j + 1, 0, cc) = ((j : Int) + 1, 0, cc) := by unfold probT; simp
            have hc1 : (cc != 0) = true := by rw [bne_iff_ne]; exact hcc
            have hc2 : (cc == 0) = false := by rw [beq_eq_false_iff_ne]; exact hcc
            replace hpt := hide hpt
            replace hcc := hide hcc
            replace hG := hide hG
            replace hG8 := hide hG8
            go_wp2_with (at_builtin; refine wpList_prob (B := W2.heap.size) rfl _ _ rfl rfl (hG8.out.later (ext_alloc (Below.refl _ _) _)).ps hpl2 ⟨w8.heap.size, 0, none⟩ 1 rfl ((j : Int) + 1, 0, cc) (new_prob _ _ _ _ _) ?c1 ?_)
            case c1 => rw [World.size_alloc]; exact Nat.le_succ_of_le hbr8.out.size
            intro g5 c5 w5 hown5 hgr5 hwh5
            have hG5 := hide (hG8.out.prob1 hown5 hgr5 (by simpa using hwh5))
            have hb5 := hide (prob1_below hbr8.out hG8.out hgr5)
            clear hown5 hgr5 hwh5
            go_wp2
            go_roundw
            case rel => exact ⟨j + 1, by rw [hlen.out]; omega, by go_num, by rw [hsb]; show GathR W2.heap.size _ _ _ st.1 (List.map probT (st.2.1 ++ [_])); rw [List.map_append, List.map_singleton, hpt.out]; exact hG5.out, hb5.out⟩
            case measure => simp [intOf]; omega
          | ok r =>
            obtain ⟨rfl, vs, hvs, hrp⟩ := hm8
            have hsb := step_rule (d := d) (sl := sl) (b := b) (m := m) (wk := wk) hline hF.out st
            rw [← hstep, hct] at hsb
            obtain ⟨f0, f1, fA, fl, fc, s0, s1, sA, sl', sc, tA, tc, rA, rc, rfl, -⟩ := id hrp
            obtain ⟨nm, hnm⟩ : ∃ nm, r.name = nm := ⟨_, rfl⟩
            obtain ⟨wt, hwt⟩ : ∃ wt, r.weight = wt := ⟨_, rfl⟩
            obtain ⟨kd, hkd⟩ : ∃ kd, r.kind = kd := ⟨_, rfl⟩
            obtain ⟨nn, hnn⟩ : ∃ nn, r.n = nn := ⟨_, rfl⟩
            obtain ⟨tl, htl⟩ : ∃ tl, r.times.length = tl := ⟨_, rfl⟩
            obtain ⟨rl, hrl⟩ : ∃ rl, r.rooms.length = rl := ⟨_, rfl⟩
            have hput : [Value.string (putL r (j + 1)).name, .int .i64 (putL r (j + 1)).weight, .int .i64 (putL r (j + 1)).kind, .int .i64 f0, .string f1, .slice fA fl fc, .int .i64 s0, .string s1, .slice sA sl' sc, .int .i64 (putL r (j + 1)).n, .slice tA (putL r (j + 1)).times.length tc, .slice rA (putL r (j + 1)).rooms.length rc, .int .i64 (putL r (j + 1)).line] = [.string nm, .int .i64 wt, .int .i64 kd, .int .i64 f0, .string f1, .slice fA fl fc, .int .i64 s0, .string s1, .slice sA sl' sc, .int .i64 nn, .slice tA tl tc, .slice rA rl rc, .int .i64 ((j : Int) + 1)] := by
              show [Value.string r.name, .int .i64 r.weight, .int .i64 r.kind, .int .i64 f0, .string f1, .slice fA fl fc, .int .i64 s0, .string s1, .slice sA sl' sc, .int .i64 r.n, .slice tA r.times.length tc, .slice rA r.rooms.length rc, .int .i64 ((j + 1 : Nat) : Int)] = _
              rw [hnm, hwt, hkd, hnn, htl, hrl]
              rfl
            rw [hput] at hvs hrp
            rw [hnm] at hsb
            obtain ⟨A8, c8, hv8, hcap8, hat8⟩ := hG8.rs.at
            have hn0 := hvs.get (j := 0) rfl
            have hcall := ruleHas_walk A8 st.1 c8 nm ub w8 (by omega) (hat8.more fun _ _ => trivial) hn0
            subst hv8
            obtain ⟨H, hH⟩ : ∃ H, hasN nm st.1 = H := ⟨_, rfl⟩
            rw [hH] at hcall hsb
            have hmf : ∀ (fn : Fn) (first cap : Array Value) (w : World), (Instr.makeFunc fn first cap).run Tryz.prog w = .ok (.func fn first cap) w := fun _ _ _ _ => rfl
            have hvsh := hide hvs
            have hrph := hide hrp
            replace hG := hide hG
            replace hG8 := hide hG8
            clear hvs hrp hput hnm hwt hkd hnn htl hrl hat8 hn0 hH
            go_wp2_with fail
            refine hcall.mono ?_
            rintro e w9 ⟨rfl, hb9⟩
            have hG9 := hide (hG8.out.later hb9)
            have hbr9 := hide (ext_trans hbr8.out hb9)
            have hpt11 : Hid (probT (j + 1, 0, 11) = ((j : Int) + 1, 0, 11)) := hide (by unfold probT; simp)
            have hpt2 : Hid (probT (j + 1, 0, 2) = ((j : Int) + 1, 0, 2)) := hide (by unfold probT; simp)
            clear hcall
            cases H with
            | true =>
              rw [if_pos rfl] at hsb
              go_wp2_with (at_builtin; refine wpList_prob (B := W2.heap.size) rfl _ _ rfl rfl (hG9.out.later (ext_alloc (Below.refl _ _) _)).ps hpl2 ⟨w9.heap.size, 0, none⟩ 1 rfl ((j : Int) + 1, 0, 11) (new_prob _ _ _ _ _) ?c1 ?_)
              case c1 => rw [World.size_alloc]; exact Nat.le_succ_of_le hbr9.out.size
              intro g5 c5 w5 hown5 hgr5 hwh5
              have hG5 := hide (hG9.out.prob1 hown5 hgr5 (by simpa using hwh5))
              have hb5 := hide (prob1_below hbr9.out hG9.out hgr5)
              clear hown5 hgr5 hwh5
              go_wp2
              go_roundw
              case rel => exact ⟨j + 1, by rw [hlen.out]; omega, by go_num, by rw [hsb]; show GathR W2.heap.size _ _ _ st.1 (List.map probT (st.2.1 ++ [_])); rw [List.map_append, List.map_singleton, hpt11.out]; exact hG5.out, hb5.out⟩
              case measure => simp [intOf]; omega
            | false =>
              rw [if_neg (by decide)] at hsb
              by_cases h48 : 48 ≤ st.1.length
              · have h48i : (48 : Int) ≤ (st.1.length : Int) := by omega
                rw [if_pos h48] at hsb
                go_wp2_with (at_builtin; refine wpList_prob (B := W2.heap.size) rfl _ _ rfl rfl (hG9.out.later (ext_alloc (Below.refl _ _) _)).ps hpl2 ⟨w9.heap.size, 0, none⟩ 1 rfl ((j : Int) + 1, 0, 2) (new_prob _ _ _ _ _) ?c1 ?_)
                case c1 => rw [World.size_alloc]; exact Nat.le_succ_of_le hbr9.out.size
                intro g5 c5 w5 hown5 hgr5 hwh5
                have hG5 := hide (hG9.out.prob1 hown5 hgr5 (by simpa using hwh5))
                have hb5 := hide (prob1_below hbr9.out hG9.out hgr5)
                clear hown5 hgr5 hwh5
                go_wp2
                go_roundw
                case rel => exact ⟨j + 1, by rw [hlen.out]; omega, by go_num, by rw [hsb]; show GathR W2.heap.size _ _ _ st.1 (List.map probT (st.2.1 ++ [_])); rw [List.map_append, List.map_singleton, hpt2.out]; exact hG5.out, hb5.out⟩
                case measure => simp [intOf]; omega
              · have h48i : ¬ (48 : Int) ≤ (st.1.length : Int) := by omega
                rw [if_neg h48] at hsb
                have hvs9 := hvsh.out.later hb9
                have a0 := hvs9.get (j := 0) rfl
                have a1 := hvs9.get (j := 1) rfl
                have a2 := hvs9.get (j := 2) rfl
                have a3 := hvs9.get (j := 3) rfl
                have a4 := hvs9.get (j := 4) rfl
                have a5 := hvs9.get (j := 5) rfl
                have a6 := hvs9.get (j := 6) rfl
                have a7 := hvs9.get (j := 7) rfl
                have a8 := hvs9.get (j := 8) rfl
                have a9 := hvs9.get (j := 9) rfl
                have a10 := hvs9.get (j := 10) rfl
                have a11 := hvs9.get (j := 11) rfl
                have a12 := hvs9.get (j := 12) rfl
                have hul := hvs9.lt
                have hs9 := hb9.size
                have hs8 := ho8.size
                have hrp9 : kRule.rep (fun x => W2.heap.size ≤ x ∧ ¬ u9.ownBlock = some x ∧ some x ≠ (Value.slice A8 st.1.length c8).ownBlock) (w9.alloc (.cells #[.string nm, .int .i64 wt, .int .i64 kd, .int .i64 f0, .string f1, .slice fA fl fc, .int .i64 s0, .string s1, .slice sA sl' sc, .int .i64 nn, .slice tA tl tc, .slice rA rl rc, .int .i64 ((j : Int) + 1)] 43)) (putL r (j + 1)) [.string nm, .int .i64 wt, .int .i64 kd, .int .i64 f0, .string f1, .slice fA fl fc, .int .i64 s0, .string s1, .slice sA sl' sc, .int .i64 nn, .slice tA tl tc, .slice rA rl rc, .int .i64 ((j : Int) + 1)] := by
                  refine kRule.kept hrph.out fun x hx hlt => ?_
                  have hxV : V5.heap.size ≤ x := by
                    rcases hx.1 with h | h
                    · exact h.1
                    · have := ho6.size; have := hbU1.size; omega
                  refine ⟨⟨Nat.le_trans hbr.size (Nat.le_trans hwrV hxV), fun e => ?_, fun e => ?_⟩, by rw [World.size_alloc]; omega, (Below.heap_alloc _ _ _ (by omega)).trans (hb9.block x hlt)⟩
                  · have := (hlow9.out x e).2; omega
                  · have := (hlow8.out x e.symm).2; omega
                replace h48 := hide h48
                go_wp2_with (at_builtin; refine wpList_ownX (K := kRule) (t := 43) (X := fun x => u9.ownBlock = some x) (B := W2.heap.size) rfl _ _ rfl apd_rules (by decide) rfl (hG9.out.later (ext_alloc (Below.refl _ _) _)).rs ?c1 (by decide) ⟨w9.heap.size, 0, none⟩ 1 rfl (putL r (j + 1)) [.string nm, .int .i64 wt, .int .i64 kd, .int .i64 f0, .string f1, .slice fA fl fc, .int .i64 s0, .string s1, .slice sA sl' sc, .int .i64 nn, .slice tA tl tc, .slice rA rl rc, .int .i64 ((j : Int) + 1)] hrp9 (World.news_of_block (cs := #[.string nm, .int .i64 wt, .int .i64 kd, .int .i64 f0, .string f1, .slice fA fl fc, .int .i64 s0, .string s1, .slice sA sl' sc, .int .i64 nn, .slice tA tl tc, .slice rA rl rc, .int .i64 ((j : Int) + 1)]) (t := 43) (fr := (0, 0)) (heap_alloc_new _ _)) ?c2 ?_)
                case c1 => omega
                case c2 => rw [World.size_alloc]; exact Nat.le_succ_of_le hbr9.out.size
                intro v5 w5 hX5 hgr5 g9 c9 hv9 hform5
                have hG5 := hide (hG9.out.rule1 hX5 hgr5)
                have hb5 := hide (rule1_below hbr9.out hG9.out hgr5)
                clear hform5
                subst hv9
                clear hX5 hgr5 hrp9
                go_wp2
                go_roundw
                case rel => exact ⟨j + 1, by rw [hlen.out]; omega, by go_num, by rw [hsb]; exact hG5.out, hb5.out⟩
                case measure => simp [intOf]; omega
      · have hnone : lineP gramT z = none := line_none (by
          rw [hT]
          intro h
          have h2 := hE2.out
          rw [decide_eq_true h] at h2
          cases h2)
        have hsb := step_none (d := d) (sl := sl) (b := b) (m := m) (wk := wk) hnone st
        rw [← hstep, hct] at hsb
        replace hsb := hide hsb
        clear hnone hcut hE2
        go_wp2
        go_roundw
        case rel => exact ⟨j + 1, by rw [hlen.out]; omega, by go_num, by rw [hsb.out]; exact hG4, hbr4⟩
        case measure => simp [intOf]; omega
    · obtain rfl : j = N := by omega
      have hall : lines.take j = lines := by rw [← hlen.out]; exact List.take_length
      rw [hall] at hG
      have hfin : Hid (ParsG ((rulesS d sl b m wk lines).1, (rulesS d sl b m wk lines).2.1.map probT) w (.returned (.tuple #[u8, u9])) wr) := hide ⟨u8, u9, rfl, hG.rs.lower hbW.size, owns_lower hG.ps hbW.size, ext_trans hbW hbr⟩
      clear hG hbr hbW hst0 bG2 hS2 hrow hst
      go_wp2
      go_ret2
      exact hfin.out
end Go.Proofs.YtdnnahdafhddlaaGreatDoor

namespace Go.Proofs.YtdnnahdafhddlaaGreatDoor
open Go.RowKit
set_option maxRecDepth 100000

/-- The reader has noted an error, or stands at a place. -/
def RSt (w : World) (g : Nat) (t : ByteArray) (e : Nat) (s : Except (Nat × Int) Nat) : Prop := match s with
  | .error y => RBad w g t e y
  | .ok a => RdyAt w g t e a ∧ a ≤ t.size
/-- What has been read so far leads to R: an error, or what K says from the place on. -/
def Tie {β : Type} (R : Res β) (s : Except (Nat × Int) Nat) (K : Nat → Res β) : Prop := match s with
  | .error y => R = .error y
  | .ok a => R = K a
section
variable {w w' : World} {g e : Nat} {t : ByteArray} {s : Except (Nat × Int) Nat}
theorem RSt.later (h : RSt w g t e s) (hb : Below w.heap.size w w') : RSt w' g t e s := by
  cases s with
  | error y => exact RBad.later h hb
  | ok a => exact ⟨RdyAt.later h.1 hb, h.2⟩
theorem RSt.same (h : RSt w g t e s) (hg : w'.heap[g]? = w.heap[g]?) : RSt w' g t e s := by
  cases s with
  | error y => exact RBad.same h hg
  | ok a => exact ⟨RdyAt.same h.1 hg, h.2⟩
theorem RmG.tie {α β : Type} {val : World → World → α → Value → Prop} {z : Res α} {R : Res β} {q : α → Nat → Res β} {en : Ending} (h : RmG g t e val z w en w') (h1 : ∀ y, z = .error y → R = .error y) (h2 : ∀ x b, z = .ok (x, b) → R = q x b) :
    Only g w w' ∧ ∃ x v s, en = .returned v ∧ val w w' x v ∧ RSt w' g t e s ∧ Tie R s (q x) := by
  obtain ⟨ho, hm⟩ := h
  refine ⟨ho, ?_⟩
  cases z with
  | error y => obtain ⟨hb, x, v, hv, he⟩ := hm; exact ⟨x, v, .error y, he, hv, hb, h1 y rfl⟩
  | ok zz => obtain ⟨x, b⟩ := zz; obtain ⟨hr, hbl, v, hv, he⟩ := hm; exact ⟨x, v, .ok b, he, hv, ⟨hr, hbl⟩, h2 x b rfl⟩
theorem RmG.then {α β : Type} {val : World → World → α → Value → Prop} {pp : Nat → Res α} {a : Nat} {R : Res β} {q : α → Nat → Res β} {en : Ending} (h : RmG g t e val (pp a) w en w') (hR : R = thenP pp q a) :
    Only g w w' ∧ ∃ x v s, en = .returned v ∧ val w w' x v ∧ RSt w' g t e s ∧ Tie R s (q x) :=
  h.tie (fun _ hy => hR.trans (then_bad hy)) fun _ _ hz => hR.trans (then_of hz)
/-- What comes next, if no error is noted. -/
theorem RSt.look {β : Type} {R : Res β} {K : Nat → Res β} (h : RSt w g t e s) (hT : Tie R s K) (hK : ∀ a b, lookT t e a = .bad b → K a = .error (b, 5)) :
    (∃ y, RBad w g t e y ∧ R = .error y) ∨ (∃ a x p, lookT t e a = .tok x p ∧ a ≤ t.size ∧ RdyAt w g t e a ∧ R = K a) := by
  cases s with
  | error y => exact .inl ⟨y, h, hT⟩
  | ok a =>
    cases hl : lookT t e a with
    | bad b => exact .inl ⟨_, rdy_is_bad hl h.1, hT.trans (hK a b hl)⟩
    | tok x p => exact .inr ⟨a, x, p, hl, h.2, h.1, hT⟩
end
theorem rtake_st {β : Type} {R : Res β} {s : Except (Nat × Int) Nat} {q : Unit → Nat → Res β} (g : Nat) (t : ByteArray) (e : Nat) (k : ByteArray) (w : World) (h : RSt w g t e s) (hT : Tie R s (thenP (needP t e k) q)) (hs : t.size + e < 1073741824) :
    Calls Tryz.prog 150 #[.pointer (some ⟨g, 0, none⟩), .string k] w fun en w' => en = .returned (.tuple #[]) ∧ Only g w w' ∧ ∃ s', RSt w' g t e s' ∧ Tie R s' (q ()) := by
  cases s with
  | error y => exact (rtake_bad g t e y k w h).mono fun en w' ⟨he, ho, hb⟩ => ⟨he, ho, .error y, hb, hT⟩
  | ok a =>
    refine (rtake_walk g t e k a w h.1 hs).mono fun en w' hm => ?_
    obtain ⟨ho, x, v, s', he, hv, h1, h2⟩ := hm.then (q := q) hT
    subst hv
    exact ⟨he, ho, s', h1, h2⟩
theorem rsel_st {β : Type} {R : Res β} {s : Except (Nat × Int) Nat} {q : Sel → Nat → Res β} (f g : Nat) (t : ByteArray) (e : Nat) (w : World) (h : RSt w g t e s) (hT : Tie R s (thenP (selP gramT t e f) q)) (hs : t.size + e < 1073741824) (hgN : 12 ≤ g) (hL : Lvs w) (hf : t.size < f) :
    Calls Tryz.prog 153 #[.pointer (some ⟨g, 0, none⟩), .int .i64 9] w fun en w' => Only g w w' ∧ ∃ x v s', en = .returned v ∧ vSel w w' x v ∧ RSt w' g t e s' ∧ Tie R s' (q x) := by
  cases s with
  | error y => exact (rlistO_bad g t e y w h).mono fun en w' ⟨ho, hb, x, v, hv, he⟩ => ⟨ho, x, v, .error y, he, hv, hb, hT⟩
  | ok a => exact (rlistO_walk f (ratom_all f) g t e a w h.1 h.2 hs hgN hL (by omega)).mono fun en w' hm => RmG.then (pp := selP gramT t e f) (q := q) hm hT
theorem dig_numb (t : ByteArray) (e a : Nat) : digP gramT t e a = numbZ true t e a := by
  unfold digP numbZ
  cases nextP t e a with
  | error y => rfl
  | ok z =>
    obtain ⟨⟨x, p⟩, b⟩ := z
    have hg : gramT.num x = numZ 4 x := rfl
    dsimp only
    rw [hg]
    cases numZ 4 x with
    | none => rfl
    | some n => simp
theorem rnum_st {β : Type} {R : Res β} {s : Except (Nat × Int) Nat} {q : Nat → Nat → Res β} (g : Nat) (t : ByteArray) (e : Nat) (w : World) (h : RSt w g t e s) (hT : Tie R s (thenP (digP gramT t e) q)) (hs : t.size + e < 1073741824) :
    Calls Tryz.prog 151 #[.pointer (some ⟨g, 0, none⟩), .bool true] w fun en w' => Only g w w' ∧ ∃ n s', en = .returned (.int .i64 (n : Nat)) ∧ RSt w' g t e s' ∧ Tie R s' (q n) := by
  cases s with
  | error y => exact (rnumber_bad g t e y true w h).mono fun en w' ⟨⟨n, he⟩, ho, hb⟩ => ⟨ho, n, .error y, he, hb, hT⟩
  | ok a =>
    refine (rnumber_walk g t e a true w h.1 hs).mono fun en w' hm => ?_
    rw [← dig_numb] at hm
    obtain ⟨ho, x, v, s', he, hv, h1, h2⟩ := hm.then (q := q) hT
    subst hv
    exact ⟨ho, x, s', he, h1, h2⟩
theorem rbrack_st {β : Type} {R : Res β} {s : Except (Nat × Int) Nat} {q : List ByteArray → Nat → Res β} (g : Nat) (t : ByteArray) (e : Nat) (w : World) (h : RSt w g t e s) (hT : Tie R s (thenP (brackP gramT t e) q)) (hs : t.size + e < 1073741824) :
    Calls Tryz.prog 154 #[.pointer (some ⟨g, 0, none⟩)] w fun en w' => Only g w w' ∧ ∃ x v s', en = .returned v ∧ vStrs w w' x v ∧ RSt w' g t e s' ∧ Tie R s' (q x) := by
  cases s with
  | error y => exact (rbracket_bad g t e y w h).mono fun en w' ⟨he, ho, hb⟩ => ⟨ho, [], _, .error y, he, ⟨none, 0, rfl, Nat.le_refl _, fun h => absurd h (Nat.lt_irrefl 0)⟩, hb, hT⟩
  | ok a => exact (rbracket_walk g t e a w h.1 hs).mono fun en w' hm => RmG.then (pp := brackP gramT t e) (q := q) hm hT
/-- What the reference's names of the kinds of rules hold. -/
def Nms (w : World) : Prop := ∃ t r, w.heap[(0 : Nat)]? = some (.cells (kindWs.map Value.string).toArray t r)
theorem Nms.after {w w' : World} (h : Nms w) (hb : Below w.heap.size w w') : Nms w' := by obtain ⟨t, r, hr⟩ := h; exact ⟨t, r, (hb.block _ (blk_lt hr)).trans hr⟩
theorem Nms.only {w w' : World} {g : Nat} (h : Nms w) (ho : Only g w w') (hg : 12 ≤ g) : Nms w' := by obtain ⟨t, r, hr⟩ := h; exact ⟨t, r, (ho.block _ (blk_lt hr) (by intro e; injection e with e; omega)).trans hr⟩
theorem Nms.cell {w : World} (h : Nms w) {i : Nat} {x : ByteArray} (hx : kindWs[i]? = some x) : w.cell? ⟨0, i, none⟩ = some (.string x) := by
  obtain ⟨t, r, hr⟩ := h
  rw [cell_of_row w _ _ _ _ _ hr]
  simp [hx]
theorem Nms.lt {w : World} (h : Nms w) : (0 : Nat) < w.heap.size := by obtain ⟨t, r, hr⟩ := h; exact blk_lt hr
theorem Lvs.go {w w' : World} (h : Lvs w) (hb : Below w.heap.size w w') : Lvs w' := by obtain ⟨t, r, hr⟩ := h; exact ⟨t, r, (hb.block _ (blk_lt hr)).trans hr⟩
/-- The state while the reference reads a rule: the reader, the rule's cells, the result's. -/
structure RuR (w : World) (g rb r : Nat) (t : ByteArray) (e : Nat) (s : Except (Nat × Int) Nat) (vs : List Value) (V : World) : Prop where
  st : RSt V g t e s
  row : RowV 43 V r vs
  res : RowV 43 V rb (ru0 ⟨#[]⟩ 0 0)
  only : Only g w V
section
variable {w V V' : World} {g rb r e : Nat} {t : ByteArray} {s s' : Except (Nat × Int) Nat} {vs : List Value}
theorem RuR.next (h : RuR w g rb r t e s vs V) (hgb : g < rb) (hbr : rb < r) (ho : Only g V V') (hp : RSt V' g t e s') : RuR w g rb r t e s' vs V' := ⟨hp, h.row.only ho (by omega), h.res.only ho (by omega), h.only.trans ho⟩
theorem RowV.other {ty : TypeId} {b i : Nat} {o : Nat} {u : Value} {vs : List Value} (h : RowV ty V b vs) (hne : b ≠ o) : RowV ty (V.setCell ⟨o, i, none⟩ u) b vs := by
  obtain ⟨cs, h1, h2⟩ := h
  exact ⟨cs, (Below.heap_setCell _ _ _ b (by show b ≠ o; exact hne)).trans h1, h2⟩
theorem RuR.set (h : RuR w g rb r t e s vs V) (hgb : g < rb) (hbr : rb < r) (hr : w.heap.size ≤ r) (j : Nat) (u : Value) : RuR w g rb r t e s (vs.set j u) (V.setCell ⟨r, j, none⟩ u) :=
  ⟨h.st.same (Below.heap_setCell _ _ _ g (by show g ≠ r; omega)), h.row.set j u, h.res.other (by omega), only_setCell h.only (.inr hr) _⟩
theorem RuR.later (h : RuR w g rb r t e s vs V) (hb : Below V.heap.size V V') : RuR w g rb r t e s vs V' := ⟨h.st.later hb, h.row.later hb, h.res.later hb, Only.later h.only hb⟩
theorem RuR.with (h : RuR w g rb r t e s vs V) (hp : RSt V g t e s') : RuR w g rb r t e s' vs V := ⟨hp, h.row, h.res, h.only⟩
end
theorem then_assoc {α β γ : Type} (p : Nat → Res α) (q : α → Nat → Res β) (k : β → Nat → Res γ) : thenP (thenP p q) k = thenP p fun x => thenP (q x) k := by
  funext a
  unfold thenP
  cases p a with
  | error y => rfl
  | ok z => rfl
theorem then_pure {α β : Type} (x : α) (k : α → Nat → Res β) : thenP (pureP x) k = k x := rfl
theorem Tie.to {β : Type} {R : Res β} {s : Except (Nat × Int) Nat} {K K' : Nat → Res β} (h : Tie R s K) (e : K = K') : Tie R s K' := e ▸ h
section
variable (t : ByteArray) (e f : Nat)
theorem last6 : lastP gramT t e f 6 = thenP (needP t e xComma) fun _ => thenP (selP gramT t e f) fun s => pureP (s, []) := by
  funext a
  unfold lastP thenP
  rw [if_pos rfl]
  cases needP t e xComma a with
  | error y => rfl
  | ok z =>
    obtain ⟨u, b⟩ := z
    dsimp only
    cases selP gramT t e f b with
    | error y => rfl
    | ok zz => rfl
theorem last10 {k : Nat} (h6 : k ≠ 6) (h : k = 10 ∨ k = 11) : lastP gramT t e f k = thenP (needP t e xComma) fun _ => thenP (brackP gramT t e) fun l => pureP (zSel, l) := by
  funext a
  unfold lastP thenP
  rw [if_neg h6, if_pos h]
  cases needP t e xComma a with
  | error y => rfl
  | ok z =>
    obtain ⟨u, b⟩ := z
    dsimp only
    cases brackP gramT t e b with
    | error y => rfl
    | ok zz => rfl
theorem last0 {k : Nat} (h6 : k ≠ 6) (h : ¬ (k = 10 ∨ k = 11)) : lastP gramT t e f k = pureP (zSel, []) := by
  funext a
  unfold lastP pureP
  rw [if_neg h6, if_neg h]
theorem weight_numb {a p : Nat} {x : ByteArray} (hl : lookT t e a = .tok x p) (hx : x ≠ xHard) : weightP gramT t e a = numbZ false t e a := by
  unfold weightP numbZ
  rw [nextP_tok hl]
  have hg : gramT.num x = numZ 4 x := rfl
  dsimp only
  rw [if_neg hx, hg]
  cases numZ 4 x with
  | none => rfl
  | some n =>
    cases n with
    | zero => rfl
    | succ n => simp
theorem weight_hard {a p : Nat} (hl : lookT t e a = .tok xHard p) : weightP gramT t e a = .ok (0, startT t a + xHard.size) := by
  unfold weightP
  rw [nextP_tok hl]
  exact if_pos rfl
end
theorem kinds_apart : ∀ i : Nat, i < 12 → ∀ j : Nat, j < 12 → kindWs[i]? = kindWs[j]? → i = j := by decide +kernel
theorem kind_leaf {x : ByteArray} {j : Nat} (hj : j < 12) (h : kindWs[j]? = some x) : leafK kindWs x = j :=
  leafK_at kindWs x j (fun i hi e => by have := kinds_apart i (by omega) j hj (e.trans h.symm); omega) (.inr h)
theorem leaf_get {ws : List ByteArray} {x : ByteArray} (h : leafK ws x < ws.length) : ws[leafK ws x]? = some x := by
  have := List.findIdx_getElem (p := fun w => decide (w = x)) (xs := ws) (w := h)
  rw [List.getElem?_eq_getElem h]
  exact congrArg some (of_decide_eq_true this)
/-- What the reference's reader of rules does. -/
def RuleG (g : Nat) (t : ByteArray) (e : Nat) (R : Res RuleT) (w : World) (en : Ending) (w' : World) : Prop :=
  Only g w w' ∧ match R with
    | .error y => RBad w' g t e y ∧ ∃ nm wt k f0 f1 fA fl fc s0 s1 sA sl sc m ps, en = .returned (.tuple #[ruleV nm wt k f0 f1 (.slice fA fl fc) s0 s1 (.slice sA sl sc) m, ps])
    | .ok (u, _) => (∃ p x f, Rr w' g t e p x f 0 0) ∧ ∃ v, vRule w w' u v ∧ en = .returned v
/-- Thirteen cells are written. -/
def set13 (V : World) (r : Nat) (n : ByteArray) (wt k : Nat) (f0 : Int) (f1 : ByteArray) (f2 : Value) (s0 : Int) (s1 : ByteArray) (s2 : Value) (m : Nat) : World :=
  (((((((((((((V.setCell ⟨r, 0, none⟩ (.string n)).setCell ⟨r, 1, none⟩ (.int .i64 wt)).setCell ⟨r, 2, none⟩ (.int .i64 k)).setCell ⟨r, 3, none⟩ (.int .i64 f0)).setCell ⟨r, 4, none⟩ (.string f1)).setCell ⟨r, 5, none⟩ f2).setCell ⟨r, 6, none⟩ (.int .i64 s0)).setCell ⟨r, 7, none⟩ (.string s1)).setCell ⟨r, 8, none⟩ s2).setCell ⟨r, 9, none⟩ (.int .i64 m)).setCell ⟨r, 10, none⟩ (.slice none 0 0)).setCell ⟨r, 11, none⟩ (.slice none 0 0)).setCell ⟨r, 12, none⟩ (.int .i64 0))
theorem set13_done {w V : World} {g b : Nat} {x0 x1 x2 x3 x4 x5 x6 x7 x8 x9 x10 x11 x12 : Value} (hrow : RowV 43 V b [x0, x1, x2, x3, x4, x5, x6, x7, x8, x9, x10, x11, x12]) (ho : Only g w V) (hb : w.heap.size ≤ b) (n : ByteArray) (wt k : Nat) (f0 : Int) (f1 : ByteArray) (f2 : Value) (s0 : Int) (s1 : ByteArray) (s2 : Value) (m : Nat) :
    RowV 43 (set13 V b n wt k f0 f1 f2 s0 s1 s2 m) b (ruleL n wt k f0 f1 f2 s0 s1 s2 m) ∧ Only g w (set13 V b n wt k f0 f1 f2 s0 s1 s2 m) ∧ (set13 V b n wt k f0 f1 f2 s0 s1 s2 m).heap.size = V.heap.size ∧ ∀ c, c ≠ b → (set13 V b n wt k f0 f1 f2 s0 s1 s2 m).heap[c]? = V.heap[c]? := by
  have step : ∀ {U : World} {vs : List Value} (j : Nat) (u : Value), RowV 43 U b vs ∧ Only g w U ∧ U.heap.size = V.heap.size ∧ (∀ c, c ≠ b → U.heap[c]? = V.heap[c]?) →
      RowV 43 (U.setCell ⟨b, j, none⟩ u) b (vs.set j u) ∧ Only g w (U.setCell ⟨b, j, none⟩ u) ∧ (U.setCell ⟨b, j, none⟩ u).heap.size = V.heap.size ∧ (∀ c, c ≠ b → (U.setCell ⟨b, j, none⟩ u).heap[c]? = V.heap[c]?) :=
    fun j u ⟨h1, h2, h3, h4⟩ => ⟨h1.set j u, only_setCell h2 (.inr hb) _, by rw [← h3]; simp [World.setCell], fun c hc => (Below.heap_setCell _ _ _ c hc).trans (h4 c hc)⟩
  exact step 12 _ (step 11 _ (step 10 _ (step 9 _ (step 8 _ (step 7 _ (step 6 _ (step 5 _ (step 4 _ (step 3 _ (step 2 _ (step 1 _ (step 0 _ ⟨hrow, ho, rfl, fun _ _ => rfl⟩))))))))))))
end Go.Proofs.YtdnnahdafhddlaaGreatDoor

namespace Go.Proofs.YtdnnahdafhddlaaGreatDoor
open Go.RowKit
set_option maxRecDepth 100000

def Ag13 (v : Value) : Prop := ∃ (n f1 s1 : ByteArray) (wt k f0 s0 m ln : Int) (fA sA tA rA : Option Addr) (fl fc sl sc tl tc rl rc : Nat), v = .agg #[.string n, .int .i64 wt, .int .i64 k, .int .i64 f0, .string f1, .slice fA fl fc, .int .i64 s0, .string s1, .slice sA sl sc, .int .i64 m, .slice tA tl tc, .slice rA rl rc, .int .i64 ln]
abbrev prV (c k : Int) : Value := .agg #[.int .i64 0, .int .i64 0, .int .i64 c, .int .i64 k]
abbrev ruZ : Value := ruleV ⟨#[]⟩ 0 0 0 ⟨#[]⟩ (.slice none 0 0) 0 ⟨#[]⟩ (.slice none 0 0) 0
/-- What the reference says of a line. -/
def LineG (d sl b m wk : Int) (s : ByteArray) (w : World) (en : Ending) (w' : World) : Prop :=
  Below w.heap.size w w' ∧ match lineP gramT s with
    | none => en = .returned (.tuple #[ruZ, prV 0 0])
    | some (.error y) => y.2 ≠ 0 ∧ ∃ v, Ag13 v ∧ en = .returned (.tuple #[v, prV ((y.1 : Int) + 1) y.2])
    | some (.ok u) => match finR d sl b m wk 0 u with
      | .error c => c ≠ 0 ∧ ∃ v, Ag13 v ∧ en = .returned (.tuple #[v, prV 0 c])
      | .ok r => ∃ x0 x1 x2 x3 x4 x5 x6 x7 x8 x9 x10 x11 x12, en = .returned (.tuple #[.agg #[x0, x1, x2, x3, x4, x5, x6, x7, x8, x9, x10, x11, x12], prV 0 0]) ∧ kRule.rep (fun b => w.heap.size ≤ b) w' r [x0, x1, x2, x3, x4, x5, x6, x7, x8, x9, x10, x11, x12]
theorem end_line {fn : Func} {p u : Tmp} (hr : fn.results = #[.cell p 43, .cell u 55]) {Q : Ending → World → Prop} {act : Act} {w : World} (g q : Nat) {v1 v2 : Value} (hd : act.defers = [])
    (hp : act.tmps.getD p undef = .pointer (some ⟨g, 0, none⟩)) (hu : act.tmps.getD u undef = .pointer (some ⟨q, 0, none⟩))
    (h1 : (loadVar 43 ⟨g, 0, none⟩).run Tryz.prog w = .ok v1 w) (h2 : (loadVar 55 ⟨q, 0, none⟩).run Tryz.prog w = .ok v2 w)
    (hQ : Q (.returned (.tuple #[v1, v2])) w) : bodyPost Tryz.prog fn Q .ret act w := by
  refine bodyPost_ret (v := .tuple #[v1, v2]) ?_ hd hQ
  simp only [results, hr]
  simp [Sem.run_bind, Result.andThen, -Array.getD_eq_getD_getElem?]
  rw [hp]
  simp only [asAddr, Sem.run_pure]
  rw [h1]
  simp only [hu, Sem.run_pure]
  rw [h2]
theorem load4p {w : World} {g : Nat} {a b c d : Value} (h : RowV 55 w g [a, b, c, d]) : (loadVar 55 ⟨g, 0, none⟩).run Tryz.prog w = .ok (.agg #[a, b, c, d]) w := by
  have h0 := h.get (j := 0) rfl
  have h1 := h.get (j := 1) rfl
  have h2 := h.get (j := 2) rfl
  have h3 := h.get (j := 3) rfl
  simp [go_sem, h0, h1, h2, h3]
theorem joinP_step {ps : List ByteArray} {j : Nat} {z : ByteArray} (h : ps[j]? = some z) : joinP (ps.take (j + 1)) = if j = 0 then z else (joinP (ps.take j) ++ ⟨#[59]⟩) ++ z := by
  have hj := (List.getElem?_eq_some_iff.1 h).1
  rw [List.take_add_one, h]
  apply ByteArray.ext
  apply Array.toList_inj.1
  by_cases h0 : j = 0
  · subst h0
    rw [if_pos rfl]
    show (Lib.join ((ps.take 0 ++ [z]).map fun q : ByteArray => q.data.toList) [59]).toArray.toList = _
    rw [List.toList_toArray, List.take_zero, List.nil_append, List.map_singleton, Lib.join_one]
  · rw [if_neg h0]
    obtain ⟨x, r, hx⟩ : ∃ x r, ps.take j = x :: r := by
      cases hq : ps.take j with
      | nil => have h2 := congrArg List.length hq; rw [List.length_take, List.length_nil] at h2; omega
      | cons x r => exact ⟨x, r, rfl⟩
    rw [hx]
    rw [ByteArray.data_append, ByteArray.data_append, Array.toList_append, Array.toList_append]
    show (Lib.join (((x :: r) ++ [z]).map fun q : ByteArray => q.data.toList) [59]).toArray.toList = (Lib.join ((x :: r).map fun q : ByteArray => q.data.toList) [59]).toArray.toList ++ [59] ++ z.data.toList
    rw [List.toList_toArray, List.toList_toArray, List.cons_append, List.map_cons, List.map_cons, Lib.join_cons, Lib.join_cons]
    simp [Lib.joinTail]
theorem joinP_up (ps : List ByteArray) (j : Nat) : ∀ k, (joinP (ps.take j)).size ≤ (joinP (ps.take (j + k))).size
  | 0 => Nat.le_refl _
  | k + 1 => by
    refine Nat.le_trans (joinP_up ps j k) ?_
    cases hz : ps[j + k]? with
    | none => rw [← Nat.add_assoc, List.take_add_one, hz]; simp
    | some z =>
      rw [← Nat.add_assoc, joinP_step hz]
      by_cases h0 : j + k = 0
      · rw [h0]; exact Nat.zero_le _
      · rw [if_neg h0, ByteArray.size_append, ByteArray.size_append]; omega
theorem joinP_le (ps : List ByteArray) {j : Nat} (hj : j ≤ ps.length) : (joinP (ps.take j)).size ≤ (joinP ps).size := by
  have h := joinP_up ps j (ps.length - j)
  rwa [show j + (ps.length - j) = ps.length from by omega, List.take_length] at h
/-- Thirteen cells are written, then four of another block. -/
def set17 (V : World) (r q : Nat) (x0 x1 x2 x3 x4 x5 x6 x7 x8 x9 x10 x11 x12 y0 y1 y2 y3 : Value) : World :=
  ((((((((((((((((V.setCell ⟨r, 0, none⟩ x0).setCell ⟨r, 1, none⟩ x1).setCell ⟨r, 2, none⟩ x2).setCell ⟨r, 3, none⟩ x3).setCell ⟨r, 4, none⟩ x4).setCell ⟨r, 5, none⟩ x5).setCell ⟨r, 6, none⟩ x6).setCell ⟨r, 7, none⟩ x7).setCell ⟨r, 8, none⟩ x8).setCell ⟨r, 9, none⟩ x9).setCell ⟨r, 10, none⟩ x10).setCell ⟨r, 11, none⟩ x11).setCell ⟨r, 12, none⟩ x12).setCell ⟨q, 0, none⟩ y0).setCell ⟨q, 1, none⟩ y1).setCell ⟨q, 2, none⟩ y2).setCell ⟨q, 3, none⟩ y3
theorem set17_done {w V : World} {r q : Nat} {u0 u1 u2 u3 u4 u5 u6 u7 u8 u9 u10 u11 u12 z0 z1 z2 z3 : Value} (h1 : RowV 43 V r [u0, u1, u2, u3, u4, u5, u6, u7, u8, u9, u10, u11, u12]) (h2 : RowV 55 V q [z0, z1, z2, z3]) (hne : r ≠ q) (hb : Below w.heap.size w V) (hr : w.heap.size ≤ r) (hq : w.heap.size ≤ q) (x0 x1 x2 x3 x4 x5 x6 x7 x8 x9 x10 x11 x12 y0 y1 y2 y3 : Value) :
    RowV 43 (set17 V r q x0 x1 x2 x3 x4 x5 x6 x7 x8 x9 x10 x11 x12 y0 y1 y2 y3) r [x0, x1, x2, x3, x4, x5, x6, x7, x8, x9, x10, x11, x12] ∧ RowV 55 (set17 V r q x0 x1 x2 x3 x4 x5 x6 x7 x8 x9 x10 x11 x12 y0 y1 y2 y3) q [y0, y1, y2, y3] ∧
      Below w.heap.size w (set17 V r q x0 x1 x2 x3 x4 x5 x6 x7 x8 x9 x10 x11 x12 y0 y1 y2 y3) ∧ (set17 V r q x0 x1 x2 x3 x4 x5 x6 x7 x8 x9 x10 x11 x12 y0 y1 y2 y3).heap.size = V.heap.size ∧ ∀ c, c ≠ r → c ≠ q → (set17 V r q x0 x1 x2 x3 x4 x5 x6 x7 x8 x9 x10 x11 x12 y0 y1 y2 y3).heap[c]? = V.heap[c]? := by
  have stepR : ∀ {U : World} {vs ws : List Value} (j : Nat) (u : Value), RowV 43 U r vs ∧ RowV 55 U q ws ∧ Below w.heap.size w U ∧ U.heap.size = V.heap.size ∧ (∀ c, c ≠ r → c ≠ q → U.heap[c]? = V.heap[c]?) →
      RowV 43 (U.setCell ⟨r, j, none⟩ u) r (vs.set j u) ∧ RowV 55 (U.setCell ⟨r, j, none⟩ u) q ws ∧ Below w.heap.size w (U.setCell ⟨r, j, none⟩ u) ∧ (U.setCell ⟨r, j, none⟩ u).heap.size = V.heap.size ∧ (∀ c, c ≠ r → c ≠ q → (U.setCell ⟨r, j, none⟩ u).heap[c]? = V.heap[c]?) :=
    fun j u ⟨a1, a2, a3, a4, a5⟩ => ⟨a1.set j u, a2.other (Ne.symm hne), ext_set a3 hr u, by rw [← a4]; simp [World.setCell], fun c hc hc2 => (Below.heap_setCell _ _ _ c hc).trans (a5 c hc hc2)⟩
  have stepQ : ∀ {U : World} {vs ws : List Value} (j : Nat) (u : Value), RowV 43 U r vs ∧ RowV 55 U q ws ∧ Below w.heap.size w U ∧ U.heap.size = V.heap.size ∧ (∀ c, c ≠ r → c ≠ q → U.heap[c]? = V.heap[c]?) →
      RowV 43 (U.setCell ⟨q, j, none⟩ u) r vs ∧ RowV 55 (U.setCell ⟨q, j, none⟩ u) q (ws.set j u) ∧ Below w.heap.size w (U.setCell ⟨q, j, none⟩ u) ∧ (U.setCell ⟨q, j, none⟩ u).heap.size = V.heap.size ∧ (∀ c, c ≠ r → c ≠ q → (U.setCell ⟨q, j, none⟩ u).heap[c]? = V.heap[c]?) :=
    fun j u ⟨a1, a2, a3, a4, a5⟩ => ⟨a1.other hne, a2.set j u, ext_set a3 hq u, by rw [← a4]; simp [World.setCell], fun c hc hc2 => (Below.heap_setCell _ _ _ c hc2).trans (a5 c hc hc2)⟩
  exact stepQ 3 _ (stepQ 2 _ (stepQ 1 _ (stepQ 0 _ (stepR 12 _ (stepR 11 _ (stepR 10 _ (stepR 9 _ (stepR 8 _ (stepR 7 _ (stepR 6 _ (stepR 5 _ (stepR 4 _ (stepR 3 _ (stepR 2 _ (stepR 1 _ (stepR 0 _ ⟨h1, h2, hb, rfl, fun _ _ _ => rfl⟩))))))))))))))))
/-- What stays as it is while the reference reads a line: the grid, the results. -/
structure LnR (d sl b m : Int) (gb ub qb : Nat) (V : World) : Prop where
  grid : Box4 V gb (.int .i64 d) (.int .i64 sl) (.int .i64 b) (.int .i64 m)
  rule : RowV 43 V ub (ru0 ⟨#[]⟩ 0 0)
  prob : RowV 55 V qb [.int .i64 0, .int .i64 0, .int .i64 0, .int .i64 0]
section
variable {d sl b m : Int} {gb ub qb g : Nat} {V V' : World}
theorem LnR.later (h : LnR d sl b m gb ub qb V) (hb : Below V.heap.size V V') : LnR d sl b m gb ub qb V' := ⟨h.grid.later hb, h.rule.later hb, h.prob.later hb⟩
theorem LnR.only (h : LnR d sl b m gb ub qb V) (ho : Only g V V') (h1 : gb < g) (h2 : ub < g) (h3 : qb < g) : LnR d sl b m gb ub qb V' := ⟨h.grid.only ho (by omega), h.rule.only ho (by omega), h.prob.only ho (by omega)⟩
end
end Go.Proofs.YtdnnahdafhddlaaGreatDoor
