/- Walks of timetableref14.SameSelect, SameRule, Same, where both hold the same; timetableref14.Index. Conditions: the cells. From a walk to a statement: what the listed variables give, and the step from 'the call returns true and lays new blocks at most' to the row. -/
import Derived.Test.YtdnnahdafhddlaaGreatDoorURuH
namespace Go.Proofs.YtdnnahdafhddlaaGreatDoor
open Go.RowKit
set_option maxRecDepth 100000

theorem rep_same {S S' : Nat → Prop} {w w' : World} {s : Sel} {k k' : Int} {n n' : ByteArray} {A A' : Option Addr} {l l' c c' : Nat} (h : kSel.rep S w s [.int .i64 k, .string n, .slice A l c]) (h' : kSel.rep S' w' s [.int .i64 k', .string n', .slice A' l' c']) : k' = k ∧ n' = n := by
  obtain ⟨q, m, ks⟩ := s
  obtain ⟨B, d, he, -, -⟩ := rep_sel.1 h
  obtain ⟨B', d', he', -, -⟩ := rep_sel.1 h'
  simp only [List.cons.injEq, Value.int.injEq, Value.string.injEq, and_true, true_and] at he he'
  exact ⟨he'.1.trans he.1.symm, he'.2.1.trans he.2.1.symm⟩
set_option maxHeartbeats 4000000 in
theorem rsame_walk : ∀ (s : Sel), selSize s ≤ 9223372036854775807 → ∀ (k : Int) (n : ByteArray) (A A' : Option Addr) (l l' c c' : Nat) (w : World), kSel.rep AnyB w s [.int .i64 k, .string n, .slice A l c] → kSel.rep AnyB w s [.int .i64 k, .string n, .slice A' l' c'] →
    Calls Tryz.prog 104 #[.agg #[.int .i64 k, .string n, .slice A l c], .agg #[.int .i64 k, .string n, .slice A' l' c']] w fun e w' => e = .returned (.bool true) ∧ Below w.heap.size w w' := by
  refine Sel.ind fun k n ks ih hs k' n' A A' l l' c c' w hr hr' => ?_
  obtain ⟨ks1, he, rfl, hcap, hA⟩ := sel_boxed hr
  obtain ⟨ks2, he', rfl, hcap', hA'⟩ := sel_boxed hr'
  injection he with he1 he2 he3
  injection he' with he1' he2' he3'
  subst he1
  subst he2
  subst he3
  subst he3'
  rw [selSize_mk] at hs
  have hll := len_le_sum ks
  have hkm : ∀ x, x ∈ ks → selSize x ≤ 9223372036854775807 := fun x hx => by have := sel_le_sum hx; omega
  obtain ⟨N, hN⟩ : ∃ N, ks.length = N := ⟨_, rfl⟩
  rw [hN] at hcap hcap' hll ⊢
  obtain ⟨W, hW⟩ : ∃ W, (w.alloc (.cells #[.int .i64 k, .string n, .slice A N c] 40)).alloc (.cells #[.int .i64 k, .string n, .slice A' N c'] 40) = W := ⟨_, rfl⟩
  obtain ⟨r, hrr⟩ : ∃ r, w.heap.size = r := ⟨_, rfl⟩
  have hb1 : Below w.heap.size w W := by rw [← hW]; exact (by repeat (first | exact Below.refl _ _ | refine ext_alloc ?_ _ | refine ext_drewN ?_ _ | refine ext_drew ?_ | refine ext_trans ?_ (by assumption)))
  have hr1 : W.heap[r]? = some (.cells #[.int .i64 k, .string n, .slice A N c] 40 (0, 0)) := by rw [← hW, ← hrr]; exact (Below.heap_alloc _ _ _ (by simp only [World.size_alloc]; omega)).trans (heap_alloc_new _ _)
  have hr2 : W.heap[r + 1]? = some (.cells #[.int .i64 k, .string n, .slice A' N c'] 40 (0, 0)) := by
    rw [← hW, ← hrr]
    have := heap_alloc_new (w.alloc (.cells #[.int .i64 k, .string n, .slice A N c] 40)) (.cells #[.int .i64 k, .string n, .slice A' N c'] 40)
    rw [World.size_alloc] at this
    exact this
  have hA1 := hA.later hb1
  have hA2 := hA'.later hb1
  have hNl : N ≤ 9223372036854775807 := by omega
  have ih := hide (fun x hx => ih x hx (hkm x hx))
  replace hN := hide hN
  clear hA hA' hr hr' hs hkm
  obtain ⟨y0, y1, y2, -⟩ := sel_cells hr1
  obtain ⟨z0, z1, z2, -⟩ := sel_cells hr2
  have l1 := blk_lt hr1
  have l2 := blk_lt hr2
  go_enter Tryz.func104, Tryz.ntmps104
  go_wp2
  clear y0 y1 y2 z0 z1 z2 l1 l2
  replace hW := hide hW
  replace hrr := hide hrr
  go_loopw [5] (fun i wr => ∃ j : Nat, j ≤ N ∧ i = .int .i64 j ∧ Below W.heap.size W wr) (fun i _ => N - (intOf i).toNat)
  case atStart => exact ⟨0, Nat.zero_le _, rfl, Below.refl _ _⟩
  case round =>
    obtain ⟨j, hj, rfl, hbr⟩ := hrel
    have hrw1 : wr.heap[r]? = _ := (hbr.block r (blk_lt hr1)).trans hr1
    have hrw2 : wr.heap[r + 1]? = _ := (hbr.block (r + 1) (blk_lt hr2)).trans hr2
    obtain ⟨y0, y1, y2, -⟩ := sel_cells hrw1
    obtain ⟨z0, z1, z2, -⟩ := sel_cells hrw2
    have hrl1 := blk_lt hrw1
    have hrl2 := blk_lt hrw2
    by_cases hjN : j < N
    · obtain ⟨z, hz⟩ : ∃ z, ks[j]? = some z := ⟨_, List.getElem?_eq_getElem (by rw [hN.out]; exact hjN)⟩
      have hzm := List.mem_of_getElem? hz
      obtain ⟨pb, po, vs, rfl, -, hpl, hrep, hcl⟩ := (hA1.later hbr).get hz
      obtain ⟨pb', po', vs', rfl, -, hpl', hrep', hcl'⟩ := (hA2.later hbr).get hz
      obtain ⟨k9, n9, A9, m9, c9, rfl⟩ := SelRep.form hrep
      obtain ⟨k8, n8, A8, m8, c8, rfl⟩ := SelRep.form hrep'
      obtain ⟨e1, e2⟩ := rep_same hrep' hrep
      subst e1
      subst e2
      have q0 : wr.cell? ⟨pb, po + j * 3, none⟩ = some (.int .i64 k9) := hcl 0 _ rfl
      have q1 : wr.cell? ⟨pb, po + j * 3 + 1, none⟩ = some (.string n9) := hcl 1 _ rfl
      have q2 : wr.cell? ⟨pb, po + j * 3 + 2, none⟩ = some (.slice A9 m9 c9) := hcl 2 _ rfl
      have p0 : wr.cell? ⟨pb', po' + j * 3, none⟩ = some (.int .i64 k9) := hcl' 0 _ rfl
      have p1 : wr.cell? ⟨pb', po' + j * 3 + 1, none⟩ = some (.string n9) := hcl' 1 _ rfl
      have p2 : wr.cell? ⟨pb', po' + j * 3 + 2, none⟩ = some (.slice A8 m8 c8) := hcl' 2 _ rfl
      have k0 : (0 : Int) ≤ (j : Int) := by omega
      have k1 : (j : Int) < (N : Int) := by omega
      have hc := ih.out z hzm k9 n9 A9 A8 m9 m8 c9 c8 wr hrep hrep'
      have hcall0 := hide (fun (U : World) (hU : Below wr.heap.size wr U) => ih.out z hzm k9 n9 A9 A8 m9 m8 c9 c8 U (kSel.later hrep hU) (kSel.later hrep' hU))
      have hSL : Cn8 r 2 (.slice (some ⟨pb, po, none⟩) N c) (r + 1) 2 (.slice (some ⟨pb', po', none⟩) N c') pb ((po + j * 3)) (.int .i64 k9) pb ((po + j * 3 + 1)) (.string n9) pb ((po + j * 3 + 2)) (.slice A9 m9 c9) pb' ((po' + j * 3)) (.int .i64 k9) pb' ((po' + j * 3 + 1)) (.string n9) pb' ((po' + j * 3 + 2)) (.slice A8 m8 c8) wr := ⟨y2, z2, q0, q1, q2, p0, p1, p2⟩
      have hcall := hide (fun (U : World) (hU : Below wr.heap.size wr U) => (hcall0.out U hU).mono fun e w' ⟨he, hb⟩ => (⟨he, ext_trans hU hb, hSL.later (ext_trans hU hb)⟩ : e = Ending.returned (.bool true) ∧ Below wr.heap.size wr w' ∧ Cn8 r 2 (.slice (some ⟨pb, po, none⟩) N c) (r + 1) 2 (.slice (some ⟨pb', po', none⟩) N c') pb ((po + j * 3)) (.int .i64 k9) pb ((po + j * 3 + 1)) (.string n9) pb ((po + j * 3 + 2)) (.slice A9 m9 c9) pb' ((po' + j * 3)) (.int .i64 k9) pb' ((po' + j * 3 + 1)) (.string n9) pb' ((po' + j * 3 + 2)) (.slice A8 m8 c8) w'))
      have hSd := hSL.drew
      have hrefl := Below.refl wr.heap.size wr
      clear hcl hcl' hrep hrep' hz hrw1 hrw2 hcall0 hc y0 y1 z0 z1
      go_wp2_with fail
      go_region_held3 (fun W' => W'.cell? ⟨r, 2, none⟩ = some (.slice (some ⟨pb, po, none⟩) N c) ∧ W'.cell? ⟨r + 1, 2, none⟩ = some (.slice (some ⟨pb', po', none⟩) N c') ∧ W'.cell? ⟨pb, (po + j * 3), none⟩ = some (.int .i64 k9) ∧ W'.cell? ⟨pb, (po + j * 3 + 1), none⟩ = some (.string n9) ∧ W'.cell? ⟨pb, (po + j * 3 + 2), none⟩ = some (.slice A9 m9 c9) ∧ W'.cell? ⟨pb', (po' + j * 3), none⟩ = some (.int .i64 k9) ∧ W'.cell? ⟨pb', (po' + j * 3 + 1), none⟩ = some (.string n9) ∧ W'.cell? ⟨pb', (po' + j * 3 + 2), none⟩ = some (.slice A8 m8 c8)) (first | ((repeat (first | (with_reducible assumption) | (with_reducible refine Cn8.alloc ?_ _) | (with_reducible refine Cn8.drew ?_) | (with_reducible refine Cn8.set ?_ ?_ ?_ ?_ ?_ ?_ ?_ ?_ ?_ _) | omega)); done)) (first | (go_at_call 104; refine (hcall.out _ (by repeat (first | (with_reducible assumption) | (with_reducible refine ext_alloc ?_ _) | (with_reducible refine ext_drew ?_)))).mono ?_; rintro e w2 ⟨rfl, hb2, hc2⟩))
      all_goals
        have hbn := ext_trans hbr hb2
        go_wp2
        go_roundw
        case rel => exact ⟨j + 1, by omega, by go_num, by first | exact ext_drew hbn | exact hbn⟩
        case measure => simp [intOf]; omega
    · obtain rfl : j = N := by omega
      clear hrw1 hrw2
      go_wp2
      go_ret
      exact ⟨rfl, ext_trans hb1 hbr⟩
theorem at_low {α : Type} {K : Kind α} {S : Nat → Prop} {w : World} {A : Option Addr} {l : List α} (h : At K S w A l) : At K (· < w.heap.size) w A l := h.kept fun _ _ hlt => ⟨hlt, hlt, rfl⟩
set_option maxHeartbeats 4000000 in
theorem rsrule_walk (u : RuleD) (hu : RuleOk u) (f0 s0 ln l2 : Int) (f1 s1 : ByteArray) (fA sA tA rA fA' sA' tA' rA' : Option Addr) (fl fc sl sc tc rc fl' fc' sl' sc' tc' rc' : Nat) (w : World)
    (h1 : kSel.rep AnyB w u.first [.int .i64 f0, .string f1, .slice fA fl fc]) (h2 : kSel.rep AnyB w u.second [.int .i64 s0, .string s1, .slice sA sl sc]) (h3 : At kTime AnyB w tA u.times) (h4 : At kStr AnyB w rA u.rooms)
    (g1 : kSel.rep AnyB w u.first [.int .i64 f0, .string f1, .slice fA' fl' fc']) (g2 : kSel.rep AnyB w u.second [.int .i64 s0, .string s1, .slice sA' sl' sc']) (g3 : At kTime AnyB w tA' u.times) (g4 : At kStr AnyB w rA' u.rooms) :
    Calls Tryz.prog 58 #[.agg #[.string u.name, .int .i64 u.weight, .int .i64 u.kind, .int .i64 f0, .string f1, .slice fA fl fc, .int .i64 s0, .string s1, .slice sA sl sc, .int .i64 u.n, .slice tA u.times.length tc, .slice rA u.rooms.length rc, .int .i64 ln], .agg #[.string u.name, .int .i64 u.weight, .int .i64 u.kind, .int .i64 f0, .string f1, .slice fA' fl' fc', .int .i64 s0, .string s1, .slice sA' sl' sc', .int .i64 u.n, .slice tA' u.times.length tc', .slice rA' u.rooms.length rc', .int .i64 l2]] w fun e w' => e = .returned (.bool true) ∧ Below w.heap.size w w' := by
  obtain ⟨o1, o2, o3, o4⟩ := hu
  obtain ⟨nm, hnm⟩ : ∃ nm, u.name = nm := ⟨_, rfl⟩
  obtain ⟨wt, hwt⟩ : ∃ wt, u.weight = wt := ⟨_, rfl⟩
  obtain ⟨kd, hkd⟩ : ∃ kd, u.kind = kd := ⟨_, rfl⟩
  obtain ⟨nn, hnn⟩ : ∃ nn, u.n = nn := ⟨_, rfl⟩
  obtain ⟨W, hW⟩ : ∃ W, (w.alloc (.cells #[.string u.name, .int .i64 u.weight, .int .i64 u.kind, .int .i64 f0, .string f1, .slice fA fl fc, .int .i64 s0, .string s1, .slice sA sl sc, .int .i64 u.n, .slice tA u.times.length tc, .slice rA u.rooms.length rc, .int .i64 ln] 43)).alloc (.cells #[.string u.name, .int .i64 u.weight, .int .i64 u.kind, .int .i64 f0, .string f1, .slice fA' fl' fc', .int .i64 s0, .string s1, .slice sA' sl' sc', .int .i64 u.n, .slice tA' u.times.length tc', .slice rA' u.rooms.length rc', .int .i64 l2] 43) = W := ⟨_, rfl⟩
  obtain ⟨r, hrr⟩ : ∃ r, w.heap.size = r := ⟨_, rfl⟩
  have hb1 : Below w.heap.size w W := by rw [← hW]; exact (by repeat (first | exact Below.refl _ _ | refine ext_alloc ?_ _ | refine ext_drewN ?_ _ | refine ext_drew ?_ | refine ext_trans ?_ (by assumption)))
  have ha : RowV 43 W r [.string u.name, .int .i64 u.weight, .int .i64 u.kind, .int .i64 f0, .string f1, .slice fA fl fc, .int .i64 s0, .string s1, .slice sA sl sc, .int .i64 u.n, .slice tA u.times.length tc, .slice rA u.rooms.length rc, .int .i64 ln] := ⟨_, by rw [← hW, ← hrr]; exact (Below.heap_alloc _ _ _ (by simp only [World.size_alloc]; omega)).trans (heap_alloc_new _ _), rfl⟩
  have hc : RowV 43 W (r + 1) [.string u.name, .int .i64 u.weight, .int .i64 u.kind, .int .i64 f0, .string f1, .slice fA' fl' fc', .int .i64 s0, .string s1, .slice sA' sl' sc', .int .i64 u.n, .slice tA' u.times.length tc', .slice rA' u.rooms.length rc', .int .i64 l2] := ⟨_, by
    rw [← hW, ← hrr]
    have := heap_alloc_new (w.alloc (.cells #[.string u.name, .int .i64 u.weight, .int .i64 u.kind, .int .i64 f0, .string f1, .slice fA fl fc, .int .i64 s0, .string s1, .slice sA sl sc, .int .i64 u.n, .slice tA u.times.length tc, .slice rA u.rooms.length rc, .int .i64 ln] 43)) (.cells #[.string u.name, .int .i64 u.weight, .int .i64 u.kind, .int .i64 f0, .string f1, .slice fA' fl' fc', .int .i64 s0, .string s1, .slice sA' sl' sc', .int .i64 u.n, .slice tA' u.times.length tc', .slice rA' u.rooms.length rc', .int .i64 l2] 43)
    rw [World.size_alloc] at this
    exact this, rfl⟩
  have c1 := hide (fun (U : World) (hU : Below W.heap.size W U) => rsame_walk u.first o1 f0 f1 fA fA' fl fl' fc fc' U (kSel.later (kSel.later h1 hb1) hU) (kSel.later (kSel.later g1 hb1) hU))
  have c2 := hide (fun (U : World) (hU : Below W.heap.size W U) => rsame_walk u.second o2 s0 s1 sA sA' sl sl' sc sc' U (kSel.later (kSel.later h2 hb1) hU) (kSel.later (kSel.later g2 hb1) hU))
  have c3 := hide (fun (U : World) (hU : Below W.heap.size W U) => r7Same_walk tA tA' u.times.length tc tc' _ U o3 (cells_of_at (at_low ((h3.later hb1).later hU))) (cells_of_at (at_low ((g3.later hb1).later hU))))
  have c4 := hide (fun (U : World) (hU : Below W.heap.size W U) => r2SameS_walk rA rA' u.rooms rc rc' U o4 ((h4.later hb1).later hU) ((g4.later hb1).later hU))
  obtain ⟨nt, hnt⟩ : ∃ nt, u.times.length = nt := ⟨_, rfl⟩
  obtain ⟨nr, hnr⟩ : ∃ nr, u.rooms.length = nr := ⟨_, rfl⟩
  rw [hnm, hwt, hkd, hnn, hnt, hnr] at ha hc hW
  rw [hnm, hwt, hkd, hnn, hnt, hnr]
  rw [hnt] at c3
  rw [hnr] at c4
  have hah := hide ha
  have hch := hide hc
  have a0 := ha.get (j := 0) rfl
  have a1 := ha.get (j := 1) rfl
  have a2 := ha.get (j := 2) rfl
  have a3 := ha.get (j := 3) rfl
  have a4 := ha.get (j := 4) rfl
  have a5 := ha.get (j := 5) rfl
  have a9 := ha.get (j := 9) rfl
  have d0 := hc.get (j := 0) rfl
  have d1 := hc.get (j := 1) rfl
  have d2 := hc.get (j := 2) rfl
  have d3 := hc.get (j := 3) rfl
  have d4 := hc.get (j := 4) rfl
  have d5 := hc.get (j := 5) rfl
  have d9 := hc.get (j := 9) rfl
  have la := ha.lt
  have lc := hc.lt
  have hq1 := c1.out W (Below.refl _ _)
  clear h1 h2 h3 h4 g1 g2 g3 g4 o1 o2 o3 o4 hnm hwt hkd hnn hnt hnr ha hc
  replace hb1 := hide hb1
  go_enter Tryz.func58, Tryz.ntmps58
  go_wp2_with fail
  replace hW := hide hW
  replace hrr := hide hrr
  refine hq1.mono ?_
  rintro e w1 ⟨rfl, k1⟩
  clear a0 a1 a2 a3 a4 a5 a9 d0 d1 d2 d3 d4 d5 d9 la lc hq1
  have ha := hah.out.later k1
  have hc := hch.out.later k1
  have a6 := ha.get (j := 6) rfl
  have a7 := ha.get (j := 7) rfl
  have a8 := ha.get (j := 8) rfl
  have d6 := hc.get (j := 6) rfl
  have d7 := hc.get (j := 7) rfl
  have d8 := hc.get (j := 8) rfl
  have la := ha.lt
  have lc := hc.lt
  have hq2 := c2.out w1 k1
  clear ha hc
  go_wp2_with fail
  refine hq2.mono ?_
  rintro e w2 ⟨rfl, k2⟩
  clear a6 a7 a8 d6 d7 d8 la lc hq2
  replace k2 := ext_trans k1 k2
  have ha := hah.out.later k2
  have hc := hch.out.later k2
  have a10 := ha.get (j := 10) rfl
  have d10 := hc.get (j := 10) rfl
  have la := ha.lt
  have lc := hc.lt
  have hq3 := c3.out w2 k2
  clear ha hc k1
  go_wp2_with fail
  refine hq3.mono ?_
  rintro e w3 ⟨rfl, k3⟩
  clear a10 d10 la lc hq3
  replace k3 := ext_trans k2 k3
  have ha := hah.out.later k3
  have hc := hch.out.later k3
  have a11 := ha.get (j := 11) rfl
  have d11 := hc.get (j := 11) rfl
  have la := ha.lt
  have lc := hc.lt
  have hq4 := c4.out w3 k3
  clear ha hc k2
  go_wp2_with fail
  refine hq4.mono ?_
  rintro e w4 ⟨rfl, k4⟩
  clear a11 d11 la lc hq4
  replace k4 := ext_trans k3 k4
  go_wp2
  go_ret
  exact ⟨rfl, ext_trans hb1.out k4⟩
abbrev Cn26 (b1 o1 : Nat) (v1 : Value) (b2 o2 : Nat) (v2 : Value) (b3 o3 : Nat) (v3 : Value) (b4 o4 : Nat) (v4 : Value) (b5 o5 : Nat) (v5 : Value) (b6 o6 : Nat) (v6 : Value) (b7 o7 : Nat) (v7 : Value) (b8 o8 : Nat) (v8 : Value) (b9 o9 : Nat) (v9 : Value) (b10 o10 : Nat) (v10 : Value) (b11 o11 : Nat) (v11 : Value) (b12 o12 : Nat) (v12 : Value) (b13 o13 : Nat) (v13 : Value) (b14 o14 : Nat) (v14 : Value) (b15 o15 : Nat) (v15 : Value) (b16 o16 : Nat) (v16 : Value) (b17 o17 : Nat) (v17 : Value) (b18 o18 : Nat) (v18 : Value) (b19 o19 : Nat) (v19 : Value) (b20 o20 : Nat) (v20 : Value) (b21 o21 : Nat) (v21 : Value) (b22 o22 : Nat) (v22 : Value) (b23 o23 : Nat) (v23 : Value) (b24 o24 : Nat) (v24 : Value) (b25 o25 : Nat) (v25 : Value) (b26 o26 : Nat) (v26 : Value) (W : World) : Prop := W.cell? ⟨b1, o1, none⟩ = some v1 ∧ W.cell? ⟨b2, o2, none⟩ = some v2 ∧ W.cell? ⟨b3, o3, none⟩ = some v3 ∧ W.cell? ⟨b4, o4, none⟩ = some v4 ∧ W.cell? ⟨b5, o5, none⟩ = some v5 ∧ W.cell? ⟨b6, o6, none⟩ = some v6 ∧ W.cell? ⟨b7, o7, none⟩ = some v7 ∧ W.cell? ⟨b8, o8, none⟩ = some v8 ∧ W.cell? ⟨b9, o9, none⟩ = some v9 ∧ W.cell? ⟨b10, o10, none⟩ = some v10 ∧ W.cell? ⟨b11, o11, none⟩ = some v11 ∧ W.cell? ⟨b12, o12, none⟩ = some v12 ∧ W.cell? ⟨b13, o13, none⟩ = some v13 ∧ W.cell? ⟨b14, o14, none⟩ = some v14 ∧ W.cell? ⟨b15, o15, none⟩ = some v15 ∧ W.cell? ⟨b16, o16, none⟩ = some v16 ∧ W.cell? ⟨b17, o17, none⟩ = some v17 ∧ W.cell? ⟨b18, o18, none⟩ = some v18 ∧ W.cell? ⟨b19, o19, none⟩ = some v19 ∧ W.cell? ⟨b20, o20, none⟩ = some v20 ∧ W.cell? ⟨b21, o21, none⟩ = some v21 ∧ W.cell? ⟨b22, o22, none⟩ = some v22 ∧ W.cell? ⟨b23, o23, none⟩ = some v23 ∧ W.cell? ⟨b24, o24, none⟩ = some v24 ∧ W.cell? ⟨b25, o25, none⟩ = some v25 ∧ W.cell? ⟨b26, o26, none⟩ = some v26
section
variable {b1 o1 b2 o2 b3 o3 b4 o4 b5 o5 b6 o6 b7 o7 b8 o8 b9 o9 b10 o10 b11 o11 b12 o12 b13 o13 b14 o14 b15 o15 b16 o16 b17 o17 b18 o18 b19 o19 b20 o20 b21 o21 b22 o22 b23 o23 b24 o24 b25 o25 b26 o26 : Nat} {v1 v2 v3 v4 v5 v6 v7 v8 v9 v10 v11 v12 v13 v14 v15 v16 v17 v18 v19 v20 v21 v22 v23 v24 v25 v26 : Value} {W W' : World}
theorem Cn26.later (h : Cn26 b1 o1 v1 b2 o2 v2 b3 o3 v3 b4 o4 v4 b5 o5 v5 b6 o6 v6 b7 o7 v7 b8 o8 v8 b9 o9 v9 b10 o10 v10 b11 o11 v11 b12 o12 v12 b13 o13 v13 b14 o14 v14 b15 o15 v15 b16 o16 v16 b17 o17 v17 b18 o18 v18 b19 o19 v19 b20 o20 v20 b21 o21 v21 b22 o22 v22 b23 o23 v23 b24 o24 v24 b25 o25 v25 b26 o26 v26 W) (hb : Below W.heap.size W W') : Cn26 b1 o1 v1 b2 o2 v2 b3 o3 v3 b4 o4 v4 b5 o5 v5 b6 o6 v6 b7 o7 v7 b8 o8 v8 b9 o9 v9 b10 o10 v10 b11 o11 v11 b12 o12 v12 b13 o13 v13 b14 o14 v14 b15 o15 v15 b16 o16 v16 b17 o17 v17 b18 o18 v18 b19 o19 v19 b20 o20 v20 b21 o21 v21 b22 o22 v22 b23 o23 v23 b24 o24 v24 b25 o25 v25 b26 o26 v26 W' := ⟨cell_later hb h.1, cell_later hb h.2.1, cell_later hb h.2.2.1, cell_later hb h.2.2.2.1, cell_later hb h.2.2.2.2.1, cell_later hb h.2.2.2.2.2.1, cell_later hb h.2.2.2.2.2.2.1, cell_later hb h.2.2.2.2.2.2.2.1, cell_later hb h.2.2.2.2.2.2.2.2.1, cell_later hb h.2.2.2.2.2.2.2.2.2.1, cell_later hb h.2.2.2.2.2.2.2.2.2.2.1, cell_later hb h.2.2.2.2.2.2.2.2.2.2.2.1, cell_later hb h.2.2.2.2.2.2.2.2.2.2.2.2.1, cell_later hb h.2.2.2.2.2.2.2.2.2.2.2.2.2.1, cell_later hb h.2.2.2.2.2.2.2.2.2.2.2.2.2.2.1, cell_later hb h.2.2.2.2.2.2.2.2.2.2.2.2.2.2.2.1, cell_later hb h.2.2.2.2.2.2.2.2.2.2.2.2.2.2.2.2.1, cell_later hb h.2.2.2.2.2.2.2.2.2.2.2.2.2.2.2.2.2.1, cell_later hb h.2.2.2.2.2.2.2.2.2.2.2.2.2.2.2.2.2.2.1, cell_later hb h.2.2.2.2.2.2.2.2.2.2.2.2.2.2.2.2.2.2.2.1, cell_later hb h.2.2.2.2.2.2.2.2.2.2.2.2.2.2.2.2.2.2.2.2.1, cell_later hb h.2.2.2.2.2.2.2.2.2.2.2.2.2.2.2.2.2.2.2.2.2.1, cell_later hb h.2.2.2.2.2.2.2.2.2.2.2.2.2.2.2.2.2.2.2.2.2.2.1, cell_later hb h.2.2.2.2.2.2.2.2.2.2.2.2.2.2.2.2.2.2.2.2.2.2.2.1, cell_later hb h.2.2.2.2.2.2.2.2.2.2.2.2.2.2.2.2.2.2.2.2.2.2.2.2.1, cell_later hb h.2.2.2.2.2.2.2.2.2.2.2.2.2.2.2.2.2.2.2.2.2.2.2.2.2⟩
theorem Cn26.alloc (h : Cn26 b1 o1 v1 b2 o2 v2 b3 o3 v3 b4 o4 v4 b5 o5 v5 b6 o6 v6 b7 o7 v7 b8 o8 v8 b9 o9 v9 b10 o10 v10 b11 o11 v11 b12 o12 v12 b13 o13 v13 b14 o14 v14 b15 o15 v15 b16 o16 v16 b17 o17 v17 b18 o18 v18 b19 o19 v19 b20 o20 v20 b21 o21 v21 b22 o22 v22 b23 o23 v23 b24 o24 v24 b25 o25 v25 b26 o26 v26 W) (o : Obj) : Cn26 b1 o1 v1 b2 o2 v2 b3 o3 v3 b4 o4 v4 b5 o5 v5 b6 o6 v6 b7 o7 v7 b8 o8 v8 b9 o9 v9 b10 o10 v10 b11 o11 v11 b12 o12 v12 b13 o13 v13 b14 o14 v14 b15 o15 v15 b16 o16 v16 b17 o17 v17 b18 o18 v18 b19 o19 v19 b20 o20 v20 b21 o21 v21 b22 o22 v22 b23 o23 v23 b24 o24 v24 b25 o25 v25 b26 o26 v26 (W.alloc o) := ⟨cell_alloc_of h.1 o, cell_alloc_of h.2.1 o, cell_alloc_of h.2.2.1 o, cell_alloc_of h.2.2.2.1 o, cell_alloc_of h.2.2.2.2.1 o, cell_alloc_of h.2.2.2.2.2.1 o, cell_alloc_of h.2.2.2.2.2.2.1 o, cell_alloc_of h.2.2.2.2.2.2.2.1 o, cell_alloc_of h.2.2.2.2.2.2.2.2.1 o, cell_alloc_of h.2.2.2.2.2.2.2.2.2.1 o, cell_alloc_of h.2.2.2.2.2.2.2.2.2.2.1 o, cell_alloc_of h.2.2.2.2.2.2.2.2.2.2.2.1 o, cell_alloc_of h.2.2.2.2.2.2.2.2.2.2.2.2.1 o, cell_alloc_of h.2.2.2.2.2.2.2.2.2.2.2.2.2.1 o, cell_alloc_of h.2.2.2.2.2.2.2.2.2.2.2.2.2.2.1 o, cell_alloc_of h.2.2.2.2.2.2.2.2.2.2.2.2.2.2.2.1 o, cell_alloc_of h.2.2.2.2.2.2.2.2.2.2.2.2.2.2.2.2.1 o, cell_alloc_of h.2.2.2.2.2.2.2.2.2.2.2.2.2.2.2.2.2.1 o, cell_alloc_of h.2.2.2.2.2.2.2.2.2.2.2.2.2.2.2.2.2.2.1 o, cell_alloc_of h.2.2.2.2.2.2.2.2.2.2.2.2.2.2.2.2.2.2.2.1 o, cell_alloc_of h.2.2.2.2.2.2.2.2.2.2.2.2.2.2.2.2.2.2.2.2.1 o, cell_alloc_of h.2.2.2.2.2.2.2.2.2.2.2.2.2.2.2.2.2.2.2.2.2.1 o, cell_alloc_of h.2.2.2.2.2.2.2.2.2.2.2.2.2.2.2.2.2.2.2.2.2.2.1 o, cell_alloc_of h.2.2.2.2.2.2.2.2.2.2.2.2.2.2.2.2.2.2.2.2.2.2.2.1 o, cell_alloc_of h.2.2.2.2.2.2.2.2.2.2.2.2.2.2.2.2.2.2.2.2.2.2.2.2.1 o, cell_alloc_of h.2.2.2.2.2.2.2.2.2.2.2.2.2.2.2.2.2.2.2.2.2.2.2.2.2 o⟩
theorem Cn26.drew (h : Cn26 b1 o1 v1 b2 o2 v2 b3 o3 v3 b4 o4 v4 b5 o5 v5 b6 o6 v6 b7 o7 v7 b8 o8 v8 b9 o9 v9 b10 o10 v10 b11 o11 v11 b12 o12 v12 b13 o13 v13 b14 o14 v14 b15 o15 v15 b16 o16 v16 b17 o17 v17 b18 o18 v18 b19 o19 v19 b20 o20 v20 b21 o21 v21 b22 o22 v22 b23 o23 v23 b24 o24 v24 b25 o25 v25 b26 o26 v26 W) : Cn26 b1 o1 v1 b2 o2 v2 b3 o3 v3 b4 o4 v4 b5 o5 v5 b6 o6 v6 b7 o7 v7 b8 o8 v8 b9 o9 v9 b10 o10 v10 b11 o11 v11 b12 o12 v12 b13 o13 v13 b14 o14 v14 b15 o15 v15 b16 o16 v16 b17 o17 v17 b18 o18 v18 b19 o19 v19 b20 o20 v20 b21 o21 v21 b22 o22 v22 b23 o23 v23 b24 o24 v24 b25 o25 v25 b26 o26 v26 W.drew := h
end
set_option maxHeartbeats 16000000 in
theorem r14Same_walk (A A' : Option Addr) (l : List RuleD) (c c' : Nat) (w : World) (hn : l.length ≤ 9223372036854775807) (hm : ∀ u ∈ l, RuleOk u) (h1 : At kRule AnyB w A l) (h2 : At kRule AnyB w A' l) :
    Calls Tryz.prog 23 #[.slice A l.length c, .slice A' l.length c'] w fun e w' => e = .returned (.bool true) ∧ Below w.heap.size w w' := by
  obtain ⟨n, hnn⟩ : ∃ n, l.length = n := ⟨_, rfl⟩
  rw [hnn] at hn ⊢
  replace hnn := hide hnn
  replace hm := hide hm
  go_enter Tryz.func23, Tryz.ntmps23
  go_wp2
  go_loopw [5] (fun i wr => ∃ j : Nat, j ≤ n ∧ i = .int .i64 j ∧ Below w.heap.size w wr) (fun i _ => n - (intOf i).toNat)
  case atStart => exact ⟨0, Nat.zero_le _, rfl, Below.refl _ _⟩
  case round =>
    obtain ⟨j, hj, rfl, hb⟩ := hrel
    by_cases hlt : j < n
    · obtain ⟨u, hx⟩ : ∃ x, l[j]? = some x := ⟨_, List.getElem?_eq_getElem (by rw [hnn.out]; exact hlt)⟩
      have hu := hm.out _ (List.mem_of_getElem? hx)
      obtain ⟨b1, o1, f0, f1, fA, fl, fc, s0, s1, sA, sl, sc, tA, tc, rA, rc, rfl, -, hb1, ⟨a0, a1, a2, a3, a4, a5, a6, a7, a8, a9, a10, a11, a12⟩, p1, p2, -, p3, -, p4⟩ := rule_cells (h1.later hb) hx
      obtain ⟨b2, o2, f0', f1', fA', fl', fc', s0', s1', sA', sl', sc', tA', tc', rA', rc', rfl, -, hb2, ⟨e0, e1, e2, e3, e4, e5, e6, e7, e8, e9, e10, e11, e12⟩, q1, q2, -, q3, -, q4⟩ := rule_cells (h2.later hb) hx
      obtain ⟨rfl, rfl⟩ := rep_same q1 p1
      obtain ⟨rfl, rfl⟩ := rep_same q2 p2
      have hcall0 := hide (fun (U : World) (hU : Below wr.heap.size wr U) => rsrule_walk u hu f0 s0 u.line u.line f1 s1 fA sA tA rA fA' sA' tA' rA' fl fc sl sc tc rc fl' fc' sl' sc' tc' rc' U (kSel.later p1 hU) (kSel.later p2 hU) (p3.later hU) (p4.later hU) (kSel.later q1 hU) (kSel.later q2 hU) (q3.later hU) (q4.later hU))
      have hj0 : (0 : Int) ≤ (j : Int) := by omega
      have hj1 : (j : Int) < (n : Int) := by omega
      obtain ⟨nm, hnm⟩ : ∃ nm, u.name = nm := ⟨_, rfl⟩
      obtain ⟨wt, hwt⟩ : ∃ wt, u.weight = wt := ⟨_, rfl⟩
      obtain ⟨kd, hkd⟩ : ∃ kd, u.kind = kd := ⟨_, rfl⟩
      obtain ⟨nn, hnn9⟩ : ∃ nn, u.n = nn := ⟨_, rfl⟩
      obtain ⟨nt, hnt⟩ : ∃ nt, u.times.length = nt := ⟨_, rfl⟩
      obtain ⟨nr, hnr⟩ : ∃ nr, u.rooms.length = nr := ⟨_, rfl⟩
      obtain ⟨ln, hln⟩ : ∃ ln, u.line = ln := ⟨_, rfl⟩
      rw [hnm] at a0 e0 hcall0
      rw [hwt] at a1 e1 hcall0
      rw [hkd] at a2 e2 hcall0
      rw [hnn9] at a9 e9 hcall0
      rw [hnt] at a10 e10 hcall0
      rw [hnr] at a11 e11 hcall0
      rw [hln] at a12 e12 hcall0
      have hSL : Cn26 b1 ((o1 + j * 13)) (.string nm) b1 ((o1 + j * 13 + 1)) (.int .i64 wt) b1 ((o1 + j * 13 + 2)) (.int .i64 kd) b1 ((o1 + j * 13 + 3)) (.int .i64 f0) b1 ((o1 + j * 13 + 4)) (.string f1) b1 ((o1 + j * 13 + 5)) (.slice fA fl fc) b1 ((o1 + j * 13 + 6)) (.int .i64 s0) b1 ((o1 + j * 13 + 7)) (.string s1) b1 ((o1 + j * 13 + 8)) (.slice sA sl sc) b1 ((o1 + j * 13 + 9)) (.int .i64 nn) b1 ((o1 + j * 13 + 10)) (.slice tA nt tc) b1 ((o1 + j * 13 + 11)) (.slice rA nr rc) b1 ((o1 + j * 13 + 12)) (.int .i64 ln) b2 ((o2 + j * 13)) (.string nm) b2 ((o2 + j * 13 + 1)) (.int .i64 wt) b2 ((o2 + j * 13 + 2)) (.int .i64 kd) b2 ((o2 + j * 13 + 3)) (.int .i64 f0) b2 ((o2 + j * 13 + 4)) (.string f1) b2 ((o2 + j * 13 + 5)) (.slice fA' fl' fc') b2 ((o2 + j * 13 + 6)) (.int .i64 s0) b2 ((o2 + j * 13 + 7)) (.string s1) b2 ((o2 + j * 13 + 8)) (.slice sA' sl' sc') b2 ((o2 + j * 13 + 9)) (.int .i64 nn) b2 ((o2 + j * 13 + 10)) (.slice tA' nt tc') b2 ((o2 + j * 13 + 11)) (.slice rA' nr rc') b2 ((o2 + j * 13 + 12)) (.int .i64 ln) wr := ⟨a0, a1, a2, a3, a4, a5, a6, a7, a8, a9, a10, a11, a12, e0, e1, e2, e3, e4, e5, e6, e7, e8, e9, e10, e11, e12⟩
      have hcall := hide (fun (U : World) (hU : Below wr.heap.size wr U) => (hcall0.out U hU).mono fun e w' ⟨he, hb⟩ => (⟨he, ext_trans hU hb, hSL.later (ext_trans hU hb)⟩ : e = Ending.returned (.bool true) ∧ Below wr.heap.size wr w' ∧ Cn26 b1 ((o1 + j * 13)) (.string nm) b1 ((o1 + j * 13 + 1)) (.int .i64 wt) b1 ((o1 + j * 13 + 2)) (.int .i64 kd) b1 ((o1 + j * 13 + 3)) (.int .i64 f0) b1 ((o1 + j * 13 + 4)) (.string f1) b1 ((o1 + j * 13 + 5)) (.slice fA fl fc) b1 ((o1 + j * 13 + 6)) (.int .i64 s0) b1 ((o1 + j * 13 + 7)) (.string s1) b1 ((o1 + j * 13 + 8)) (.slice sA sl sc) b1 ((o1 + j * 13 + 9)) (.int .i64 nn) b1 ((o1 + j * 13 + 10)) (.slice tA nt tc) b1 ((o1 + j * 13 + 11)) (.slice rA nr rc) b1 ((o1 + j * 13 + 12)) (.int .i64 ln) b2 ((o2 + j * 13)) (.string nm) b2 ((o2 + j * 13 + 1)) (.int .i64 wt) b2 ((o2 + j * 13 + 2)) (.int .i64 kd) b2 ((o2 + j * 13 + 3)) (.int .i64 f0) b2 ((o2 + j * 13 + 4)) (.string f1) b2 ((o2 + j * 13 + 5)) (.slice fA' fl' fc') b2 ((o2 + j * 13 + 6)) (.int .i64 s0) b2 ((o2 + j * 13 + 7)) (.string s1) b2 ((o2 + j * 13 + 8)) (.slice sA' sl' sc') b2 ((o2 + j * 13 + 9)) (.int .i64 nn) b2 ((o2 + j * 13 + 10)) (.slice tA' nt tc') b2 ((o2 + j * 13 + 11)) (.slice rA' nr rc') b2 ((o2 + j * 13 + 12)) (.int .i64 ln) w'))
      have hSd := hSL.drew
      have hrefl := Below.refl wr.heap.size wr
      clear h1 h2 hx p1 p2 p3 p4 q1 q2 q3 q4 hcall0 hu hnm hwt hkd hnn9 hnt hnr hln
      go_wp2_with fail
      go_region_held3 (fun W' => W'.cell? ⟨b1, (o1 + j * 13), none⟩ = some (.string nm) ∧ W'.cell? ⟨b1, (o1 + j * 13 + 1), none⟩ = some (.int .i64 wt) ∧ W'.cell? ⟨b1, (o1 + j * 13 + 2), none⟩ = some (.int .i64 kd) ∧ W'.cell? ⟨b1, (o1 + j * 13 + 3), none⟩ = some (.int .i64 f0) ∧ W'.cell? ⟨b1, (o1 + j * 13 + 4), none⟩ = some (.string f1) ∧ W'.cell? ⟨b1, (o1 + j * 13 + 5), none⟩ = some (.slice fA fl fc) ∧ W'.cell? ⟨b1, (o1 + j * 13 + 6), none⟩ = some (.int .i64 s0) ∧ W'.cell? ⟨b1, (o1 + j * 13 + 7), none⟩ = some (.string s1) ∧ W'.cell? ⟨b1, (o1 + j * 13 + 8), none⟩ = some (.slice sA sl sc) ∧ W'.cell? ⟨b1, (o1 + j * 13 + 9), none⟩ = some (.int .i64 nn) ∧ W'.cell? ⟨b1, (o1 + j * 13 + 10), none⟩ = some (.slice tA nt tc) ∧ W'.cell? ⟨b1, (o1 + j * 13 + 11), none⟩ = some (.slice rA nr rc) ∧ W'.cell? ⟨b1, (o1 + j * 13 + 12), none⟩ = some (.int .i64 ln) ∧ W'.cell? ⟨b2, (o2 + j * 13), none⟩ = some (.string nm) ∧ W'.cell? ⟨b2, (o2 + j * 13 + 1), none⟩ = some (.int .i64 wt) ∧ W'.cell? ⟨b2, (o2 + j * 13 + 2), none⟩ = some (.int .i64 kd) ∧ W'.cell? ⟨b2, (o2 + j * 13 + 3), none⟩ = some (.int .i64 f0) ∧ W'.cell? ⟨b2, (o2 + j * 13 + 4), none⟩ = some (.string f1) ∧ W'.cell? ⟨b2, (o2 + j * 13 + 5), none⟩ = some (.slice fA' fl' fc') ∧ W'.cell? ⟨b2, (o2 + j * 13 + 6), none⟩ = some (.int .i64 s0) ∧ W'.cell? ⟨b2, (o2 + j * 13 + 7), none⟩ = some (.string s1) ∧ W'.cell? ⟨b2, (o2 + j * 13 + 8), none⟩ = some (.slice sA' sl' sc') ∧ W'.cell? ⟨b2, (o2 + j * 13 + 9), none⟩ = some (.int .i64 nn) ∧ W'.cell? ⟨b2, (o2 + j * 13 + 10), none⟩ = some (.slice tA' nt tc') ∧ W'.cell? ⟨b2, (o2 + j * 13 + 11), none⟩ = some (.slice rA' nr rc') ∧ W'.cell? ⟨b2, (o2 + j * 13 + 12), none⟩ = some (.int .i64 ln)) (first | ((repeat (first | (with_reducible assumption) | (with_reducible refine Cn26.alloc ?_ _) | (with_reducible refine Cn26.drew ?_) | (with_reducible refine Cn26.set ?_ ?_ ?_ ?_ ?_ ?_ ?_ ?_ ?_ ?_ ?_ ?_ ?_ ?_ ?_ ?_ ?_ ?_ ?_ ?_ ?_ ?_ ?_ ?_ ?_ ?_ ?_ _) | omega)); done)) (first | (go_at_call 58; refine (hcall.out _ (by repeat (first | (with_reducible assumption) | (with_reducible refine ext_alloc ?_ _) | (with_reducible refine ext_drew ?_)))).mono ?_; rintro e w2 ⟨rfl, hb2', hc2⟩))
      all_goals
        have hbn := ext_trans hb hb2'
        go_wp2
        go_roundw
        case rel => exact ⟨j + 1, by omega, by go_num, by first | exact ext_drew hbn | exact hbn⟩
        case measure => simp [intOf]; omega
    · obtain rfl : j = n := by omega
      go_wp2
      go_ret
      exact ⟨rfl, hb⟩
end Go.Proofs.YtdnnahdafhddlaaGreatDoor

namespace Go.Proofs.YtdnnahdafhddlaaGreatDoor
open Go.ChangeShapes Go.WideShapes Go.ChangeAt Go.RowKit
set_option maxRecDepth 100000

theorem own : ownKnob Tryz.prog.godebug = none := by kernel_rfl
theorem laidOut : laidOutB Tryz.prog = true := by kernel_rfl

/-- The post of a law, where of the world behind the call 'Below' is known. -/
theorem post_of_below {H : Type} {enc : TypeId × Value → H} {P : Program} {f : Func} {s : ChangeSpec} {apart fresh handsOn again : Bool} {W W' : World} {args : Array Value} {v : Value} {ds gs : List (DataW H)} {before pa pv : List MemPlace}
    (hW : DataW.Whole enc P f.params.toList s.vars apart W args.toList ds gs before)
    (hres : ∀ (b : Nat) (sp : Nat → Bool) (hd : Bool), DataW.TrodAll enc P W' b sp hd f.resultTypes.toList (v.resultList f.resultTypes.size) (s.fn H (ds ++ gs)).results [])
    (hargs : ∀ sp : Nat → Bool, (∀ p ∈ before, sp p.block = true) → DataW.TrodAll enc P W' 0 sp true f.params.toList args.toList (s.fn H (ds ++ gs)).args pa)
    (hvars : ∀ sp : Nat → Bool, (∀ p ∈ before, sp p.block = true) → DataW.TrodVars enc P W' sp s.vars (s.fn H (ds ++ gs)).vars pv)
    (hps : before = pa ++ pv) (hb : Below W.heap.size W W')
    (hok : ∀ (j : Nat) (t : TypeId) (r : Value), f.resultTypes[j]? = some t → (v.resultList f.resultTypes.size)[j]? = some r → Value.okWide P W' .any 0 t r) :
    s.post enc P f apart fresh handsOn again W args v W' := by
  have hlt : ∀ p ∈ before, p.block < W.heap.size := fun p hp => hW.lt p hp
  have hold : ∀ p ∈ before, (fun b => decide (b < W.heap.size)) p.block = true := fun p hp => by simpa using hlt p hp
  refine ⟨ds, gs, before, [], pa, pv, hW, hres _ _ _, hargs _ hold, hvars _ hold, World.keptBut_mono (fun p hp => ⟨hp, ?_⟩) (hb.frame (· ∈ before)), fun _ => ?_⟩
  · rw [hps, List.mem_append] at hp
    exact Or.inr hp
  · obtain ⟨_, _, _, _, _, hz, hn⟩ := hW
    refine ⟨hok, _, _, ([] ++ pa) ++ pv, ⟨[] ++ pa, pv, trodAll_append (hargs _ (fun _ _ => rfl)) (hres _ _ _), hvars _ (fun _ _ => rfl), rfl, ?_, ?_⟩, ?_⟩
    · intro b off hp
      have hin : MemPlace.cell b off ∈ before := by rw [hps]; simpa using hp
      rw [hb.frozen (hlt _ hin)]
      exact hz b off hin
    · intro ha
      have := hn ha
      rw [hps] at this
      simpa using this
    · intro p hp _
      rw [hps]
      simpa using hp

/-- Arguments that are not touched read as they did. -/
theorem trodAll_stays {H : Type} {enc : TypeId × Value → H} {W W' : World} {sp : Nat → Bool} (hb : Below W.heap.size W W') :
    ∀ (ts : List TypeId) (vs : List Value) (ds : List (DataW H)) (ps : List MemPlace), (∀ t ∈ ts, Tryz.prog.readableRec t = true ∧ t < Tryz.prog.types.size) → (∀ p ∈ ps, p.block < W.heap.size) → (∀ p ∈ ps, sp p.block = true) →
      DataW.TrodAll enc Tryz.prog W 0 (fun _ => true) true ts vs ds ps → DataW.TrodAll enc Tryz.prog W' 0 sp true ts vs ds ps
  | [], vs, ds, ps, _, _, _, h => by
    cases vs <;> cases ds <;> simp [DataW.TrodAll] at h ⊢
    exact h
  | t :: ts, vs, ds, ps, hr, hlt, hsp, h => by
    obtain ⟨v, vs', d, ds', p, q, rfl, rfl, rfl, h1, h2⟩ := trodAll_cons h
    have ht := hr t (by simp)
    exact ⟨p, q, WideElems.Trod_stays laidOut ht.1 ht.2 h1 (fun x hx => hb.same (hlt x (by simp [hx]))) (fun x hx => hsp x (by simp [hx])),
      trodAll_stays hb ts vs' ds' q (fun u hu => hr u (by simp [hu])) (fun x hx => hlt x (by simp [hx])) (fun x hx => hsp x (by simp [hx])) h2, rfl⟩


set_option maxRecDepth 100000 in
theorem law_lifted {k : FuncId} {fn : Func} {s : OpenSpec} {c : ChangeSpec} {F : Stop.Interp} {L : List (String × DataW Unit)} {H : Type} {enc : TypeId × Value → H} {os : Os} (started : os.Started)
    (hs : s.at F = c) (hvars : s.vars = []) (hcv : c.vars = []) (hni : Tryz.checked.prog.inits.idxOf? k = none) (hfn : Tryz.prog.funcs[k]? = some fn) (hres : fn.resultTypes = #[4])
    (hread : ∀ t ∈ fn.params.toList, Tryz.prog.readableRec t = true ∧ t < Tryz.prog.types.size)
    (hfun : ∀ ds : List (DataW H), ds.length = fn.params.size → (c.fn H ds).results = [.lit (.bool true)] ∧ (c.fn H ds).args = ds ∧ (c.fn H ds).vars = [])
    (witness : ∃ (w : World) (tape : Tape) (i : Input), w.os = os ∧ (w.forCall tape i).Shaped Tryz.checked.prog ∧ i.vars = [] ∧ Input.okWide Tryz.checked.prog (w.forCall tape i) .any w.heap.size k i ∧
      s.preRow enc Tryz.checked.prog fn [] false L (w.forCall tape i).memory i.args ∧ ({} : Assume).holds Tryz.checked.prog (lone (Frame.enter Tryz.checked.prog k i.args .normal) [] (w.forCall tape i)))
    (walk : ∀ (W : World) (base : Nat) (args : Array Value) (ds : List (DataW H)) (ps : List MemPlace), (∀ (j : Nat) t v, fn.params[j]? = some t → args[j]? = some v → Value.okWide Tryz.prog W .any base t v) →
      DataW.TrodAll enc Tryz.prog W 0 (fun _ => true) true fn.params.toList args.toList ds ps → (∀ p ∈ ps, p.block < W.heap.size) → (∀ q, s.cond = some q → q H ds = true) →
      laidMetH Tryz.prog L W → W.ShapedOpen Tryz.prog → Calls Tryz.prog k args W fun e W' => e = .returned (.bool true) ∧ Below W.heap.size W W') :
    ReturnsInHanded {} Tryz.checked os k .any (s.preRow enc Tryz.prog fn [] false L) ((s.at F).post enc Tryz.prog fn false true false false) := by
  refine returnsInHanded_of_row (C := Tryz.checked) (s := s) own started hni hfn witness ?_
  intro W base args ds gs before hval hW _ hcond _ hL hsh _
  have hW' := hW
  obtain ⟨p, q, hA0, hV, rfl, hfz, hnd⟩ := hW
  have hA : DataW.TrodAll enc Tryz.prog W 0 (fun _ => true) true fn.params.toList args.toList ds p := hA0
  rw [hvars] at hV
  obtain ⟨rfl, rfl⟩ := trodVars_none hV
  have hlt : ∀ x ∈ p, x.block < W.heap.size := fun x hx => hW'.lt x (by simp [hx])
  have hlen : ds.length = fn.params.size := by
    have : ∀ (ts : List TypeId) (vs : List Value) (es : List (DataW H)) (ps : List MemPlace), DataW.TrodAll enc Tryz.prog W 0 (fun _ => true) true ts vs es ps → es.length = ts.length := by
      intro ts
      induction ts with
      | nil => intro vs es ps h; cases vs <;> cases es <;> simp [DataW.TrodAll] at h ⊢
      | cons t ts ih =>
        intro vs es ps h
        obtain ⟨v, vs', d, ds', p', q', rfl, rfl, rfl, _, h2⟩ := trodAll_cons h
        simp [ih _ _ _ h2]
    have := this _ _ _ _ hA
    simpa using this
  obtain ⟨f1, f2, f3⟩ := hfun ds hlen
  refine (walk W base args ds p hval hA hlt (fun q hq => by have := hcond q hq; simpa using this) hL hsh).mono fun e W' ⟨he, hb⟩ => ?_
  subst he
  refine ⟨_, rfl, ?_⟩
  rw [hs]
  refine post_of_below (pa := p) (pv := []) (gs := []) (ds := ds) (before := p ++ []) (by rw [hcv]; rw [hvars] at hW'; exact hW') ?_ ?_ ?_ rfl hb ?_
  · intro b sp hd
    rw [List.append_nil, f1, hres]
    exact trodAll_mk1 (shut_bool Tryz.underlying4 _)
  · intro sp hsp
    rw [List.append_nil, f2]
    exact trodAll_stays hb _ _ _ _ hread hlt (fun x hx => hsp x (by simp [hx])) hA
  · intro sp hsp
    rw [List.append_nil, f3, hcv]
    rfl
  · exact ok_one hres rfl (okWide_bool_mk Tryz.underlying4 _)

/-- An aggregate whose cells are all of type int. -/
theorem agg_ints {W : World} {t : TypeId} {v : Value} {n : Nat} (hv : Value.okWide Tryz.prog W .any 0 t v ∨ ∃ b, Value.okWide Tryz.prog W .any b t v)
    (hk : (∃ fs, Tryz.prog.underlying t = some (.struct fs)) ∨ ∃ m e, Tryz.prog.underlying t = some (.array m e)) (hn : Tryz.prog.cellsOf t = n) (hc : Tryz.prog.cellTypes Tryz.prog.depth t = some (List.replicate n 3)) :
    ∃ xs : List Int, xs.length = n ∧ v = .agg (xs.map (Value.int .i64)).toArray := by
  have hv' : ∃ b, Value.okWide Tryz.prog W .any b t v := hv.elim (fun h => ⟨0, h⟩) id
  obtain ⟨b, hv⟩ := hv'
  have : ∃ cs, v = .agg cs ∧ cs.size = Tryz.prog.cellsOf t ∧ Row.okWide Tryz.prog W .any b t cs := by
    rcases hk with ⟨fs, h⟩ | ⟨m, e, h⟩ <;> simpa only [Value.okWide, h] using hv
  obtain ⟨cs, rfl, hsz, ts, hts, -, hcell⟩ := this
  rw [hc] at hts
  obtain rfl := Option.some.inj hts
  have hall : ∀ i (hi : i < cs.size), ∃ x : Int, cs[i] = .int .i64 x := by
    intro i hi
    obtain ⟨u, hu, hok⟩ := hcell i cs[i] (Array.getElem?_eq_getElem hi)
    have hu' : u = 3 := by
      rw [List.getElem?_replicate] at hu
      split at hu
      · exact (Option.some.inj hu).symm
      · cases hu
    subst hu'
    have hint : Value.okWide Tryz.prog W .any b 3 cs[i] := by
      simp only [Value.okWide, Tryz.underlying3]; exact hok
    exact okWide_int Tryz.underlying3 hint
  refine ⟨cs.toList.map intOf, by simp [hsz, hn], ?_⟩
  congr 1
  apply Array.ext
  · simp
  · intro i h1 h2
    obtain ⟨x, hx⟩ := hall i h1
    simp [hx, intOf]
/-- What the walks want of the world, out of the row's list and the world's shape. -/
theorem std_of {L : List (String × DataW Unit)} {W : World} (hL : laidMetH Tryz.prog L W) (hsh : W.ShapedOpen Tryz.prog) (hplain : (L.all fun x => x.2.handleName?.isNone) = true)
    (hp : (L.filter fun x => x.1 == "internal/strconv.uint64pow10") = [("internal/strconv.uint64pow10", Rows.laid_internal_strconv_uint64pow10)])
    (he : (L.filter fun x => x.1 == "strconv.ErrSyntax") = [("strconv.ErrSyntax", Rows.laid_strconv_ErrSyntax)])
    (hr : (L.filter fun x => x.1 == "strconv.ErrRange") = [("strconv.ErrRange", Rows.laid_strconv_ErrRange)]) : Std W := by
  rw [MakeChecks.laidMetH_plain _ _ _ hplain] at hL
  -- function 50
  have hmax := Tryz.laysM145.s1_3 W hsh
  have h10 := laidMet.filter (fun x => x.1 == "internal/strconv.uint64pow10") hL
  rw [hp] at h10
  have hes := laidMet.filter (fun x => x.1 == "strconv.ErrSyntax") hL
  rw [he] at hes
  have her := laidMet.filter (fun x => x.1 == "strconv.ErrRange") hL
  rw [hr] at her
  have hrow : ∀ u, Tryz.prog.typeName? 3 u = some "*errors.errorString" → u = 258 := fun u hu =>
    typeName_ptr_named (P := Tryz.prog) (nm := "errors.errorString") (by kernel_rfl) (by kernel_rfl) (by decide) u hu
  have hpow : Lib.TabIs Tryz.prog W "internal/strconv.uint64pow10" .u64 Lib.pow10Tab :=
    Lib.tabIs_of_head (rest := []) (g := 7) (t := 219) (e := 199) (n := 20) (by kernel_rfl) (by kernel_rfl) Tryz.underlying219 Tryz.underlying199 (by kernel_rfl) (by kernel_rfl) h10
  obtain ⟨a1, s1, hv1, -, -, -⟩ := laid_sentinel (P := Tryz.prog) (g := 10) (ti := 74) hes (by kernel_rfl) (by kernel_rfl) Tryz.underlying74 hrow Tryz.underlying258 Tryz.underlying260 rfl rfl Tryz.underlying9 (by kernel_rfl) (by kernel_rfl)
  obtain ⟨a2, s2, hv2, -, -, -⟩ := laid_sentinel (P := Tryz.prog) (g := 11) (ti := 74) her (by kernel_rfl) (by kernel_rfl) Tryz.underlying74 hrow Tryz.underlying258 Tryz.underlying260 rfl rfl Tryz.underlying9 (by kernel_rfl) (by kernel_rfl)
  have hg1 : Tryz.prog.globalNamed "strconv.ErrSyntax" = some 10 := by kernel_rfl
  have hg2 : Tryz.prog.globalNamed "strconv.ErrRange" = some 11 := by kernel_rfl
  have hbig : 12 ≤ W.heap.size := by
    obtain ⟨o, o₀, ho, -, -⟩ := hsh.2 12 (Nat.le_of_eq (by kernel_rfl)) (of_decide_eq_true (by kernel_rfl))
    have := (Array.getElem?_eq_some_iff.1 ho).1
    omega
  exact { big := hbig, maxLen := hmax, pow10 := hpow, errSyntax := ⟨_, _, World.var?_cell hg1 hv1 0⟩, errRange := ⟨_, _, World.var?_cell hg2 hv2 0⟩ }

/-- An array of strings that reads as a list of texts holds these. -/
theorem cells_of_strs {H : Type} {enc : TypeId × Value → H} {P : Program} {w : World} {base : Nat} {sp : Nat → Bool} {held : Bool} {fuel : Nat} {t e : TypeId} {n : Nat} {cs : List Value} {zs : List ByteArray} {p : List MemPlace}
    (ht : P.underlying t = some (.array n e)) (he : P.underlying e = some .string) (hce : P.cellsOf e = 1) (hct : P.cellsOf t = n)
    (h : DataW.trod enc P w base sp held fuel t cs = some (.agg (zs.map fun z => .lit (.string z.data.toList)), p)) : cs = zs.map Value.string := by
  cases fuel with
  | zero => simp [DataW.trod] at h
  | succ fuel =>
    simp only [DataW.trod, ht, hce, hct, Nat.mul_one] at h
    split at h
    · rename_i hl
      obtain ⟨xs, hm, hx⟩ := Option.map_eq_some_iff.1 h
      have hxs : xs.map (·.1) = zs.map fun z => (DataW.lit (.string z.data.toList) : DataW H) := by
        have := congrArg Prod.fst hx
        simpa using this
      have hxl : xs.length = n := by simpa using Lib.mapM_length hm
      have hzl : zs.length = n := by
        have := congrArg List.length hxs
        simp at this
        omega
      apply List.ext_getElem?
      intro i
      by_cases hi : i < n
      · obtain ⟨b, hb, hf⟩ := Lib.mapM_at hm i i (by simp [hi])
        obtain ⟨z, hc, hz, _⟩ := DataW.trod_string he hf
        have h1 : cs[i]? = some (.string z) := by
          have := congrArg (·[0]?) hc
          simpa [List.getElem?_take, List.getElem?_drop] using this
        have h2 : (xs.map (·.1))[i]? = some (DataW.lit (.string z.data.toList) : DataW H) := by simp [hb, hz]
        rw [hxs] at h2
        simp only [List.getElem?_map, Option.map_eq_some_iff, DataW.lit.injEq, Lit.string.injEq] at h2
        obtain ⟨z', hz', hzz⟩ := h2
        have hzz : z' = z := by
          apply ByteArray.ext
          exact Array.toList_inj.1 hzz
        subst hzz
        simp [h1, hz']
      · rw [List.getElem?_eq_none (by omega), List.getElem?_eq_none (by simp; omega)]
    · cases h
theorem strs_of_head {P : Program} {W : World} {name : String} {zs : List ByteArray} {rest : List (String × DataW Unit)} {g : Nat} {t e : TypeId} {n : Nat}
    (hg : P.globalNamed name = some g) (hty : (P.globals[g]?).map (·.type) = some t) (ht : P.underlying t = some (.array n e)) (he : P.underlying e = some .string) (hce : P.cellsOf e = 1) (hct : P.cellsOf t = n)
    (h : laidMet P ((name, .agg (zs.map fun z => .lit (.string z.data.toList))) :: rest) W) : ∃ t r, W.heap[g]? = some (.cells (zs.map Value.string).toArray t r) := by
  obtain ⟨ps, ⟨g', t', cs, fuel, p, q, hg', ht', hvar, hd, _, _⟩, _⟩ := h
  obtain rfl := Option.some.inj (hg.symm.trans hg')
  obtain rfl := Option.some.inj (hty.symm.trans ht')
  rw [← cells_of_strs ht he hce hct hd]
  unfold World.var? at hvar
  rw [hg, Option.bind_some] at hvar
  split at hvar
  · rename_i c t' r ho
    obtain rfl := Option.some.inj hvar
    exact ⟨t', r, ho⟩
  · cases hvar
theorem wds_of {L : List (String × DataW Unit)} {W : World} (hL : laidMetH Tryz.prog L W) (hplain : (L.all fun x => x.2.handleName?.isNone) = true) (hw : (L.filter fun x => x.1 == "timetable/timetableref05.words") = [("timetable/timetableref05.words", Rows.laid_timetable_timetableref05_words)]) : Wds W := by
  rw [MakeChecks.laidMetH_plain _ _ _ hplain] at hL
  have h := laidMet.filter (fun x => x.1 == "timetable/timetableref05.words") hL
  rw [hw] at h
  exact strs_of_head (zs := [⟨#[97, 108, 108]⟩, ⟨#[111, 100, 100]⟩, ⟨#[101, 118, 101, 110]⟩, ⟨#[102, 105, 114, 115, 116]⟩, ⟨#[115, 101, 99, 111, 110, 100]⟩]) (rest := []) (g := 3) (t := 156) (e := 9) (n := 5) (by kernel_rfl) (by kernel_rfl) Tryz.underlying156 Tryz.underlying9 (by kernel_rfl) (by kernel_rfl) h
theorem dys_of {L : List (String × DataW Unit)} {W : World} (hL : laidMetH Tryz.prog L W) (hplain : (L.all fun x => x.2.handleName?.isNone) = true) (hw : (L.filter fun x => x.1 == "timetable/timetableref06.days") = [("timetable/timetableref06.days", Rows.laid_timetable_timetableref06_days)]) : Dys W := by
  rw [MakeChecks.laidMetH_plain _ _ _ hplain] at hL
  have h := laidMet.filter (fun x => x.1 == "timetable/timetableref06.days") hL
  rw [hw] at h
  exact strs_of_head (zs := [⟨#[77, 111]⟩, ⟨#[84, 117]⟩, ⟨#[87, 101]⟩, ⟨#[84, 104]⟩, ⟨#[70, 114]⟩, ⟨#[83, 97]⟩, ⟨#[83, 117]⟩]) (rest := []) (g := 2) (t := 121) (e := 9) (n := 7) (by kernel_rfl) (by kernel_rfl) Tryz.underlying121 Tryz.underlying9 (by kernel_rfl) (by kernel_rfl) h
end Go.Proofs.YtdnnahdafhddlaaGreatDoor
