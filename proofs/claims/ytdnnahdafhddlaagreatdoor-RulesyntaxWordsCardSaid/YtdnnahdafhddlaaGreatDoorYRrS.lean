/- Rules as data: a kind; what Valid says of a rule (plain). No walk. Walks of rulesyntax.listed and Valid. Conditions: the rule's data; what the program's variables hold. Walk of rulesyntax.Valid. Conditions: the rule's data; what the program's variables hold. Walk of slices.ContainsFunc at rules, with the closure of rulesyntax.Parse; walk of timetableref14.Index. Conditions: the rules' cells. Walks of timetableref14.SameSelect, SameRule, Same, where both hold the same; timetableref14.Index. Conditions: the cells. -/
import Derived.Test.YtdnnahdafhddlaaGreatDoorYRrV
import Derived.Test.YtdnnahdafhddlaaGreatDoorYVal9
namespace Go.Proofs.YtdnnahdafhddlaaGreatDoor
open Go.RowKit
set_option maxRecDepth 100000

structure RuleD where
  name : ByteArray
  weight : Int
  kind : Int
  first : Sel
  second : Sel
  n : Int
  times : List T4
  rooms : List ByteArray
  line : Int
/-- What thirteen cells say of a rule, with all that it points to. -/
def RuleRep (S : Nat → Prop) (w : World) (u : RuleD) (vs : List Value) : Prop := ∃ f0 f1 fA fl fc s0 s1 sA sl sc tA tc rA rc,
  vs = [.string u.name, .int .i64 u.weight, .int .i64 u.kind, .int .i64 f0, .string f1, .slice fA fl fc, .int .i64 s0, .string s1, .slice sA sl sc, .int .i64 u.n, .slice tA u.times.length tc, .slice rA u.rooms.length rc, .int .i64 u.line] ∧
  kSel.rep S w u.first [.int .i64 f0, .string f1, .slice fA fl fc] ∧ kSel.rep S w u.second [.int .i64 s0, .string s1, .slice sA sl sc] ∧ u.times.length ≤ tc ∧ At kTime S w tA u.times ∧ u.rooms.length ≤ rc ∧ At kStr S w rA u.rooms
def kRule : Kind RuleD where
  k := 13
  rep := RuleRep
  kept := fun ⟨f0, f1, fA, fl, fc, s0, s1, sA, sl, sc, tA, tc, rA, rc, e, h1, h2, h3, h4, h5, h6⟩ hk => ⟨f0, f1, fA, fl, fc, s0, s1, sA, sl, sc, tA, tc, rA, rc, e, kSel.kept h1 hk, kSel.kept h2 hk, h3, h4.kept hk, h5, h6.kept hk⟩
  len := fun ⟨f0, f1, fA, fl, fc, s0, s1, sA, sl, sc, tA, tc, rA, rc, e, _⟩ => by rw [e]; rfl
  one := fun ⟨f0, f1, fA, fl, fc, s0, s1, sA, sl, sc, tA, tc, rA, rc, e, _⟩ u hu => by
    rw [e] at hu
    simp at hu
    rcases hu with rfl | rfl | rfl | rfl | rfl | rfl | rfl | rfl | rfl | rfl | rfl | rfl | rfl <;> rfl
def selOk (s : Sel) : Bool := (validN codeB s 8 0).1
def noneS : Sel → Bool
  | .mk k n ks => decide (k = 0) && decide (n.size = 0) && decide (ks.length = 0)
def selectedB (u : RuleD) : Bool := if u.kind = 6 then selOk u.first && selOk u.second else selOk u.first && noneS u.second
/-- The first error of the rooms of a list, as far as one has looked. -/
def roomsTo (xs : List ByteArray) : Nat → Int
  | 0 => 0
  | j + 1 => if roomsTo xs j ≠ 0 then roomsTo xs j else if codeB (xs.getD j ⟨#[]⟩) = false then 10 else if 0 ≤ idxS (xs.getD j ⟨#[]⟩) (xs.take j) then 11 else 0
def unfitB (d sl b m wk : Int) (ts : List T4) : Bool := orTo (fun j => fitsV d sl b m wk (ts.getD j (0, 0, 0, 0)).1 (ts.getD j (0, 0, 0, 0)).2.1 (ts.getD j (0, 0, 0, 0)).2.2.1 (ts.getD j (0, 0, 0, 0)).2.2.2 != 0) ts.length
def listedE (d sl b m wk : Int) (u : RuleD) : Int :=
  if u.kind ≠ 10 ∧ 0 < u.times.length then 1 else if u.kind = 10 ∧ u.times.length = 0 then 16 else if 24 < u.times.length then 2 else if unfitB d sl b m wk u.times = true then 14
  else if u.kind ≠ 11 ∧ 0 < u.rooms.length then 1 else if u.kind = 11 ∧ u.rooms.length = 0 then 16 else if 16 < u.rooms.length then 2 else roomsTo u.rooms u.rooms.length
def numbI (k : Int) : Bool := decide (7 ≤ k) && decide (k ≤ 9)
def ruleE (d sl b m wk : Int) (u : RuleD) : Int :=
  if weekB d sl b m wk = false then 1 else if codeB u.name = false then 10 else if u.weight < 0 ∨ 1000 < u.weight then 3 else if u.kind < 1 ∨ 12 < u.kind then 1
  else if selectedB u = false then 4 else if u.n < 0 ∨ (if numbI u.kind then 24 else 0) < u.n then 3 else if listedE d sl b m wk u ≠ 0 then listedE d sl b m wk u else if u.line < 0 then 3 else 0
/-- A rule's fields, as far as they are looked at, fit into the machine's numbers. -/
def RuleOk (u : RuleD) : Prop := selSize u.first ≤ 9223372036854775807 ∧ selSize u.second ≤ 9223372036854775807 ∧ u.times.length ≤ 9223372036854775807 ∧ u.rooms.length ≤ 9223372036854775807
theorem noneS_rep {S : Nat → Prop} {w : World} {s : Sel} {k : Int} {n : ByteArray} {A : Option Addr} {m c : Nat} (h : kSel.rep S w s [.int .i64 k, .string n, .slice A m c]) : noneS s = (decide (k = 0) && decide (n.size = 0) && decide (m = 0)) := by
  obtain ⟨k', n', ks⟩ := s
  obtain ⟨A', c', he, -, -⟩ := rep_sel.1 h
  simp only [List.cons.injEq, Value.int.injEq, Value.string.injEq, Value.slice.injEq, and_true, true_and] at he
  obtain ⟨rfl, rfl, -, rfl, -⟩ := he
  rfl
set_option maxHeartbeats 2000000 in
theorem selected_walk (s t : Sel) (hs : selSize s ≤ 9223372036854775807) (ht : selSize t ≤ 9223372036854775807) (nm f1 s1 : ByteArray) (wt kd f0 s0 nn : Int) (fA sA : Option Addr) (fl fc sl sc : Nat) (tv rv lv : Value) (w : World)
    (h1 : kSel.rep AnyB w s [.int .i64 f0, .string f1, .slice fA fl fc]) (h2 : kSel.rep AnyB w t [.int .i64 s0, .string s1, .slice sA sl sc]) :
    Calls Tryz.prog 33 #[.agg #[.string nm, .int .i64 wt, .int .i64 kd, .int .i64 f0, .string f1, .slice fA fl fc, .int .i64 s0, .string s1, .slice sA sl sc, .int .i64 nn, tv, rv, lv]] w fun e w' => e = .returned (.bool (if kd = 6 then selOk s && selOk t else selOk s && noneS t)) ∧ Below w.heap.size w w' := by
  rw [noneS_rep h2]
  obtain ⟨W, hW⟩ : ∃ W, w.alloc (.cells #[.string nm, .int .i64 wt, .int .i64 kd, .int .i64 f0, .string f1, .slice fA fl fc, .int .i64 s0, .string s1, .slice sA sl sc, .int .i64 nn, tv, rv, lv] 43) = W := ⟨_, rfl⟩
  obtain ⟨r, hr⟩ : ∃ r, w.heap.size = r := ⟨_, rfl⟩
  have hb : Below w.heap.size w W := by rw [← hW]; exact ext_alloc (Below.refl _ _) _
  have hrow : RowV 43 W r [.string nm, .int .i64 wt, .int .i64 kd, .int .i64 f0, .string f1, .slice fA fl fc, .int .i64 s0, .string s1, .slice sA sl sc, .int .i64 nn, tv, rv, lv] := ⟨_, by rw [← hW, ← hr]; exact heap_alloc_new _ _, rfl⟩
  have hc1 := selection_walk s hs f0 f1 fA fl fc W (kSel.later h1 hb)
  have hkeep : ∀ V : World, Below W.heap.size W V → kSel.rep AnyB V t [.int .i64 s0, .string s1, .slice sA sl sc] := fun V hV => kSel.later (kSel.later h2 hb) hV
  have hc2 := hide (fun (V : World) (hV : Below W.heap.size W V) => selection_walk t ht s0 s1 sA sl sc V (hkeep V hV))
  obtain ⟨Q1, hQ1⟩ : ∃ Q1, (validN codeB s 8 0).1 = Q1 := ⟨_, rfl⟩
  obtain ⟨Q2, hQ2⟩ : ∃ Q2, (validN codeB t 8 0).1 = Q2 := ⟨_, rfl⟩
  rw [hQ1] at hc1
  rw [hQ2] at hc2
  rw [show selOk s = Q1 from hQ1, show selOk t = Q2 from hQ2]
  have c2 := hrow.get (j := 2) rfl
  have c3 := hrow.get (j := 3) rfl
  have c4 := hrow.get (j := 4) rfl
  have c5 := hrow.get (j := 5) rfl
  have hrl := hrow.lt
  clear hkeep h1 h2 hQ1 hQ2
  by_cases hk : kd = 6
  · rw [if_pos hk]
    subst hk
    go_enter Tryz.func33, Tryz.ntmps33
    go_wp2_with fail
    refine hc1.mono ?_
    rintro e w1 ⟨rfl, hb1⟩
    have hrow1 := hrow.later hb1
    have c6 := hrow1.get (j := 6) rfl
    have c7 := hrow1.get (j := 7) rfl
    have c8 := hrow1.get (j := 8) rfl
    have hrl1 := hrow1.lt
    have hc3 := hc2.out w1 hb1
    clear hc1 hc2 c2 c3 c4 c5 hrl hrow hrow1
    cases Q1 with
    | false =>
      go_wp2
      go_ret
      exact ⟨rfl, ext_trans hb hb1⟩
    | true =>
      go_wp2_with fail
      refine hc3.mono ?_
      rintro e w2 ⟨rfl, hb2⟩
      go_wp2
      go_ret
      exact ⟨by simp, ext_trans hb (ext_trans hb1 hb2)⟩
  · rw [if_neg hk]
    have ek : (kd == 6) = false := by rw [beq_eq_false_iff_ne]; exact hk
    replace hk := hide hk
    have hE0 := str_empty s1
    have hE : s1.toList.isEmpty = decide (s1.size = 0) := by rw [← hE0]; cases s1.toList <;> rfl
    obtain ⟨EM, hEM⟩ : ∃ EM, decide (s1.size = 0) = EM := ⟨_, rfl⟩
    rw [hEM] at hE hE0 ⊢
    obtain ⟨Z, hZ⟩ : ∃ Z, (s0 == 0) = Z := ⟨_, rfl⟩
    have hZ2 : decide (s0 = 0) = Z := by rw [← hZ]; rfl
    obtain ⟨M, hM⟩ : ∃ M, ((sl : Int) == 0) = M := ⟨_, rfl⟩
    have hM2 : decide (sl = 0) = M := by rw [← hM, Bool.eq_iff_iff]; simp
    rw [hZ2, hM2]
    replace hZ2 := hide hZ2
    replace hM2 := hide hM2
    clear hEM
    go_enter Tryz.func33, Tryz.ntmps33
    go_wp2_with fail
    refine hc1.mono ?_
    rintro e w1 ⟨rfl, hb1⟩
    have hrow1 := hrow.later hb1
    have c6 := hrow1.get (j := 6) rfl
    have c7 := hrow1.get (j := 7) rfl
    have c8 := hrow1.get (j := 8) rfl
    have hrl1 := hrow1.lt
    clear hc1 hc2 c2 c3 c4 c5 hrl hrow hrow1
    cases Q1
    · go_wp2
      go_ret
      exact ⟨rfl, ext_trans hb hb1⟩
    · cases Z
      · go_wp2
        go_ret
        exact ⟨rfl, ext_trans hb hb1⟩
      · cases EM
        · go_wp2
          go_ret
          exact ⟨rfl, ext_trans hb hb1⟩
        · go_wp2
          go_ret
          exact ⟨by simp, ext_trans hb hb1⟩
end Go.Proofs.YtdnnahdafhddlaaGreatDoor

namespace Go.Proofs.YtdnnahdafhddlaaGreatDoor
open Go.RowKit
set_option maxRecDepth 100000

theorem at_take {S : Nat → Prop} {w : World} {A : Option Addr} {l : List ByteArray} (h : At kStr S w A l) (k : Nat) : At kStr S w A (l.take k) := h.take
theorem roomsTo_hit {xs : List ByteArray} {j N : Nat} {e : Int} (_ : roomsTo xs j = 0) (he : roomsTo xs (j + 1) = e) (h0 : e ≠ 0) (hj : j < N) : roomsTo xs N = e := by
  have : ∀ k, roomsTo xs (j + 1 + k) = e := by
    intro k
    induction k with
    | zero => exact he
    | succ k ih => show (if roomsTo xs (j + 1 + k) ≠ 0 then roomsTo xs (j + 1 + k) else _) = e; rw [if_pos (by rw [ih]; exact h0), ih]
  have := this (N - (j + 1))
  rwa [show j + 1 + (N - (j + 1)) = N from by omega] at this
theorem roomsTo_step {xs : List ByteArray} {j : Nat} {x : ByteArray} (h : roomsTo xs j = 0) (hx : xs[j]? = some x) : roomsTo xs (j + 1) = if codeB x = false then 10 else if 0 ≤ idxS x (xs.take j) then 11 else 0 := by
  have e : xs.getD j ⟨#[]⟩ = x := by rw [List.getD_eq_getElem?_getD, hx]; rfl
  show (if roomsTo xs j ≠ 0 then _ else _) = _
  rw [if_neg (by rw [h]; simp), e]
set_option maxHeartbeats 4000000 in
theorem listed_walk (u : RuleD) (d sl b m wk : Int) (nm f1 s1 : ByteArray) (wt kd f0 s0 nn : Int) (fA sA tA rA : Option Addr) (fl fc sl' sc tc rc : Nat) (lv : Value) (w : World) (hk : u.kind = kd) (hnt : u.times.length ≤ 9223372036854775807) (hnr : u.rooms.length ≤ 9223372036854775807) (hrc : u.rooms.length ≤ rc)
    (h1 : At kTime AnyB w tA u.times) (h2 : At kStr AnyB w rA u.rooms) :
    Calls Tryz.prog 34 #[.agg #[.string nm, .int .i64 wt, .int .i64 kd, .int .i64 f0, .string f1, .slice fA fl fc, .int .i64 s0, .string s1, .slice sA sl' sc, .int .i64 nn, .slice tA u.times.length tc, .slice rA u.rooms.length rc, lv], .agg #[.int .i64 d, .int .i64 sl, .int .i64 b, .int .i64 m], .int .i64 wk] w fun e w' => e = .returned (.int .i64 (listedE d sl b m wk u)) ∧ Below w.heap.size w w' := by
  obtain ⟨ts, hts⟩ : ∃ ts, u.times = ts := ⟨_, rfl⟩
  obtain ⟨xs, hxs⟩ : ∃ xs, u.rooms = xs := ⟨_, rfl⟩
  have hE : listedE d sl b m wk u = if kd ≠ 10 ∧ 0 < ts.length then 1 else if kd = 10 ∧ ts.length = 0 then 16 else if 24 < ts.length then 2 else if unfitB d sl b m wk ts = true then 14
    else if kd ≠ 11 ∧ 0 < xs.length then 1 else if kd = 11 ∧ xs.length = 0 then 16 else if 16 < xs.length then 2 else roomsTo xs xs.length := by unfold listedE; rw [hk, hts, hxs]
  rw [hts] at hnt h1
  rw [hxs] at hnr hrc h2
  rw [hts, hxs]
  obtain ⟨E, hEE⟩ : ∃ E, listedE d sl b m wk u = E := ⟨_, rfl⟩
  rw [hEE] at hE ⊢
  clear hEE hts hxs hk
  obtain ⟨W, hW⟩ : ∃ W, (w.alloc (.cells #[.string nm, .int .i64 wt, .int .i64 kd, .int .i64 f0, .string f1, .slice fA fl fc, .int .i64 s0, .string s1, .slice sA sl' sc, .int .i64 nn, .slice tA ts.length tc, .slice rA xs.length rc, lv] 43)).alloc (.cells #[.int .i64 d, .int .i64 sl, .int .i64 b, .int .i64 m] 23) = W := ⟨_, rfl⟩
  obtain ⟨r, hr⟩ : ∃ r, w.heap.size = r := ⟨_, rfl⟩
  obtain ⟨gb, hgb⟩ : ∃ gb, r + 1 = gb := ⟨_, rfl⟩
  have hb : Below w.heap.size w W := by rw [← hW]; exact (by repeat (first | exact Below.refl _ _ | refine ext_alloc ?_ _ | refine ext_drewN ?_ _ | refine ext_drew ?_ | refine ext_trans ?_ (by assumption)))
  have hrow : RowV 43 W r [.string nm, .int .i64 wt, .int .i64 kd, .int .i64 f0, .string f1, .slice fA fl fc, .int .i64 s0, .string s1, .slice sA sl' sc, .int .i64 nn, .slice tA ts.length tc, .slice rA xs.length rc, lv] := ⟨_, by rw [← hW, ← hr]; exact (Below.heap_alloc _ _ _ (by simp only [World.size_alloc]; omega)).trans (heap_alloc_new _ _), rfl⟩
  have bG : Box4 W gb (.int .i64 d) (.int .i64 sl) (.int .i64 b) (.int .i64 m) := by
    rw [← hW, ← hgb, ← hr]
    have := Box4.new (w.alloc (.cells #[.string nm, .int .i64 wt, .int .i64 kd, .int .i64 f0, .string f1, .slice fA fl fc, .int .i64 s0, .string s1, .slice sA sl' sc, .int .i64 nn, .slice tA ts.length tc, .slice rA xs.length rc, lv] 43)) 23 (.int .i64 d) (.int .i64 sl) (.int .i64 b) (.int .i64 m)
    rw [World.size_alloc] at this
    exact this
  have hfit := fit_walk tA ts.length tc (fun q => ts.getD q (0, 0, 0, 0)) d sl b m wk W hnt (cells_of_at (h1.later hb).lo)
  have h2' := h2.later hb
  have hbr : Below r w W := hr ▸ hb
  obtain ⟨N, hN⟩ : ∃ N, xs.length = N := ⟨_, rfl⟩
  obtain ⟨n, hn⟩ : ∃ n, ts.length = n := ⟨_, rfl⟩
  have hun : unfitB d sl b m wk ts = orTo (fun j => fitsV d sl b m wk (ts.getD j (0, 0, 0, 0)).1 (ts.getD j (0, 0, 0, 0)).2.1 (ts.getD j (0, 0, 0, 0)).2.2.1 (ts.getD j (0, 0, 0, 0)).2.2.2 != 0) ts.length := rfl
  rw [← hun] at hfit
  obtain ⟨UF, hUF⟩ : ∃ UF, unfitB d sl b m wk ts = UF := ⟨_, rfl⟩
  rw [hUF] at hfit hE
  rw [hn] at hfit hE hrow hnt ⊢
  rw [hN] at hE hrow hnr hrc ⊢
  rw [hn, hN] at hW
  have c2 := hrow.get (j := 2) rfl
  have c10 := hrow.get (j := 10) rfl
  have c11 := hrow.get (j := 11) rfl
  have hrl := hrow.lt
  obtain ⟨g0, g1, g2, g3⟩ := id bG
  have hgl := bG.lt
  obtain ⟨K10, e10⟩ : ∃ K, (kd == 10) = K := ⟨_, rfl⟩
  obtain ⟨K11, e11⟩ : ∃ K, (kd == 11) = K := ⟨_, rfl⟩
  have p10 : kd = 10 ↔ K10 = true := by rw [← e10]; simp
  have p11 : kd = 11 ↔ K11 = true := by rw [← e11]; simp
  have e10n : (kd != 10) = !K10 := by rw [← e10]; rfl
  have e11n : (kd != 11) = !K11 := by rw [← e11]; rfl
  simp only [p10, p11, ne_eq] at hE
  clear p10 p11 hun hUF hn h1 h2 bG
  replace hN := hide hN
  replace hE := hide hE
  by_cases q1 : K10 = false ∧ 0 < n
  · have hend : Hid (E = 1) := hide (by rw [hE.out, if_pos (by simpa using q1)])
    obtain ⟨rfl, q1⟩ := q1
    have q1' : (0 : Int) < (n : Int) := by omega
    go_enter Tryz.func34, Tryz.ntmps34
    go_wp2
    go_ret
    exact ⟨by rw [hend.out]; rfl, by first | exact hb | exact hbr⟩
  · have hE1 := hE.out
    rw [if_neg (by simpa using q1)] at hE1
    by_cases q2 : K10 = true ∧ n = 0
    · have hend : Hid (E = 16) := hide (by rw [hE1, if_pos q2])
      obtain ⟨rfl, rfl⟩ := q2
      clear q1 hE1
      go_enter Tryz.func34, Tryz.ntmps34
      go_wp2
      go_ret
      exact ⟨by rw [hend.out]; rfl, by first | exact hb | exact hbr⟩
    · rw [if_neg q2] at hE1
      have hPP : (K10 = false ∧ n = 0) ∨ (K10 = true ∧ 0 < n) := by
        cases K10
        · exact .inl ⟨rfl, by
            rcases Nat.eq_zero_or_pos n with h | h
            · exact h
            · exact absurd ⟨rfl, h⟩ q1⟩
        · exact .inr ⟨rfl, by
            rcases Nat.eq_zero_or_pos n with h | h
            · exact absurd ⟨rfl, h⟩ q2
            · exact h⟩
      clear q1 q2
      by_cases q3 : 24 < n
      · have hend : Hid (E = 2) := hide (by rw [hE1, if_pos q3])
        have q3' : (24 : Int) < (n : Int) := by omega
        clear hE1 hfit
        rcases hPP with ⟨rfl, rfl⟩ | ⟨rfl, q4⟩
        · omega
        · have q4' : ((n : Int) == 0) = false := by rw [beq_eq_false_iff_ne]; omega
          go_enter Tryz.func34, Tryz.ntmps34
          go_wp2
          go_ret
          exact ⟨by rw [hend.out]; rfl, by first | exact hb | exact hbr⟩
      · rw [if_neg q3] at hE1
        have q3' : ¬ (24 : Int) < (n : Int) := by omega
        cases UF with
        | true =>
          have hend : Hid (E = 14) := hide (by rw [hE1, if_pos rfl])
          clear hE1 q3
          rcases hPP with ⟨rfl, rfl⟩ | ⟨rfl, q4⟩
          · go_enter Tryz.func34, Tryz.ntmps34
            go_wp2_with fail
            refine hfit.mono ?_
            rintro e w1 ⟨rfl, hb1⟩
            go_wp2
            go_ret
            exact ⟨by rw [hend.out]; rfl, by first | exact ext_trans hb hb1 | exact Below.trans hbr (hb1.mono hbr.size)⟩
          · have q4' : ((n : Int) == 0) = false := by rw [beq_eq_false_iff_ne]; omega
            go_enter Tryz.func34, Tryz.ntmps34
            go_wp2_with fail
            refine hfit.mono ?_
            rintro e w1 ⟨rfl, hb1⟩
            go_wp2
            go_ret
            exact ⟨by rw [hend.out]; rfl, by first | exact ext_trans hb hb1 | exact Below.trans hbr (hb1.mono hbr.size)⟩
        | false =>
          rw [if_neg (by decide)] at hE1
          clear q3
          rcases hPP with ⟨rfl, rfl⟩ | ⟨rfl, q4⟩
          · go_enter Tryz.func34, Tryz.ntmps34
            (
                        go_wp2_with fail
                        refine hfit.mono ?_
                        rintro e w1 ⟨rfl, hb1⟩
                        clear hfit
                        have hbf : Below r w w1 := Below.trans hbr (hb1.mono (by have := hbr.size; omega))
                        have hrow1 := hrow.later hb1
                        have c2x := hrow1.get (j := 2) rfl
                        have c11x := hrow1.get (j := 11) rfl
                        have hrlx := hrow1.lt
                        have h2x := h2'.later hb1
                        clear hrow hrow1 h2' c2 c10 c11 hrl hW hb hbr g0 g1 g2 g3 hgl hb1
                        by_cases p1 : K11 = false ∧ 0 < N
                        · have hend : Hid (E = 1) := hide (by rw [hE1, if_pos (by simpa using p1)])
                          obtain ⟨rfl, p1⟩ := p1
                          have p1' : (0 : Int) < (N : Int) := by omega
                          clear hE1
                          go_wp2
                          go_ret
                          exact ⟨by rw [hend.out]; rfl, by rw [hr]; exact hbf⟩
                        · rw [if_neg (by simpa using p1)] at hE1
                          by_cases p2 : K11 = true ∧ N = 0
                          · have hend : Hid (E = 16) := hide (by rw [hE1, if_pos p2])
                            obtain ⟨rfl, rfl⟩ := p2
                            clear hE1 p1
                            go_wp2
                            go_ret
                            exact ⟨by rw [hend.out]; rfl, by rw [hr]; exact hbf⟩
                          · rw [if_neg p2] at hE1
                            have hQQ : (K11 = false ∧ N = 0) ∨ (K11 = true ∧ 0 < N) := by
                              cases K11
                              · exact .inl ⟨rfl, by
                                  rcases Nat.eq_zero_or_pos N with h | h
                                  · exact h
                                  · exact absurd ⟨rfl, h⟩ p1⟩
                              · exact .inr ⟨rfl, by
                                  rcases Nat.eq_zero_or_pos N with h | h
                                  · exact absurd ⟨rfl, h⟩ p2
                                  · exact h⟩
                            clear p1 p2
                            by_cases p3 : 16 < N
                            · have hend : Hid (E = 2) := hide (by rw [hE1, if_pos p3])
                              have p3' : (16 : Int) < (N : Int) := by omega
                              clear hE1
                              rcases hQQ with ⟨rfl, rfl⟩ | ⟨rfl, p4⟩
                              · omega
                              · have p4' : ((N : Int) == 0) = false := by rw [beq_eq_false_iff_ne]; omega
                                go_wp2
                                go_ret
                                exact ⟨by rw [hend.out]; rfl, by rw [hr]; exact hbf⟩
                            · rw [if_neg p3] at hE1
                              have p3' : ¬ (16 : Int) < (N : Int) := by omega
                              have hE2 := hide hE1
                              clear hE1 p3
                              have hgo : ∃ P : Bool, ((N : Int) == 0) = P := ⟨_, rfl⟩
                              rcases hQQ with ⟨rfl, hN0⟩ | ⟨rfl, p4⟩
                              · have hend : Hid (E = 0) := hide (by rw [hE2.out, hN0]; rfl)
                                subst hN0
                                go_wp2_with fail
                                go_loopw [7, 8, 69] (fun _ _ i wr => i = .int .i64 0 ∧ wr = w1) (fun _ _ _ _ => 0)
                                case atStart => exact ⟨rfl, rfl⟩
                                case round =>
                                  obtain ⟨rfl, rfl⟩ := hrel
                                  go_wp2
                                  go_ret
                                  exact ⟨by rw [hend.out]; rfl, by rw [hr]; exact hbf⟩
                              · have p4' : ((N : Int) == 0) = false := by rw [beq_eq_false_iff_ne]; omega
                                clear hgo
                                go_wp2_with fail
                                go_loopw [7, 8, 69] (fun _ _ i wr => ∃ j : Nat, j ≤ N ∧ i = .int .i64 j ∧ Hid (roomsTo xs j = 0) ∧ wr = w1) (fun _ _ i _ => N - (intOf i).toNat)
                                case atStart => exact ⟨0, Nat.zero_le _, rfl, hide rfl, rfl⟩
                                case round =>
                                  obtain ⟨j, hj, rfl, hR, rfl⟩ := hrel
                                  by_cases hlt : j < N
                                  · obtain ⟨x, hx⟩ : ∃ x, xs[j]? = some x := ⟨_, List.getElem?_eq_getElem (by rw [hN.out]; exact hlt)⟩
                                    obtain ⟨rb, off, rfl, -, hrb, qc⟩ := h2x.str hx
                                    have hst := roomsTo_step hR.out hx
                                    have hcn := scontains_walk (some ⟨rb, off, none⟩) (xs.take j) rc x wr (by rw [List.length_take]; omega) (at_take h2x j).any
                                    rw [show (xs.take j).length = j from by rw [List.length_take, hN.out]; omega] at hcn
                                    have hcv := cvalid_walk x
                                    obtain ⟨D, hD⟩ : ∃ D, decide (0 ≤ idxS x (xs.take j)) = D := ⟨_, rfl⟩
                                    rw [hD] at hcn
                                    have hj0 : (0 : Int) ≤ (j : Int) := by omega
                                    have hj1 : (j : Int) < (N : Int) := by omega
                                    have hj2 : (j : Int) ≤ (rc : Int) := by omega
                                    have hEN : Hid (E = roomsTo xs N) := hide (by rw [hE2.out, ← hN.out])
                                    clear hx
                                    cases hc : codeB x with
                                    | false =>
                                      rw [hc] at hst hcv
                                      have hend : Hid (E = 10) := hide (by rw [hEN.out]; exact roomsTo_hit hR.out hst (by decide) hlt)
                                      clear hst hc hcn hD
                                      go_wp2_with (go_at_call 32; refine (hcv _).mono ?_; rintro e w' ⟨rfl, rfl⟩)
                                      go_ret
                                      exact ⟨by rw [hend.out]; rfl, by rw [hr]; exact hbf⟩
                                    | true =>
                                      rw [hc, if_neg (by decide)] at hst
                                      rw [hc] at hcv
                                      cases D with
                                      | true =>
                                        rw [if_pos (of_decide_eq_true hD)] at hst
                                        have hend : Hid (E = 11) := hide (by rw [hEN.out]; exact roomsTo_hit hR.out hst (by decide) hlt)
                                        clear hst hc hD
                                        go_wp2_with (first | (go_at_call 32; refine (hcv _).mono ?_; rintro e w' ⟨rfl, rfl⟩) | (go_at_call 70; refine hcn.mono ?_; rintro e w' ⟨rfl, rfl⟩))
                                        go_ret
                                        exact ⟨by rw [hend.out]; rfl, by rw [hr]; exact hbf⟩
                                      | false =>
                                        rw [if_neg (of_decide_eq_false hD)] at hst
                                        replace hst := hide hst
                                        clear hc hD
                                        go_wp2_with (first | (go_at_call 32; refine (hcv _).mono ?_; rintro e w' ⟨rfl, rfl⟩) | (go_at_call 70; refine hcn.mono ?_; rintro e w' ⟨rfl, rfl⟩))
                                        go_roundw
                                        case rel => exact ⟨j + 1, by omega, by go_num, hst, by first | rfl | trivial⟩
                                        case measure => simp [intOf]; omega
                                  · obtain rfl : j = N := by omega
                                    have hend : Hid (E = 0) := hide (by rw [hE2.out]; exact hR.out)
                                    go_wp2
                                    go_ret
                                    exact ⟨by rw [hend.out]; rfl, by rw [hr]; exact hbf⟩)
          · have q4' : ((n : Int) == 0) = false := by rw [beq_eq_false_iff_ne]; omega
            go_enter Tryz.func34, Tryz.ntmps34
            (
                        go_wp2_with fail
                        refine hfit.mono ?_
                        rintro e w1 ⟨rfl, hb1⟩
                        clear hfit
                        have hbf : Below r w w1 := Below.trans hbr (hb1.mono (by have := hbr.size; omega))
                        have hrow1 := hrow.later hb1
                        have c2x := hrow1.get (j := 2) rfl
                        have c11x := hrow1.get (j := 11) rfl
                        have hrlx := hrow1.lt
                        have h2x := h2'.later hb1
                        clear hrow hrow1 h2' c2 c10 c11 hrl hW hb hbr g0 g1 g2 g3 hgl hb1
                        by_cases p1 : K11 = false ∧ 0 < N
                        · have hend : Hid (E = 1) := hide (by rw [hE1, if_pos (by simpa using p1)])
                          obtain ⟨rfl, p1⟩ := p1
                          have p1' : (0 : Int) < (N : Int) := by omega
                          clear hE1
                          go_wp2
                          go_ret
                          exact ⟨by rw [hend.out]; rfl, by rw [hr]; exact hbf⟩
                        · rw [if_neg (by simpa using p1)] at hE1
                          by_cases p2 : K11 = true ∧ N = 0
                          · have hend : Hid (E = 16) := hide (by rw [hE1, if_pos p2])
                            obtain ⟨rfl, rfl⟩ := p2
                            clear hE1 p1
                            go_wp2
                            go_ret
                            exact ⟨by rw [hend.out]; rfl, by rw [hr]; exact hbf⟩
                          · rw [if_neg p2] at hE1
                            have hQQ : (K11 = false ∧ N = 0) ∨ (K11 = true ∧ 0 < N) := by
                              cases K11
                              · exact .inl ⟨rfl, by
                                  rcases Nat.eq_zero_or_pos N with h | h
                                  · exact h
                                  · exact absurd ⟨rfl, h⟩ p1⟩
                              · exact .inr ⟨rfl, by
                                  rcases Nat.eq_zero_or_pos N with h | h
                                  · exact absurd ⟨rfl, h⟩ p2
                                  · exact h⟩
                            clear p1 p2
                            by_cases p3 : 16 < N
                            · have hend : Hid (E = 2) := hide (by rw [hE1, if_pos p3])
                              have p3' : (16 : Int) < (N : Int) := by omega
                              clear hE1
                              rcases hQQ with ⟨rfl, rfl⟩ | ⟨rfl, p4⟩
                              · omega
                              · have p4' : ((N : Int) == 0) = false := by rw [beq_eq_false_iff_ne]; omega
                                go_wp2
                                go_ret
                                exact ⟨by rw [hend.out]; rfl, by rw [hr]; exact hbf⟩
                            · rw [if_neg p3] at hE1
                              have p3' : ¬ (16 : Int) < (N : Int) := by omega
                              have hE2 := hide hE1
                              clear hE1 p3
                              have hgo : ∃ P : Bool, ((N : Int) == 0) = P := ⟨_, rfl⟩
                              rcases hQQ with ⟨rfl, hN0⟩ | ⟨rfl, p4⟩
                              · have hend : Hid (E = 0) := hide (by rw [hE2.out, hN0]; rfl)
                                subst hN0
                                go_wp2_with fail
                                go_loopw [7, 8, 69] (fun _ _ i wr => i = .int .i64 0 ∧ wr = w1) (fun _ _ _ _ => 0)
                                case atStart => exact ⟨rfl, rfl⟩
                                case round =>
                                  obtain ⟨rfl, rfl⟩ := hrel
                                  go_wp2
                                  go_ret
                                  exact ⟨by rw [hend.out]; rfl, by rw [hr]; exact hbf⟩
                              · have p4' : ((N : Int) == 0) = false := by rw [beq_eq_false_iff_ne]; omega
                                clear hgo
                                go_wp2_with fail
                                go_loopw [7, 8, 69] (fun _ _ i wr => ∃ j : Nat, j ≤ N ∧ i = .int .i64 j ∧ Hid (roomsTo xs j = 0) ∧ wr = w1) (fun _ _ i _ => N - (intOf i).toNat)
                                case atStart => exact ⟨0, Nat.zero_le _, rfl, hide rfl, rfl⟩
                                case round =>
                                  obtain ⟨j, hj, rfl, hR, rfl⟩ := hrel
                                  by_cases hlt : j < N
                                  · obtain ⟨x, hx⟩ : ∃ x, xs[j]? = some x := ⟨_, List.getElem?_eq_getElem (by rw [hN.out]; exact hlt)⟩
                                    obtain ⟨rb, off, rfl, -, hrb, qc⟩ := h2x.str hx
                                    have hst := roomsTo_step hR.out hx
                                    have hcn := scontains_walk (some ⟨rb, off, none⟩) (xs.take j) rc x wr (by rw [List.length_take]; omega) (at_take h2x j).any
                                    rw [show (xs.take j).length = j from by rw [List.length_take, hN.out]; omega] at hcn
                                    have hcv := cvalid_walk x
                                    obtain ⟨D, hD⟩ : ∃ D, decide (0 ≤ idxS x (xs.take j)) = D := ⟨_, rfl⟩
                                    rw [hD] at hcn
                                    have hj0 : (0 : Int) ≤ (j : Int) := by omega
                                    have hj1 : (j : Int) < (N : Int) := by omega
                                    have hj2 : (j : Int) ≤ (rc : Int) := by omega
                                    have hEN : Hid (E = roomsTo xs N) := hide (by rw [hE2.out, ← hN.out])
                                    clear hx
                                    cases hc : codeB x with
                                    | false =>
                                      rw [hc] at hst hcv
                                      have hend : Hid (E = 10) := hide (by rw [hEN.out]; exact roomsTo_hit hR.out hst (by decide) hlt)
                                      clear hst hc hcn hD
                                      go_wp2_with (go_at_call 32; refine (hcv _).mono ?_; rintro e w' ⟨rfl, rfl⟩)
                                      go_ret
                                      exact ⟨by rw [hend.out]; rfl, by rw [hr]; exact hbf⟩
                                    | true =>
                                      rw [hc, if_neg (by decide)] at hst
                                      rw [hc] at hcv
                                      cases D with
                                      | true =>
                                        rw [if_pos (of_decide_eq_true hD)] at hst
                                        have hend : Hid (E = 11) := hide (by rw [hEN.out]; exact roomsTo_hit hR.out hst (by decide) hlt)
                                        clear hst hc hD
                                        go_wp2_with (first | (go_at_call 32; refine (hcv _).mono ?_; rintro e w' ⟨rfl, rfl⟩) | (go_at_call 70; refine hcn.mono ?_; rintro e w' ⟨rfl, rfl⟩))
                                        go_ret
                                        exact ⟨by rw [hend.out]; rfl, by rw [hr]; exact hbf⟩
                                      | false =>
                                        rw [if_neg (of_decide_eq_false hD)] at hst
                                        replace hst := hide hst
                                        clear hc hD
                                        go_wp2_with (first | (go_at_call 32; refine (hcv _).mono ?_; rintro e w' ⟨rfl, rfl⟩) | (go_at_call 70; refine hcn.mono ?_; rintro e w' ⟨rfl, rfl⟩))
                                        go_roundw
                                        case rel => exact ⟨j + 1, by omega, by go_num, hst, by first | rfl | trivial⟩
                                        case measure => simp [intOf]; omega
                                  · obtain rfl : j = N := by omega
                                    have hend : Hid (E = 0) := hide (by rw [hE2.out]; exact hR.out)
                                    go_wp2
                                    go_ret
                                    exact ⟨by rw [hend.out]; rfl, by rw [hr]; exact hbf⟩)
end Go.Proofs.YtdnnahdafhddlaaGreatDoor

namespace Go.Proofs.YtdnnahdafhddlaaGreatDoor
open Go.RowKit
set_option maxRecDepth 100000

theorem numberedI_walk (k : Int) (w : World) : Calls Tryz.prog 30 #[.int .i64 k] w fun e w' => e = .returned (.bool (numbI k)) ∧ w = w' := by
  by_cases h : 7 ≤ k ∧ k ≤ 9
  · rw [show numbI k = true from by unfold numbI; simp; omega]
    go_enter Tryz.func30, Tryz.ntmps30
    go_wp2
    all_goals
      go_ret
      exact ⟨ret_bool (by simp; try omega), rfl⟩
  · rw [show numbI k = false from by unfold numbI; simp; omega]
    go_enter Tryz.func30, Tryz.ntmps30
    go_wp2
    all_goals
      go_ret
      exact ⟨ret_bool (by simp; try omega), rfl⟩
set_option maxHeartbeats 4000000 in
theorem rvalid_walk (u : RuleD) (hok : RuleOk u) (d sl b m wk : Int) (f1 s1 : ByteArray) (f0 s0 : Int) (fA sA tA rA : Option Addr) (fl fc sl' sc tc rc : Nat) (w : World) (hrc : u.rooms.length ≤ rc)
    (h1 : kSel.rep AnyB w u.first [.int .i64 f0, .string f1, .slice fA fl fc]) (h2 : kSel.rep AnyB w u.second [.int .i64 s0, .string s1, .slice sA sl' sc]) (h3 : At kTime AnyB w tA u.times) (h4 : At kStr AnyB w rA u.rooms) :
    Calls Tryz.prog 16 #[.agg #[.string u.name, .int .i64 u.weight, .int .i64 u.kind, .int .i64 f0, .string f1, .slice fA fl fc, .int .i64 s0, .string s1, .slice sA sl' sc, .int .i64 u.n, .slice tA u.times.length tc, .slice rA u.rooms.length rc, .int .i64 u.line], .agg #[.int .i64 d, .int .i64 sl, .int .i64 b, .int .i64 m], .int .i64 wk] w fun e w' => e = .returned (.int .i64 (ruleE d sl b m wk u)) ∧ Below w.heap.size w w' := by
  obtain ⟨o1, o2, o3, o4⟩ := hok
  have hE : ruleE d sl b m wk u = if weekB d sl b m wk = false then 1 else if codeB u.name = false then 10 else if u.weight < 0 ∨ 1000 < u.weight then 3 else if u.kind < 1 ∨ 12 < u.kind then 1
    else if selectedB u = false then 4 else if u.n < 0 ∨ (if numbI u.kind then 24 else 0) < u.n then 3 else if listedE d sl b m wk u ≠ 0 then listedE d sl b m wk u else if u.line < 0 then 3 else 0 := rfl
  obtain ⟨E, hEE⟩ : ∃ E, ruleE d sl b m wk u = E := ⟨_, rfl⟩
  obtain ⟨nm, hnm⟩ : ∃ nm, u.name = nm := ⟨_, rfl⟩
  obtain ⟨wt, hwt⟩ : ∃ wt, u.weight = wt := ⟨_, rfl⟩
  obtain ⟨kd, hkd⟩ : ∃ kd, u.kind = kd := ⟨_, rfl⟩
  obtain ⟨nn, hnn⟩ : ∃ nn, u.n = nn := ⟨_, rfl⟩
  obtain ⟨ln, hln⟩ : ∃ ln, u.line = ln := ⟨_, rfl⟩
  obtain ⟨nt, hnt⟩ : ∃ nt, u.times.length = nt := ⟨_, rfl⟩
  obtain ⟨nr, hnr⟩ : ∃ nr, u.rooms.length = nr := ⟨_, rfl⟩
  have hsel := fun V (hV : Below w.heap.size w V) => selected_walk u.first u.second o1 o2 nm f1 s1 wt kd f0 s0 nn fA sA fl fc sl' sc (.slice tA nt tc) (.slice rA nr rc) (.int .i64 ln) V (kSel.later h1 hV) (kSel.later h2 hV)
  have hlis := fun V (hV : Below w.heap.size w V) => listed_walk u d sl b m wk nm f1 s1 wt kd f0 s0 nn fA sA tA rA fl fc sl' sc tc rc (.int .i64 ln) V hkd o3 o4 hrc (h3.later hV) (h4.later hV)
  rw [hnt, hnr] at hlis
  have hSB : selectedB u = if kd = 6 then selOk u.first && selOk u.second else selOk u.first && noneS u.second := by unfold selectedB; rw [hkd]
  rw [← hSB] at hsel
  obtain ⟨SB, hSBe⟩ : ∃ SB, selectedB u = SB := ⟨_, rfl⟩
  obtain ⟨L, hL⟩ : ∃ L, listedE d sl b m wk u = L := ⟨_, rfl⟩
  rw [hSBe] at hsel hE
  rw [hL] at hlis hE
  rw [hEE, hnm, hwt, hkd, hnn, hln] at hE
  rw [hEE, hnm, hwt, hkd, hnn, hln, hnt, hnr]
  clear hEE hnm hwt hkd hnn hln hnt hnr hSB hSBe hL h1 h2 h3 h4 o1 o2 o3 o4 hrc
  obtain ⟨W, hW⟩ : ∃ W, (w.alloc (.cells #[.string nm, .int .i64 wt, .int .i64 kd, .int .i64 f0, .string f1, .slice fA fl fc, .int .i64 s0, .string s1, .slice sA sl' sc, .int .i64 nn, .slice tA nt tc, .slice rA nr rc, .int .i64 ln] 43)).alloc (.cells #[.int .i64 d, .int .i64 sl, .int .i64 b, .int .i64 m] 23) = W := ⟨_, rfl⟩
  obtain ⟨r, hr⟩ : ∃ r, w.heap.size = r := ⟨_, rfl⟩
  obtain ⟨gb, hgb⟩ : ∃ gb, r + 1 = gb := ⟨_, rfl⟩
  have hb : Below w.heap.size w W := by rw [← hW]; exact (by repeat (first | exact Below.refl _ _ | refine ext_alloc ?_ _ | refine ext_drewN ?_ _ | refine ext_drew ?_ | refine ext_trans ?_ (by assumption)))
  have hrow : RowV 43 W r [.string nm, .int .i64 wt, .int .i64 kd, .int .i64 f0, .string f1, .slice fA fl fc, .int .i64 s0, .string s1, .slice sA sl' sc, .int .i64 nn, .slice tA nt tc, .slice rA nr rc, .int .i64 ln] := ⟨_, by rw [← hW, ← hr]; exact (Below.heap_alloc _ _ _ (by simp only [World.size_alloc]; omega)).trans (heap_alloc_new _ _), rfl⟩
  have bG : Box4 W gb (.int .i64 d) (.int .i64 sl) (.int .i64 b) (.int .i64 m) := by
    rw [← hW, ← hgb, ← hr]
    have := Box4.new (w.alloc (.cells #[.string nm, .int .i64 wt, .int .i64 kd, .int .i64 f0, .string f1, .slice fA fl fc, .int .i64 s0, .string s1, .slice sA sl' sc, .int .i64 nn, .slice tA nt tc, .slice rA nr rc, .int .i64 ln] 43)) 23 (.int .i64 d) (.int .i64 sl) (.int .i64 b) (.int .i64 m)
    rw [World.size_alloc] at this
    exact this
  have hnb := numberedI_walk kd
  obtain ⟨NB, hNB⟩ : ∃ NB, numbI kd = NB := ⟨_, rfl⟩
  rw [hNB] at hnb hE
  clear hNB
  have c2 := hrow.get (j := 2) rfl
  have hrl := hrow.lt
  obtain ⟨g0, g1, g2, g3⟩ := id bG
  have hgl := bG.lt
  obtain ⟨M, hM⟩ : ∃ M : Int, (if NB = true then 24 else 0) = M := ⟨_, rfl⟩
  rw [hM] at hE
  replace hE := hide hE
  replace hsel := hide hsel
  replace hlis := hide hlis
  go_enter Tryz.func16, Tryz.ntmps16
  go_upto_if 11 with (go_at_call 30; refine (hnb _).mono ?_; rintro e w' ⟨rfl, rfl⟩)
  go_cut [7] (fun s7 V => s7 = .int .i64 M ∧ V = W)
  case first =>
    cases NB with
    | true =>
      have hM : (24 : Int) = M := hM
      subst hM
      go_wp2_with fail
      go_meet
      exact ⟨rfl, rfl⟩
    | false =>
      have hM : (0 : Int) = M := hM
      subst hM
      go_wp2_with fail
      go_meet
      exact ⟨rfl, rfl⟩
  case rest =>
    obtain ⟨rfl, rfl⟩ := hcut
    have hwk := tgWeek_walk d sl b m wk wc
    have hE1 := hE.out
    clear hE hnb hM
    go_wp2_with fail
    refine hwk.mono ?_
    rintro e w1 ⟨rfl, hb1⟩
    clear hwk
    have hrow1 := hrow.later hb1
    have bG1 := bG.later hb1
    have hbw := ext_trans hb hb1
    clear c2 hrl g0 g1 g2 g3 hgl hrow bG hb1
    cases hwb : weekB d sl b m wk with
    | false =>
      have hend : Hid (E = 1) := hide (by rw [hE1, if_pos hwb])
      clear hE1
      go_wp2
      go_ret
      exact ⟨by rw [hend.out]; rfl, by first | exact hbw | (rw [← hr]; exact hbw) | (rw [hr]; exact hbw)⟩
    | true =>
      rw [if_neg (by rw [hwb]; decide)] at hE1
      have c0 := hrow1.get (j := 0) rfl
      have c1 := hrow1.get (j := 1) rfl
      have c2 := hrow1.get (j := 2) rfl
      have hrl := hrow1.lt
      have hcv := cvalid_walk nm
      cases hcb : codeB nm with
      | false =>
        rw [hcb] at hcv
        have hend : Hid (E = 10) := hide (by rw [hE1, if_pos hcb])
        clear hE1
        go_wp2_with (go_at_call 32; refine (hcv _).mono ?_; rintro e w' ⟨rfl, rfl⟩)
        go_ret
        exact ⟨by rw [hend.out]; rfl, by first | exact hbw | (rw [← hr]; exact hbw) | (rw [hr]; exact hbw)⟩
      | true =>
        rw [hcb] at hcv
        rw [if_neg (by rw [hcb]; decide)] at hE1
        clear hwb hcb
        by_cases hw1 : wt < 0
        · have hend : Hid (E = 3) := hide (by rw [hE1, if_pos (.inl hw1)])
          clear hE1
          go_wp2_with (go_at_call 32; refine (hcv _).mono ?_; rintro e w' ⟨rfl, rfl⟩)
          go_ret
          exact ⟨by rw [hend.out]; rfl, by first | exact hbw | (rw [← hr]; exact hbw) | (rw [hr]; exact hbw)⟩
        · by_cases hw2 : 1000 < wt
          · have hend : Hid (E = 3) := hide (by rw [hE1, if_pos (.inr hw2)])
            clear hE1
            go_wp2_with (go_at_call 32; refine (hcv _).mono ?_; rintro e w' ⟨rfl, rfl⟩)
            go_ret
            exact ⟨by rw [hend.out]; rfl, by first | exact hbw | (rw [← hr]; exact hbw) | (rw [hr]; exact hbw)⟩
          · rw [if_neg (by omega)] at hE1
            by_cases hk1 : kd < 1
            · have hend : Hid (E = 1) := hide (by rw [hE1, if_pos (.inl hk1)])
              clear hE1
              go_wp2_with (go_at_call 32; refine (hcv _).mono ?_; rintro e w' ⟨rfl, rfl⟩)
              go_ret
              exact ⟨by rw [hend.out]; rfl, by first | exact hbw | (rw [← hr]; exact hbw) | (rw [hr]; exact hbw)⟩
            · by_cases hk2 : 12 < kd
              · have hend : Hid (E = 1) := hide (by rw [hE1, if_pos (.inr hk2)])
                clear hE1
                go_wp2_with (go_at_call 32; refine (hcv _).mono ?_; rintro e w' ⟨rfl, rfl⟩)
                go_ret
                exact ⟨by rw [hend.out]; rfl, by first | exact hbw | (rw [← hr]; exact hbw) | (rw [hr]; exact hbw)⟩
              · rw [if_neg (by omega)] at hE1
                have c3 := hrow1.get (j := 3) rfl
                have c4 := hrow1.get (j := 4) rfl
                have c5 := hrow1.get (j := 5) rfl
                have c6 := hrow1.get (j := 6) rfl
                have c7 := hrow1.get (j := 7) rfl
                have c8 := hrow1.get (j := 8) rfl
                have c9 := hrow1.get (j := 9) rfl
                have c10 := hrow1.get (j := 10) rfl
                have c11 := hrow1.get (j := 11) rfl
                have c12 := hrow1.get (j := 12) rfl
                have hE2 := hide hE1
                have hs1 := hsel.out w1 (by first | exact hbw | (rw [← hr]; exact hbw) | (rw [hr]; exact hbw))
                clear hE1 hsel
                go_wp2_with (first | (go_at_call 32; refine (hcv _).mono ?_; rintro e w' ⟨rfl, rfl⟩) | fail)
                refine hs1.mono ?_
                rintro e w2 ⟨rfl, hb2⟩
                clear hs1
                have hbw2 : Below r w w2 := Below.trans (by first | exact hbw | (rw [← hr]; exact hbw) | (rw [hr]; exact hbw)) (hb2.mono (by have := hbw.size; omega))
                have hrow2 := hrow1.later hb2
                have bG2 := bG1.later hb2
                clear hrow1 bG1 c0 c1 c2 c3 c4 c5 c6 c7 c8 c9 c10 c11 c12 hrl hbw hb2
                cases SB with
                | false =>
                  have hend : Hid (E = 4) := hide (by rw [hE2.out, if_pos rfl])
                  clear hE2
                  go_wp2
                  go_ret
                  exact ⟨by rw [hend.out]; rfl, by first | exact hbw2 | (rw [← hr]; exact hbw2) | (rw [hr]; exact hbw2)⟩
                | true =>
                  have hE3 := hE2.out
                  rw [if_neg (by decide)] at hE3
                  have x0 := hrow2.get (j := 0) rfl
                  have x1 := hrow2.get (j := 1) rfl
                  have x2 := hrow2.get (j := 2) rfl
                  have x3 := hrow2.get (j := 3) rfl
                  have x4 := hrow2.get (j := 4) rfl
                  have x5 := hrow2.get (j := 5) rfl
                  have x6 := hrow2.get (j := 6) rfl
                  have x7 := hrow2.get (j := 7) rfl
                  have x8 := hrow2.get (j := 8) rfl
                  have x9 := hrow2.get (j := 9) rfl
                  have x10 := hrow2.get (j := 10) rfl
                  have x11 := hrow2.get (j := 11) rfl
                  have x12 := hrow2.get (j := 12) rfl
                  have hrl := hrow2.lt
                  obtain ⟨g0, g1, g2, g3⟩ := id bG2
                  have hgl := bG2.lt
                  by_cases hn1 : nn < 0
                  · have hend : Hid (E = 3) := hide (by rw [hE3, if_pos (.inl hn1)])
                    clear hE3 hE2
                    go_wp2
                    go_ret
                    exact ⟨by rw [hend.out]; rfl, by first | exact hbw2 | (rw [← hr]; exact hbw2) | (rw [hr]; exact hbw2)⟩
                  · by_cases hn2 : M < nn
                    · have hend : Hid (E = 3) := hide (by rw [hE3, if_pos (.inr hn2)])
                      clear hE3 hE2
                      go_wp2
                      go_ret
                      exact ⟨by rw [hend.out]; rfl, by first | exact hbw2 | (rw [← hr]; exact hbw2) | (rw [hr]; exact hbw2)⟩
                    · rw [if_neg (by omega)] at hE3
                      have hE4 := hide hE3
                      have hl1 := hlis.out w2 (by first | exact hbw2 | (rw [← hr]; exact hbw2) | (rw [hr]; exact hbw2))
                      clear hE3 hE2 hlis
                      go_wp2_with fail
                      all_goals try (exfalso; omega)
                      refine hl1.mono ?_
                      rintro e w3 ⟨rfl, hb3⟩
                      clear hl1
                      have hbw3 : Below r w w3 := Below.trans hbw2 (hb3.mono (by have := hbw2.size; omega))
                      have hrow3 := hrow2.later hb3
                      have y12 := hrow3.get (j := 12) rfl
                      have hrl3 := hrow3.lt
                      clear hrow2 hrow3 bG2 x0 x1 x2 x3 x4 x5 x6 x7 x8 x9 x10 x11 x12 g0 g1 g2 g3 hgl hrl hb3 hbw2
                      by_cases hL : L = 0
                      · have hE5 := hE4.out
                        rw [if_neg (by simpa using hL)] at hE5
                        by_cases hl : ln < 0
                        · have hend : Hid (E = 3) := hide (by rw [hE5, if_pos hl])
                          subst hL
                          clear hE5 hE4
                          go_wp2
                          go_ret
                          exact ⟨by rw [hend.out]; rfl, by first | exact hbw3 | (rw [← hr]; exact hbw3) | (rw [hr]; exact hbw3)⟩
                        · have hend : Hid (E = 0) := hide (by rw [hE5, if_neg hl])
                          subst hL
                          clear hE5 hE4
                          go_wp2
                          go_ret
                          exact ⟨by rw [hend.out]; rfl, by first | exact hbw3 | (rw [← hr]; exact hbw3) | (rw [hr]; exact hbw3)⟩
                      · have hend : Hid (E = L) := hide (by rw [hE4.out, if_pos hL])
                        have hL2 : (L != 0) = true := by rw [bne_iff_ne]; exact hL
                        replace hL := hide hL
                        clear hE4
                        go_wp2
                        go_ret
                        exact ⟨by rw [hend.out]; rfl, by first | exact hbw3 | (rw [← hr]; exact hbw3) | (rw [hr]; exact hbw3)⟩
end Go.Proofs.YtdnnahdafhddlaaGreatDoor

namespace Go.Proofs.YtdnnahdafhddlaaGreatDoor
open Go.RowKit
set_option maxRecDepth 100000

def hasN (t : ByteArray) (l : List RuleD) : Bool := l.any fun x => decide (x.name = t)
theorem hasN_of {t : ByteArray} {l : List RuleD} {j : Nat} {y : RuleD} (h : l[j]? = some y) (hy : y.name = t) : hasN t l = true := List.any_eq_true.2 ⟨y, List.mem_of_getElem? h, decide_eq_true hy⟩
theorem hasN_no {t : ByteArray} {l : List RuleD} (h : ∀ y ∈ l, y.name ≠ t) : hasN t l = false := List.any_eq_false.2 fun y hy => by rw [decide_eq_true_eq]; exact h y hy
theorem ba_toList {a b : ByteArray} (h : a.toList = b.toList) : a = b := by rw [ByteArray.toList_eq, ByteArray.toList_eq] at h; exact ByteArray.ext (Array.toList_inj.1 h)
theorem take_no {t : ByteArray} {l : List RuleD} {j : Nat} {y : RuleD} (h : l[j]? = some y) (hn : ∀ x ∈ l.take j, x.name ≠ t) (hy : y.name ≠ t) : ∀ x ∈ l.take (j + 1), x.name ≠ t := by
  intro x hx
  rw [List.take_add_one, h, List.mem_append] at hx
  rcases hx with hx | hx
  · exact hn x hx
  · simp at hx; rw [hx]; exact hy
/-- The cells of a rule of a list. -/
theorem rule_cells {S : Nat → Prop} {w : World} {A : Option Addr} {l : List RuleD} {j : Nat} {y : RuleD} (h : At kRule S w A l) (hj : l[j]? = some y) : ∃ pb po f0 f1 fA fl fc s0 s1 sA sl sc tA tc rA rc, A = some ⟨pb, po, none⟩ ∧ S pb ∧ pb < w.heap.size ∧
    (w.cell? ⟨pb, po + j * 13, none⟩ = some (.string y.name) ∧ w.cell? ⟨pb, po + j * 13 + 1, none⟩ = some (.int .i64 y.weight) ∧ w.cell? ⟨pb, po + j * 13 + 2, none⟩ = some (.int .i64 y.kind) ∧ w.cell? ⟨pb, po + j * 13 + 3, none⟩ = some (.int .i64 f0) ∧ w.cell? ⟨pb, po + j * 13 + 4, none⟩ = some (.string f1) ∧ w.cell? ⟨pb, po + j * 13 + 5, none⟩ = some (.slice fA fl fc) ∧ w.cell? ⟨pb, po + j * 13 + 6, none⟩ = some (.int .i64 s0) ∧ w.cell? ⟨pb, po + j * 13 + 7, none⟩ = some (.string s1) ∧ w.cell? ⟨pb, po + j * 13 + 8, none⟩ = some (.slice sA sl sc) ∧ w.cell? ⟨pb, po + j * 13 + 9, none⟩ = some (.int .i64 y.n) ∧ w.cell? ⟨pb, po + j * 13 + 10, none⟩ = some (.slice tA y.times.length tc) ∧ w.cell? ⟨pb, po + j * 13 + 11, none⟩ = some (.slice rA y.rooms.length rc) ∧ w.cell? ⟨pb, po + j * 13 + 12, none⟩ = some (.int .i64 y.line)) ∧
    kSel.rep S w y.first [.int .i64 f0, .string f1, .slice fA fl fc] ∧ kSel.rep S w y.second [.int .i64 s0, .string s1, .slice sA sl sc] ∧ y.times.length ≤ tc ∧ At kTime S w tA y.times ∧ y.rooms.length ≤ rc ∧ At kStr S w rA y.rooms := by
  obtain ⟨pb, po, vs, hA, hS, hpl, hrep, hcl⟩ := h.get hj
  obtain ⟨f0, f1, fA, fl, fc, s0, s1, sA, sl, sc, tA, tc, rA, rc, rfl, h1, h2, h3, h4, h5, h6⟩ := hrep
  exact ⟨pb, po, f0, f1, fA, fl, fc, s0, s1, sA, sl, sc, tA, tc, rA, rc, hA, hS, hpl, ⟨hcl 0 _ rfl, hcl 1 _ rfl, hcl 2 _ rfl, hcl 3 _ rfl, hcl 4 _ rfl, hcl 5 _ rfl, hcl 6 _ rfl, hcl 7 _ rfl, hcl 8 _ rfl, hcl 9 _ rfl, hcl 10 _ rfl, hcl 11 _ rfl, hcl 12 _ rfl⟩, h1, h2, h3, h4, h5, h6⟩
set_option maxHeartbeats 2000000 in
theorem rIndex_walk (A : Option Addr) (l : List RuleD) (c : Nat) (t : ByteArray) (w : World) (hn : l.length ≤ 9223372036854775807) (hL : At kRule AnyB w A l) :
    Calls Tryz.prog 46 #[.slice A l.length c, .string t] w fun e w' => ∃ r : Int, e = .returned (.int .i64 r) ∧ decide (0 ≤ r) = hasN t l ∧ Below w.heap.size w w' := by
  obtain ⟨n, hnn⟩ : ∃ n, l.length = n := ⟨_, rfl⟩
  rw [hnn] at hn ⊢
  replace hnn := hide hnn
  go_enter Tryz.func46, Tryz.ntmps46
  go_wp2
  go_loopw [5] (fun i wr => ∃ j : Nat, j ≤ n ∧ i = .int .i64 j ∧ Hid (∀ x ∈ l.take j, x.name ≠ t) ∧ Below w.heap.size w wr) (fun i _ => n - (intOf i).toNat)
  case atStart => exact ⟨0, Nat.zero_le _, rfl, hide (by simp), Below.refl _ _⟩
  case round =>
    obtain ⟨j, hj, rfl, ho, hb⟩ := hrel
    by_cases hlt : j < n
    · obtain ⟨y, hy⟩ : ∃ y, l[j]? = some y := ⟨_, List.getElem?_eq_getElem (by rw [hnn.out]; exact hlt)⟩
      obtain ⟨pb, po, f0, f1, fA, fl, fc, s0, s1, sA, sl, sc, tA, tc, rA, rc, rfl, -, hpl, ⟨q0, -⟩, -⟩ := rule_cells (hL.later hb) hy
      obtain ⟨nm, hnm⟩ : ∃ nm, y.name = nm := ⟨_, rfl⟩
      rw [hnm] at q0
      have hj0 : (0 : Int) ≤ (j : Int) := by omega
      have hj1 : (j : Int) < (n : Int) := by omega
      by_cases hzt : nm.toList = t.toList
      · have hbe : (nm.toList == t.toList) = true := by rw [hzt]; simp
        have hmem : Hid (hasN t l = true) := hide (hasN_of hy (hnm.trans (ba_toList hzt)))
        clear hzt hy hnm
        go_wp2
        go_ret
        exact ⟨j, rfl, by rw [hmem.out]; simp, hb⟩
      · have hbe : (nm.toList == t.toList) = false := by simp [hzt]
        have hnm2 : Hid (∀ x ∈ l.take (j + 1), x.name ≠ t) := hide (take_no hy ho.out (fun e => hzt (by rw [← hnm, e])))
        clear hzt hy hnm
        go_wp2
        go_roundw
        case rel => exact ⟨j + 1, by omega, by go_num, hnm2, hb⟩
        case measure => simp [intOf]; omega
    · obtain rfl : j = n := by omega
      have hno : Hid (hasN t l = false) := hide (by
        have h := ho.out
        rw [List.take_of_length_le (by rw [hnn.out]; exact Nat.le_refl _)] at h
        exact hasN_no h)
      go_wp2
      go_ret
      exact ⟨-1, rfl, by rw [hno.out]; rfl, hb⟩
section
variable (x0 : ByteArray) (x1 x2 x3 : Int) (x4 : ByteArray) (x5 : Value) (x6 : Int) (x7 : ByteArray) (x8 : Value) (x9 : Int) (x10 x11 : Value) (x12 : Int)
set_option maxHeartbeats 1000000 in
theorem parse1_walk (t : ByteArray) (x : Nat) (w : World) (hc : w.cell? ⟨x, 0, none⟩ = some (.string t)) :
    Calls Tryz.prog 55 #[.agg #[.string x0, .int .i64 x1, .int .i64 x2, .int .i64 x3, .string x4, x5, .int .i64 x6, .string x7, x8, .int .i64 x9, x10, x11, .int .i64 x12], .pointer (some ⟨x, 0, none⟩)] w fun e w' => e = .returned (.bool (x0.toList == t.toList)) ∧ Below w.heap.size w w' := by
  have hlt := World.block_lt_of_cell? _ _ hc
  go_enter Tryz.func55, Tryz.ntmps55
  go_wp2
  go_ret
  exact ⟨rfl, (by repeat (first | exact Below.refl _ _ | refine ext_alloc ?_ _ | refine ext_drewN ?_ _ | refine ext_drew ?_ | refine ext_trans ?_ (by assumption)))⟩
end
def IdxRu (l : List RuleD) (t : ByteArray) (w : World) (e : Ending) (w' : World) : Prop := ∃ r : Int, e = .returned (.int .i64 r) ∧ decide (0 ≤ r) = hasN t l ∧ Below w.heap.size w w'
set_option maxHeartbeats 2000000 in
theorem idxRu_walk (A : Option Addr) (l : List RuleD) (c : Nat) (t : ByteArray) (x : Nat) (w : World) (hn : l.length ≤ 9223372036854775807) (hL : At kRule AnyB w A l) (hc : w.cell? ⟨x, 0, none⟩ = some (.string t)) :
    Calls Tryz.prog 76 #[.slice A l.length c, .func (.func 55) #[] #[.pointer (some ⟨x, 0, none⟩)]] w fun e w' => IdxRu l t w e w' := by
  have eg : ∀ args w, (callFunc 55 args).run Tryz.prog w = .ok (.enter 55 args) w := enters_of Tryz.func55 (by kernel_rfl) rfl
  obtain ⟨n, hnn⟩ : ∃ n, l.length = n := ⟨_, rfl⟩
  rw [hnn] at hn ⊢
  replace hnn := hide hnn
  go_enter Tryz.func76, Tryz.ntmps76
  go_wp2
  go_loopw [5, 8] (fun _ i wr => ∃ j : Nat, j ≤ n ∧ i = .int .i64 j ∧ Hid (∀ x ∈ l.take j, x.name ≠ t) ∧ Below w.heap.size w wr) (fun _ i _ => n - (intOf i).toNat)
  case atStart => exact ⟨0, Nat.zero_le _, rfl, hide (by simp), Below.refl _ _⟩
  case round =>
    obtain ⟨j, hj, rfl, ho, hb⟩ := hrel
    by_cases hlt : j < n
    · obtain ⟨y, hy⟩ : ∃ y, l[j]? = some y := ⟨_, List.getElem?_eq_getElem (by rw [hnn.out]; exact hlt)⟩
      obtain ⟨pb, po, f0, f1, fA, fl, fc, s0, s1, sA, sl, sc, tA, tc, rA, rc, rfl, -, hpl, ⟨q0, q1, q2, q3, q4, q5, q6, q7, q8, q9, q10, q11, q12⟩, -⟩ := rule_cells (hL.later hb) hy
      obtain ⟨nm, hnm⟩ : ∃ nm, y.name = nm := ⟨_, rfl⟩
      rw [hnm] at q0
      have hcall := parse1_walk nm y.weight y.kind f0 f1 (.slice fA fl fc) s0 s1 (.slice sA sl sc) y.n (.slice tA y.times.length tc) (.slice rA y.rooms.length rc) y.line t x wr (cell_later hb hc)
      obtain ⟨nt, hnt⟩ : ∃ nt, y.times.length = nt := ⟨_, rfl⟩
      obtain ⟨nr, hnr⟩ : ∃ nr, y.rooms.length = nr := ⟨_, rfl⟩
      obtain ⟨u1, hu1⟩ : ∃ u1, y.weight = u1 := ⟨_, rfl⟩
      obtain ⟨u2, hu2⟩ : ∃ u2, y.kind = u2 := ⟨_, rfl⟩
      obtain ⟨u3, hu3⟩ : ∃ u3, y.n = u3 := ⟨_, rfl⟩
      obtain ⟨u4, hu4⟩ : ∃ u4, y.line = u4 := ⟨_, rfl⟩
      rw [hu1] at q1 hcall
      rw [hu2] at q2 hcall
      rw [hu3] at q9 hcall
      rw [hu4] at q12 hcall
      rw [hnt] at q10 hcall
      rw [hnr] at q11 hcall
      have hj0 : (0 : Int) ≤ (j : Int) := by omega
      have hj1 : (j : Int) < (n : Int) := by omega
      clear hnt hnr hc hu1 hu2 hu3 hu4
      by_cases hzt : nm.toList = t.toList
      · have hbe : (nm.toList == t.toList) = true := by rw [hzt]; simp
        rw [hbe] at hcall
        have hmem : Hid (hasN t l = true) := hide (hasN_of hy (hnm.trans (ba_toList hzt)))
        clear hzt hbe hy hnm
        go_wp2_with (go_at_fn 55; refine hcall.mono ?_; rintro e w' ⟨rfl, hb'⟩)
        go_ret
        exact ⟨j, rfl, by rw [hmem.out]; simp, ext_trans hb hb'⟩
      · have hbe : (nm.toList == t.toList) = false := by simp [hzt]
        rw [hbe] at hcall
        have hnm2 : Hid (∀ x ∈ l.take (j + 1), x.name ≠ t) := hide (take_no hy ho.out (fun e => hzt (by rw [← hnm, e])))
        clear hzt hbe hy hnm
        go_wp2_with (go_at_fn 55; refine hcall.mono ?_; rintro e w' ⟨rfl, hb'⟩)
        go_roundw
        case rel => exact ⟨j + 1, by omega, by go_num, hnm2, ext_trans hb hb'⟩
        case measure => simp [intOf]; omega
    · obtain rfl : j = n := by omega
      have hno : Hid (hasN t l = false) := hide (by
        have h := ho.out
        rw [List.take_of_length_le (by rw [hnn.out]; exact Nat.le_refl _)] at h
        exact hasN_no h)
      go_wp2
      go_ret
      exact ⟨-1, rfl, by rw [hno.out]; rfl, hb⟩
set_option maxHeartbeats 2000000 in
theorem ruleHas_walk (A : Option Addr) (l : List RuleD) (c : Nat) (t : ByteArray) (x : Nat) (w : World) (hn : l.length ≤ 9223372036854775807) (hL : At kRule AnyB w A l) (hc : w.cell? ⟨x, 0, none⟩ = some (.string t)) :
    Calls Tryz.prog 41 #[.slice A l.length c, .func (.func 55) #[] #[.pointer (some ⟨x, 0, none⟩)]] w fun e w' => e = .returned (.bool (hasN t l)) ∧ Below w.heap.size w w' := by
  have hcall := idxRu_walk A l c t x w hn hL hc
  obtain ⟨n, hnn⟩ : ∃ n, l.length = n := ⟨_, rfl⟩
  rw [hnn] at hcall ⊢
  clear hL hc hnn
  go_enter Tryz.func41, Tryz.ntmps41
  go_wp2_with fail
  refine hcall.mono ?_
  rintro e w' ⟨r, rfl, hr, hb⟩
  replace hr := hide hr
  go_wp2
  go_ret
  exact ⟨ret_bool hr.out, hb⟩
end Go.Proofs.YtdnnahdafhddlaaGreatDoor

namespace Go.Proofs.YtdnnahdafhddlaaGreatDoor
open Go.RowKit
set_option maxRecDepth 100000

theorem rep_same {S S' : Nat → Prop} {w w' : World} {s : Sel} {k k' : Int} {n n' : ByteArray} {A A' : Option Addr} {l l' c c' : Nat} (h : kSel.rep S w s [.int .i64 k, .string n, .slice A l c]) (h' : kSel.rep S' w' s [.int .i64 k', .string n', .slice A' l' c']) : k' = k ∧ n' = n := by
  obtain ⟨q, m, ks⟩ := s
  obtain ⟨B, d, he, -, -⟩ := rep_sel.1 h
  obtain ⟨B', d', he', -, -⟩ := rep_sel.1 h'
  simp only [List.cons.injEq, Value.int.injEq, Value.string.injEq, and_true, true_and] at he he'
  exact ⟨he'.1.trans he.1.symm, he'.2.1.trans he.2.1.symm⟩
set_option maxHeartbeats 4000000 in
theorem rsame_walk : ∀ (s : Sel), selSize s ≤ 9223372036854775807 → ∀ (k : Int) (n : ByteArray) (A A' : Option Addr) (l l' c c' : Nat) (w : World), kSel.rep AnyB w s [.int .i64 k, .string n, .slice A l c] → kSel.rep AnyB w s [.int .i64 k, .string n, .slice A' l' c'] →
    Calls Tryz.prog 104 #[.agg #[.int .i64 k, .string n, .slice A l c], .agg #[.int .i64 k, .string n, .slice A' l' c']] w fun e w' => e = .returned (.bool true) ∧ Below w.heap.size w w' := by
  refine Sel.ind fun k n ks ih hs k' n' A A' l l' c c' w hr hr' => ?_
  obtain ⟨ks1, he, rfl, hcap, hA⟩ := sel_boxed hr
  obtain ⟨ks2, he', rfl, hcap', hA'⟩ := sel_boxed hr'
  injection he with he1 he2 he3
  injection he' with he1' he2' he3'
  subst he1
  subst he2
  subst he3
  subst he3'
  rw [selSize_mk] at hs
  have hll := len_le_sum ks
  have hkm : ∀ x, x ∈ ks → selSize x ≤ 9223372036854775807 := fun x hx => by have := sel_le_sum hx; omega
  obtain ⟨N, hN⟩ : ∃ N, ks.length = N := ⟨_, rfl⟩
  rw [hN] at hcap hcap' hll ⊢
  obtain ⟨W, hW⟩ : ∃ W, (w.alloc (.cells #[.int .i64 k, .string n, .slice A N c] 40)).alloc (.cells #[.int .i64 k, .string n, .slice A' N c'] 40) = W := ⟨_, rfl⟩
  obtain ⟨r, hrr⟩ : ∃ r, w.heap.size = r := ⟨_, rfl⟩
  have hb1 : Below w.heap.size w W := by rw [← hW]; exact (by repeat (first | exact Below.refl _ _ | refine ext_alloc ?_ _ | refine ext_drewN ?_ _ | refine ext_drew ?_ | refine ext_trans ?_ (by assumption)))
  have hr1 : W.heap[r]? = some (.cells #[.int .i64 k, .string n, .slice A N c] 40 (0, 0)) := by rw [← hW, ← hrr]; exact (Below.heap_alloc _ _ _ (by simp only [World.size_alloc]; omega)).trans (heap_alloc_new _ _)
  have hr2 : W.heap[r + 1]? = some (.cells #[.int .i64 k, .string n, .slice A' N c'] 40 (0, 0)) := by
    rw [← hW, ← hrr]
    have := heap_alloc_new (w.alloc (.cells #[.int .i64 k, .string n, .slice A N c] 40)) (.cells #[.int .i64 k, .string n, .slice A' N c'] 40)
    rw [World.size_alloc] at this
    exact this
  have hA1 := hA.later hb1
  have hA2 := hA'.later hb1
  have hNl : N ≤ 9223372036854775807 := by omega
  have ih := hide (fun x hx => ih x hx (hkm x hx))
  replace hN := hide hN
  clear hA hA' hr hr' hs hkm
  obtain ⟨y0, y1, y2, -⟩ := sel_cells hr1
  obtain ⟨z0, z1, z2, -⟩ := sel_cells hr2
  have l1 := blk_lt hr1
  have l2 := blk_lt hr2
  go_enter Tryz.func104, Tryz.ntmps104
  go_wp2
  clear y0 y1 y2 z0 z1 z2 l1 l2
  replace hW := hide hW
  replace hrr := hide hrr
  go_loopw [5] (fun i wr => ∃ j : Nat, j ≤ N ∧ i = .int .i64 j ∧ Below W.heap.size W wr) (fun i _ => N - (intOf i).toNat)
  case atStart => exact ⟨0, Nat.zero_le _, rfl, Below.refl _ _⟩
  case round =>
    obtain ⟨j, hj, rfl, hbr⟩ := hrel
    have hrw1 : wr.heap[r]? = _ := (hbr.block r (blk_lt hr1)).trans hr1
    have hrw2 : wr.heap[r + 1]? = _ := (hbr.block (r + 1) (blk_lt hr2)).trans hr2
    obtain ⟨y0, y1, y2, -⟩ := sel_cells hrw1
    obtain ⟨z0, z1, z2, -⟩ := sel_cells hrw2
    have hrl1 := blk_lt hrw1
    have hrl2 := blk_lt hrw2
    by_cases hjN : j < N
    · obtain ⟨z, hz⟩ : ∃ z, ks[j]? = some z := ⟨_, List.getElem?_eq_getElem (by rw [hN.out]; exact hjN)⟩
      have hzm := List.mem_of_getElem? hz
      obtain ⟨pb, po, vs, rfl, -, hpl, hrep, hcl⟩ := (hA1.later hbr).get hz
      obtain ⟨pb', po', vs', rfl, -, hpl', hrep', hcl'⟩ := (hA2.later hbr).get hz
      obtain ⟨k9, n9, A9, m9, c9, rfl⟩ := SelRep.form hrep
      obtain ⟨k8, n8, A8, m8, c8, rfl⟩ := SelRep.form hrep'
      obtain ⟨e1, e2⟩ := rep_same hrep' hrep
      subst e1
      subst e2
      have q0 : wr.cell? ⟨pb, po + j * 3, none⟩ = some (.int .i64 k9) := hcl 0 _ rfl
      have q1 : wr.cell? ⟨pb, po + j * 3 + 1, none⟩ = some (.string n9) := hcl 1 _ rfl
      have q2 : wr.cell? ⟨pb, po + j * 3 + 2, none⟩ = some (.slice A9 m9 c9) := hcl 2 _ rfl
      have p0 : wr.cell? ⟨pb', po' + j * 3, none⟩ = some (.int .i64 k9) := hcl' 0 _ rfl
      have p1 : wr.cell? ⟨pb', po' + j * 3 + 1, none⟩ = some (.string n9) := hcl' 1 _ rfl
      have p2 : wr.cell? ⟨pb', po' + j * 3 + 2, none⟩ = some (.slice A8 m8 c8) := hcl' 2 _ rfl
      have k0 : (0 : Int) ≤ (j : Int) := by omega
      have k1 : (j : Int) < (N : Int) := by omega
      have hc := ih.out z hzm k9 n9 A9 A8 m9 m8 c9 c8 wr hrep hrep'
      have hcall0 := hide (fun (U : World) (hU : Below wr.heap.size wr U) => ih.out z hzm k9 n9 A9 A8 m9 m8 c9 c8 U (kSel.later hrep hU) (kSel.later hrep' hU))
      have hSL : Cn8 r 2 (.slice (some ⟨pb, po, none⟩) N c) (r + 1) 2 (.slice (some ⟨pb', po', none⟩) N c') pb ((po + j * 3)) (.int .i64 k9) pb ((po + j * 3 + 1)) (.string n9) pb ((po + j * 3 + 2)) (.slice A9 m9 c9) pb' ((po' + j * 3)) (.int .i64 k9) pb' ((po' + j * 3 + 1)) (.string n9) pb' ((po' + j * 3 + 2)) (.slice A8 m8 c8) wr := ⟨y2, z2, q0, q1, q2, p0, p1, p2⟩
      have hcall := hide (fun (U : World) (hU : Below wr.heap.size wr U) => (hcall0.out U hU).mono fun e w' ⟨he, hb⟩ => (⟨he, ext_trans hU hb, hSL.later (ext_trans hU hb)⟩ : e = Ending.returned (.bool true) ∧ Below wr.heap.size wr w' ∧ Cn8 r 2 (.slice (some ⟨pb, po, none⟩) N c) (r + 1) 2 (.slice (some ⟨pb', po', none⟩) N c') pb ((po + j * 3)) (.int .i64 k9) pb ((po + j * 3 + 1)) (.string n9) pb ((po + j * 3 + 2)) (.slice A9 m9 c9) pb' ((po' + j * 3)) (.int .i64 k9) pb' ((po' + j * 3 + 1)) (.string n9) pb' ((po' + j * 3 + 2)) (.slice A8 m8 c8) w'))
      have hSd := hSL.drew
      have hrefl := Below.refl wr.heap.size wr
      clear hcl hcl' hrep hrep' hz hrw1 hrw2 hcall0 hc y0 y1 z0 z1
      go_wp2_with fail
      go_region_held3 (fun W' => W'.cell? ⟨r, 2, none⟩ = some (.slice (some ⟨pb, po, none⟩) N c) ∧ W'.cell? ⟨r + 1, 2, none⟩ = some (.slice (some ⟨pb', po', none⟩) N c') ∧ W'.cell? ⟨pb, (po + j * 3), none⟩ = some (.int .i64 k9) ∧ W'.cell? ⟨pb, (po + j * 3 + 1), none⟩ = some (.string n9) ∧ W'.cell? ⟨pb, (po + j * 3 + 2), none⟩ = some (.slice A9 m9 c9) ∧ W'.cell? ⟨pb', (po' + j * 3), none⟩ = some (.int .i64 k9) ∧ W'.cell? ⟨pb', (po' + j * 3 + 1), none⟩ = some (.string n9) ∧ W'.cell? ⟨pb', (po' + j * 3 + 2), none⟩ = some (.slice A8 m8 c8)) (first | ((repeat (first | (with_reducible assumption) | (with_reducible refine Cn8.alloc ?_ _) | (with_reducible refine Cn8.drew ?_) | (with_reducible refine Cn8.set ?_ ?_ ?_ ?_ ?_ ?_ ?_ ?_ ?_ _) | omega)); done)) (first | (go_at_call 104; refine (hcall.out _ (by repeat (first | (with_reducible assumption) | (with_reducible refine ext_alloc ?_ _) | (with_reducible refine ext_drew ?_)))).mono ?_; rintro e w2 ⟨rfl, hb2, hc2⟩))
      all_goals
        have hbn := ext_trans hbr hb2
        go_wp2
        go_roundw
        case rel => exact ⟨j + 1, by omega, by go_num, by first | exact ext_drew hbn | exact hbn⟩
        case measure => simp [intOf]; omega
    · obtain rfl : j = N := by omega
      clear hrw1 hrw2
      go_wp2
      go_ret
      exact ⟨rfl, ext_trans hb1 hbr⟩
theorem at_low {α : Type} {K : Kind α} {S : Nat → Prop} {w : World} {A : Option Addr} {l : List α} (h : At K S w A l) : At K (· < w.heap.size) w A l := h.kept fun _ _ hlt => ⟨hlt, hlt, rfl⟩
set_option maxHeartbeats 4000000 in
theorem rsrule_walk (u : RuleD) (hu : RuleOk u) (f0 s0 ln l2 : Int) (f1 s1 : ByteArray) (fA sA tA rA fA' sA' tA' rA' : Option Addr) (fl fc sl sc tc rc fl' fc' sl' sc' tc' rc' : Nat) (w : World)
    (h1 : kSel.rep AnyB w u.first [.int .i64 f0, .string f1, .slice fA fl fc]) (h2 : kSel.rep AnyB w u.second [.int .i64 s0, .string s1, .slice sA sl sc]) (h3 : At kTime AnyB w tA u.times) (h4 : At kStr AnyB w rA u.rooms)
    (g1 : kSel.rep AnyB w u.first [.int .i64 f0, .string f1, .slice fA' fl' fc']) (g2 : kSel.rep AnyB w u.second [.int .i64 s0, .string s1, .slice sA' sl' sc']) (g3 : At kTime AnyB w tA' u.times) (g4 : At kStr AnyB w rA' u.rooms) :
    Calls Tryz.prog 58 #[.agg #[.string u.name, .int .i64 u.weight, .int .i64 u.kind, .int .i64 f0, .string f1, .slice fA fl fc, .int .i64 s0, .string s1, .slice sA sl sc, .int .i64 u.n, .slice tA u.times.length tc, .slice rA u.rooms.length rc, .int .i64 ln], .agg #[.string u.name, .int .i64 u.weight, .int .i64 u.kind, .int .i64 f0, .string f1, .slice fA' fl' fc', .int .i64 s0, .string s1, .slice sA' sl' sc', .int .i64 u.n, .slice tA' u.times.length tc', .slice rA' u.rooms.length rc', .int .i64 l2]] w fun e w' => e = .returned (.bool true) ∧ Below w.heap.size w w' := by
  obtain ⟨o1, o2, o3, o4⟩ := hu
  obtain ⟨nm, hnm⟩ : ∃ nm, u.name = nm := ⟨_, rfl⟩
  obtain ⟨wt, hwt⟩ : ∃ wt, u.weight = wt := ⟨_, rfl⟩
  obtain ⟨kd, hkd⟩ : ∃ kd, u.kind = kd := ⟨_, rfl⟩
  obtain ⟨nn, hnn⟩ : ∃ nn, u.n = nn := ⟨_, rfl⟩
  obtain ⟨W, hW⟩ : ∃ W, (w.alloc (.cells #[.string u.name, .int .i64 u.weight, .int .i64 u.kind, .int .i64 f0, .string f1, .slice fA fl fc, .int .i64 s0, .string s1, .slice sA sl sc, .int .i64 u.n, .slice tA u.times.length tc, .slice rA u.rooms.length rc, .int .i64 ln] 43)).alloc (.cells #[.string u.name, .int .i64 u.weight, .int .i64 u.kind, .int .i64 f0, .string f1, .slice fA' fl' fc', .int .i64 s0, .string s1, .slice sA' sl' sc', .int .i64 u.n, .slice tA' u.times.length tc', .slice rA' u.rooms.length rc', .int .i64 l2] 43) = W := ⟨_, rfl⟩
  obtain ⟨r, hrr⟩ : ∃ r, w.heap.size = r := ⟨_, rfl⟩
  have hb1 : Below w.heap.size w W := by rw [← hW]; exact (by repeat (first | exact Below.refl _ _ | refine ext_alloc ?_ _ | refine ext_drewN ?_ _ | refine ext_drew ?_ | refine ext_trans ?_ (by assumption)))
  have ha : RowV 43 W r [.string u.name, .int .i64 u.weight, .int .i64 u.kind, .int .i64 f0, .string f1, .slice fA fl fc, .int .i64 s0, .string s1, .slice sA sl sc, .int .i64 u.n, .slice tA u.times.length tc, .slice rA u.rooms.length rc, .int .i64 ln] := ⟨_, by rw [← hW, ← hrr]; exact (Below.heap_alloc _ _ _ (by simp only [World.size_alloc]; omega)).trans (heap_alloc_new _ _), rfl⟩
  have hc : RowV 43 W (r + 1) [.string u.name, .int .i64 u.weight, .int .i64 u.kind, .int .i64 f0, .string f1, .slice fA' fl' fc', .int .i64 s0, .string s1, .slice sA' sl' sc', .int .i64 u.n, .slice tA' u.times.length tc', .slice rA' u.rooms.length rc', .int .i64 l2] := ⟨_, by
    rw [← hW, ← hrr]
    have := heap_alloc_new (w.alloc (.cells #[.string u.name, .int .i64 u.weight, .int .i64 u.kind, .int .i64 f0, .string f1, .slice fA fl fc, .int .i64 s0, .string s1, .slice sA sl sc, .int .i64 u.n, .slice tA u.times.length tc, .slice rA u.rooms.length rc, .int .i64 ln] 43)) (.cells #[.string u.name, .int .i64 u.weight, .int .i64 u.kind, .int .i64 f0, .string f1, .slice fA' fl' fc', .int .i64 s0, .string s1, .slice sA' sl' sc', .int .i64 u.n, .slice tA' u.times.length tc', .slice rA' u.rooms.length rc', .int .i64 l2] 43)
    rw [World.size_alloc] at this
    exact this, rfl⟩
  have c1 := hide (fun (U : World) (hU : Below W.heap.size W U) => rsame_walk u.first o1 f0 f1 fA fA' fl fl' fc fc' U (kSel.later (kSel.later h1 hb1) hU) (kSel.later (kSel.later g1 hb1) hU))
  have c2 := hide (fun (U : World) (hU : Below W.heap.size W U) => rsame_walk u.second o2 s0 s1 sA sA' sl sl' sc sc' U (kSel.later (kSel.later h2 hb1) hU) (kSel.later (kSel.later g2 hb1) hU))
  have c3 := hide (fun (U : World) (hU : Below W.heap.size W U) => r7Same_walk tA tA' u.times.length tc tc' _ U o3 (cells_of_at (at_low ((h3.later hb1).later hU))) (cells_of_at (at_low ((g3.later hb1).later hU))))
  have c4 := hide (fun (U : World) (hU : Below W.heap.size W U) => r2SameS_walk rA rA' u.rooms rc rc' U o4 ((h4.later hb1).later hU) ((g4.later hb1).later hU))
  obtain ⟨nt, hnt⟩ : ∃ nt, u.times.length = nt := ⟨_, rfl⟩
  obtain ⟨nr, hnr⟩ : ∃ nr, u.rooms.length = nr := ⟨_, rfl⟩
  rw [hnm, hwt, hkd, hnn, hnt, hnr] at ha hc hW
  rw [hnm, hwt, hkd, hnn, hnt, hnr]
  rw [hnt] at c3
  rw [hnr] at c4
  have hah := hide ha
  have hch := hide hc
  have a0 := ha.get (j := 0) rfl
  have a1 := ha.get (j := 1) rfl
  have a2 := ha.get (j := 2) rfl
  have a3 := ha.get (j := 3) rfl
  have a4 := ha.get (j := 4) rfl
  have a5 := ha.get (j := 5) rfl
  have a9 := ha.get (j := 9) rfl
  have d0 := hc.get (j := 0) rfl
  have d1 := hc.get (j := 1) rfl
  have d2 := hc.get (j := 2) rfl
  have d3 := hc.get (j := 3) rfl
  have d4 := hc.get (j := 4) rfl
  have d5 := hc.get (j := 5) rfl
  have d9 := hc.get (j := 9) rfl
  have la := ha.lt
  have lc := hc.lt
  have hq1 := c1.out W (Below.refl _ _)
  clear h1 h2 h3 h4 g1 g2 g3 g4 o1 o2 o3 o4 hnm hwt hkd hnn hnt hnr ha hc
  replace hb1 := hide hb1
  go_enter Tryz.func58, Tryz.ntmps58
  go_wp2_with fail
  replace hW := hide hW
  replace hrr := hide hrr
  refine hq1.mono ?_
  rintro e w1 ⟨rfl, k1⟩
  clear a0 a1 a2 a3 a4 a5 a9 d0 d1 d2 d3 d4 d5 d9 la lc hq1
  have ha := hah.out.later k1
  have hc := hch.out.later k1
  have a6 := ha.get (j := 6) rfl
  have a7 := ha.get (j := 7) rfl
  have a8 := ha.get (j := 8) rfl
  have d6 := hc.get (j := 6) rfl
  have d7 := hc.get (j := 7) rfl
  have d8 := hc.get (j := 8) rfl
  have la := ha.lt
  have lc := hc.lt
  have hq2 := c2.out w1 k1
  clear ha hc
  go_wp2_with fail
  refine hq2.mono ?_
  rintro e w2 ⟨rfl, k2⟩
  clear a6 a7 a8 d6 d7 d8 la lc hq2
  replace k2 := ext_trans k1 k2
  have ha := hah.out.later k2
  have hc := hch.out.later k2
  have a10 := ha.get (j := 10) rfl
  have d10 := hc.get (j := 10) rfl
  have la := ha.lt
  have lc := hc.lt
  have hq3 := c3.out w2 k2
  clear ha hc k1
  go_wp2_with fail
  refine hq3.mono ?_
  rintro e w3 ⟨rfl, k3⟩
  clear a10 d10 la lc hq3
  replace k3 := ext_trans k2 k3
  have ha := hah.out.later k3
  have hc := hch.out.later k3
  have a11 := ha.get (j := 11) rfl
  have d11 := hc.get (j := 11) rfl
  have la := ha.lt
  have lc := hc.lt
  have hq4 := c4.out w3 k3
  clear ha hc k2
  go_wp2_with fail
  refine hq4.mono ?_
  rintro e w4 ⟨rfl, k4⟩
  clear a11 d11 la lc hq4
  replace k4 := ext_trans k3 k4
  go_wp2
  go_ret
  exact ⟨rfl, ext_trans hb1.out k4⟩
abbrev Cn26 (b1 o1 : Nat) (v1 : Value) (b2 o2 : Nat) (v2 : Value) (b3 o3 : Nat) (v3 : Value) (b4 o4 : Nat) (v4 : Value) (b5 o5 : Nat) (v5 : Value) (b6 o6 : Nat) (v6 : Value) (b7 o7 : Nat) (v7 : Value) (b8 o8 : Nat) (v8 : Value) (b9 o9 : Nat) (v9 : Value) (b10 o10 : Nat) (v10 : Value) (b11 o11 : Nat) (v11 : Value) (b12 o12 : Nat) (v12 : Value) (b13 o13 : Nat) (v13 : Value) (b14 o14 : Nat) (v14 : Value) (b15 o15 : Nat) (v15 : Value) (b16 o16 : Nat) (v16 : Value) (b17 o17 : Nat) (v17 : Value) (b18 o18 : Nat) (v18 : Value) (b19 o19 : Nat) (v19 : Value) (b20 o20 : Nat) (v20 : Value) (b21 o21 : Nat) (v21 : Value) (b22 o22 : Nat) (v22 : Value) (b23 o23 : Nat) (v23 : Value) (b24 o24 : Nat) (v24 : Value) (b25 o25 : Nat) (v25 : Value) (b26 o26 : Nat) (v26 : Value) (W : World) : Prop := W.cell? ⟨b1, o1, none⟩ = some v1 ∧ W.cell? ⟨b2, o2, none⟩ = some v2 ∧ W.cell? ⟨b3, o3, none⟩ = some v3 ∧ W.cell? ⟨b4, o4, none⟩ = some v4 ∧ W.cell? ⟨b5, o5, none⟩ = some v5 ∧ W.cell? ⟨b6, o6, none⟩ = some v6 ∧ W.cell? ⟨b7, o7, none⟩ = some v7 ∧ W.cell? ⟨b8, o8, none⟩ = some v8 ∧ W.cell? ⟨b9, o9, none⟩ = some v9 ∧ W.cell? ⟨b10, o10, none⟩ = some v10 ∧ W.cell? ⟨b11, o11, none⟩ = some v11 ∧ W.cell? ⟨b12, o12, none⟩ = some v12 ∧ W.cell? ⟨b13, o13, none⟩ = some v13 ∧ W.cell? ⟨b14, o14, none⟩ = some v14 ∧ W.cell? ⟨b15, o15, none⟩ = some v15 ∧ W.cell? ⟨b16, o16, none⟩ = some v16 ∧ W.cell? ⟨b17, o17, none⟩ = some v17 ∧ W.cell? ⟨b18, o18, none⟩ = some v18 ∧ W.cell? ⟨b19, o19, none⟩ = some v19 ∧ W.cell? ⟨b20, o20, none⟩ = some v20 ∧ W.cell? ⟨b21, o21, none⟩ = some v21 ∧ W.cell? ⟨b22, o22, none⟩ = some v22 ∧ W.cell? ⟨b23, o23, none⟩ = some v23 ∧ W.cell? ⟨b24, o24, none⟩ = some v24 ∧ W.cell? ⟨b25, o25, none⟩ = some v25 ∧ W.cell? ⟨b26, o26, none⟩ = some v26
section
variable {b1 o1 b2 o2 b3 o3 b4 o4 b5 o5 b6 o6 b7 o7 b8 o8 b9 o9 b10 o10 b11 o11 b12 o12 b13 o13 b14 o14 b15 o15 b16 o16 b17 o17 b18 o18 b19 o19 b20 o20 b21 o21 b22 o22 b23 o23 b24 o24 b25 o25 b26 o26 : Nat} {v1 v2 v3 v4 v5 v6 v7 v8 v9 v10 v11 v12 v13 v14 v15 v16 v17 v18 v19 v20 v21 v22 v23 v24 v25 v26 : Value} {W W' : World}
theorem Cn26.later (h : Cn26 b1 o1 v1 b2 o2 v2 b3 o3 v3 b4 o4 v4 b5 o5 v5 b6 o6 v6 b7 o7 v7 b8 o8 v8 b9 o9 v9 b10 o10 v10 b11 o11 v11 b12 o12 v12 b13 o13 v13 b14 o14 v14 b15 o15 v15 b16 o16 v16 b17 o17 v17 b18 o18 v18 b19 o19 v19 b20 o20 v20 b21 o21 v21 b22 o22 v22 b23 o23 v23 b24 o24 v24 b25 o25 v25 b26 o26 v26 W) (hb : Below W.heap.size W W') : Cn26 b1 o1 v1 b2 o2 v2 b3 o3 v3 b4 o4 v4 b5 o5 v5 b6 o6 v6 b7 o7 v7 b8 o8 v8 b9 o9 v9 b10 o10 v10 b11 o11 v11 b12 o12 v12 b13 o13 v13 b14 o14 v14 b15 o15 v15 b16 o16 v16 b17 o17 v17 b18 o18 v18 b19 o19 v19 b20 o20 v20 b21 o21 v21 b22 o22 v22 b23 o23 v23 b24 o24 v24 b25 o25 v25 b26 o26 v26 W' := ⟨cell_later hb h.1, cell_later hb h.2.1, cell_later hb h.2.2.1, cell_later hb h.2.2.2.1, cell_later hb h.2.2.2.2.1, cell_later hb h.2.2.2.2.2.1, cell_later hb h.2.2.2.2.2.2.1, cell_later hb h.2.2.2.2.2.2.2.1, cell_later hb h.2.2.2.2.2.2.2.2.1, cell_later hb h.2.2.2.2.2.2.2.2.2.1, cell_later hb h.2.2.2.2.2.2.2.2.2.2.1, cell_later hb h.2.2.2.2.2.2.2.2.2.2.2.1, cell_later hb h.2.2.2.2.2.2.2.2.2.2.2.2.1, cell_later hb h.2.2.2.2.2.2.2.2.2.2.2.2.2.1, cell_later hb h.2.2.2.2.2.2.2.2.2.2.2.2.2.2.1, cell_later hb h.2.2.2.2.2.2.2.2.2.2.2.2.2.2.2.1, cell_later hb h.2.2.2.2.2.2.2.2.2.2.2.2.2.2.2.2.1, cell_later hb h.2.2.2.2.2.2.2.2.2.2.2.2.2.2.2.2.2.1, cell_later hb h.2.2.2.2.2.2.2.2.2.2.2.2.2.2.2.2.2.2.1, cell_later hb h.2.2.2.2.2.2.2.2.2.2.2.2.2.2.2.2.2.2.2.1, cell_later hb h.2.2.2.2.2.2.2.2.2.2.2.2.2.2.2.2.2.2.2.2.1, cell_later hb h.2.2.2.2.2.2.2.2.2.2.2.2.2.2.2.2.2.2.2.2.2.1, cell_later hb h.2.2.2.2.2.2.2.2.2.2.2.2.2.2.2.2.2.2.2.2.2.2.1, cell_later hb h.2.2.2.2.2.2.2.2.2.2.2.2.2.2.2.2.2.2.2.2.2.2.2.1, cell_later hb h.2.2.2.2.2.2.2.2.2.2.2.2.2.2.2.2.2.2.2.2.2.2.2.2.1, cell_later hb h.2.2.2.2.2.2.2.2.2.2.2.2.2.2.2.2.2.2.2.2.2.2.2.2.2⟩
theorem Cn26.alloc (h : Cn26 b1 o1 v1 b2 o2 v2 b3 o3 v3 b4 o4 v4 b5 o5 v5 b6 o6 v6 b7 o7 v7 b8 o8 v8 b9 o9 v9 b10 o10 v10 b11 o11 v11 b12 o12 v12 b13 o13 v13 b14 o14 v14 b15 o15 v15 b16 o16 v16 b17 o17 v17 b18 o18 v18 b19 o19 v19 b20 o20 v20 b21 o21 v21 b22 o22 v22 b23 o23 v23 b24 o24 v24 b25 o25 v25 b26 o26 v26 W) (o : Obj) : Cn26 b1 o1 v1 b2 o2 v2 b3 o3 v3 b4 o4 v4 b5 o5 v5 b6 o6 v6 b7 o7 v7 b8 o8 v8 b9 o9 v9 b10 o10 v10 b11 o11 v11 b12 o12 v12 b13 o13 v13 b14 o14 v14 b15 o15 v15 b16 o16 v16 b17 o17 v17 b18 o18 v18 b19 o19 v19 b20 o20 v20 b21 o21 v21 b22 o22 v22 b23 o23 v23 b24 o24 v24 b25 o25 v25 b26 o26 v26 (W.alloc o) := ⟨cell_alloc_of h.1 o, cell_alloc_of h.2.1 o, cell_alloc_of h.2.2.1 o, cell_alloc_of h.2.2.2.1 o, cell_alloc_of h.2.2.2.2.1 o, cell_alloc_of h.2.2.2.2.2.1 o, cell_alloc_of h.2.2.2.2.2.2.1 o, cell_alloc_of h.2.2.2.2.2.2.2.1 o, cell_alloc_of h.2.2.2.2.2.2.2.2.1 o, cell_alloc_of h.2.2.2.2.2.2.2.2.2.1 o, cell_alloc_of h.2.2.2.2.2.2.2.2.2.2.1 o, cell_alloc_of h.2.2.2.2.2.2.2.2.2.2.2.1 o, cell_alloc_of h.2.2.2.2.2.2.2.2.2.2.2.2.1 o, cell_alloc_of h.2.2.2.2.2.2.2.2.2.2.2.2.2.1 o, cell_alloc_of h.2.2.2.2.2.2.2.2.2.2.2.2.2.2.1 o, cell_alloc_of h.2.2.2.2.2.2.2.2.2.2.2.2.2.2.2.1 o, cell_alloc_of h.2.2.2.2.2.2.2.2.2.2.2.2.2.2.2.2.1 o, cell_alloc_of h.2.2.2.2.2.2.2.2.2.2.2.2.2.2.2.2.2.1 o, cell_alloc_of h.2.2.2.2.2.2.2.2.2.2.2.2.2.2.2.2.2.2.1 o, cell_alloc_of h.2.2.2.2.2.2.2.2.2.2.2.2.2.2.2.2.2.2.2.1 o, cell_alloc_of h.2.2.2.2.2.2.2.2.2.2.2.2.2.2.2.2.2.2.2.2.1 o, cell_alloc_of h.2.2.2.2.2.2.2.2.2.2.2.2.2.2.2.2.2.2.2.2.2.1 o, cell_alloc_of h.2.2.2.2.2.2.2.2.2.2.2.2.2.2.2.2.2.2.2.2.2.2.1 o, cell_alloc_of h.2.2.2.2.2.2.2.2.2.2.2.2.2.2.2.2.2.2.2.2.2.2.2.1 o, cell_alloc_of h.2.2.2.2.2.2.2.2.2.2.2.2.2.2.2.2.2.2.2.2.2.2.2.2.1 o, cell_alloc_of h.2.2.2.2.2.2.2.2.2.2.2.2.2.2.2.2.2.2.2.2.2.2.2.2.2 o⟩
theorem Cn26.drew (h : Cn26 b1 o1 v1 b2 o2 v2 b3 o3 v3 b4 o4 v4 b5 o5 v5 b6 o6 v6 b7 o7 v7 b8 o8 v8 b9 o9 v9 b10 o10 v10 b11 o11 v11 b12 o12 v12 b13 o13 v13 b14 o14 v14 b15 o15 v15 b16 o16 v16 b17 o17 v17 b18 o18 v18 b19 o19 v19 b20 o20 v20 b21 o21 v21 b22 o22 v22 b23 o23 v23 b24 o24 v24 b25 o25 v25 b26 o26 v26 W) : Cn26 b1 o1 v1 b2 o2 v2 b3 o3 v3 b4 o4 v4 b5 o5 v5 b6 o6 v6 b7 o7 v7 b8 o8 v8 b9 o9 v9 b10 o10 v10 b11 o11 v11 b12 o12 v12 b13 o13 v13 b14 o14 v14 b15 o15 v15 b16 o16 v16 b17 o17 v17 b18 o18 v18 b19 o19 v19 b20 o20 v20 b21 o21 v21 b22 o22 v22 b23 o23 v23 b24 o24 v24 b25 o25 v25 b26 o26 v26 W.drew := h
end
set_option maxHeartbeats 16000000 in
theorem r14Same_walk (A A' : Option Addr) (l : List RuleD) (c c' : Nat) (w : World) (hn : l.length ≤ 9223372036854775807) (hm : ∀ u ∈ l, RuleOk u) (h1 : At kRule AnyB w A l) (h2 : At kRule AnyB w A' l) :
    Calls Tryz.prog 23 #[.slice A l.length c, .slice A' l.length c'] w fun e w' => e = .returned (.bool true) ∧ Below w.heap.size w w' := by
  obtain ⟨n, hnn⟩ : ∃ n, l.length = n := ⟨_, rfl⟩
  rw [hnn] at hn ⊢
  replace hnn := hide hnn
  replace hm := hide hm
  go_enter Tryz.func23, Tryz.ntmps23
  go_wp2
  go_loopw [5] (fun i wr => ∃ j : Nat, j ≤ n ∧ i = .int .i64 j ∧ Below w.heap.size w wr) (fun i _ => n - (intOf i).toNat)
  case atStart => exact ⟨0, Nat.zero_le _, rfl, Below.refl _ _⟩
  case round =>
    obtain ⟨j, hj, rfl, hb⟩ := hrel
    by_cases hlt : j < n
    · obtain ⟨u, hx⟩ : ∃ x, l[j]? = some x := ⟨_, List.getElem?_eq_getElem (by rw [hnn.out]; exact hlt)⟩
      have hu := hm.out _ (List.mem_of_getElem? hx)
      obtain ⟨b1, o1, f0, f1, fA, fl, fc, s0, s1, sA, sl, sc, tA, tc, rA, rc, rfl, -, hb1, ⟨a0, a1, a2, a3, a4, a5, a6, a7, a8, a9, a10, a11, a12⟩, p1, p2, -, p3, -, p4⟩ := rule_cells (h1.later hb) hx
      obtain ⟨b2, o2, f0', f1', fA', fl', fc', s0', s1', sA', sl', sc', tA', tc', rA', rc', rfl, -, hb2, ⟨e0, e1, e2, e3, e4, e5, e6, e7, e8, e9, e10, e11, e12⟩, q1, q2, -, q3, -, q4⟩ := rule_cells (h2.later hb) hx
      obtain ⟨rfl, rfl⟩ := rep_same q1 p1
      obtain ⟨rfl, rfl⟩ := rep_same q2 p2
      have hcall0 := hide (fun (U : World) (hU : Below wr.heap.size wr U) => rsrule_walk u hu f0 s0 u.line u.line f1 s1 fA sA tA rA fA' sA' tA' rA' fl fc sl sc tc rc fl' fc' sl' sc' tc' rc' U (kSel.later p1 hU) (kSel.later p2 hU) (p3.later hU) (p4.later hU) (kSel.later q1 hU) (kSel.later q2 hU) (q3.later hU) (q4.later hU))
      have hj0 : (0 : Int) ≤ (j : Int) := by omega
      have hj1 : (j : Int) < (n : Int) := by omega
      obtain ⟨nm, hnm⟩ : ∃ nm, u.name = nm := ⟨_, rfl⟩
      obtain ⟨wt, hwt⟩ : ∃ wt, u.weight = wt := ⟨_, rfl⟩
      obtain ⟨kd, hkd⟩ : ∃ kd, u.kind = kd := ⟨_, rfl⟩
      obtain ⟨nn, hnn9⟩ : ∃ nn, u.n = nn := ⟨_, rfl⟩
      obtain ⟨nt, hnt⟩ : ∃ nt, u.times.length = nt := ⟨_, rfl⟩
      obtain ⟨nr, hnr⟩ : ∃ nr, u.rooms.length = nr := ⟨_, rfl⟩
      obtain ⟨ln, hln⟩ : ∃ ln, u.line = ln := ⟨_, rfl⟩
      rw [hnm] at a0 e0 hcall0
      rw [hwt] at a1 e1 hcall0
      rw [hkd] at a2 e2 hcall0
      rw [hnn9] at a9 e9 hcall0
      rw [hnt] at a10 e10 hcall0
      rw [hnr] at a11 e11 hcall0
      rw [hln] at a12 e12 hcall0
      have hSL : Cn26 b1 ((o1 + j * 13)) (.string nm) b1 ((o1 + j * 13 + 1)) (.int .i64 wt) b1 ((o1 + j * 13 + 2)) (.int .i64 kd) b1 ((o1 + j * 13 + 3)) (.int .i64 f0) b1 ((o1 + j * 13 + 4)) (.string f1) b1 ((o1 + j * 13 + 5)) (.slice fA fl fc) b1 ((o1 + j * 13 + 6)) (.int .i64 s0) b1 ((o1 + j * 13 + 7)) (.string s1) b1 ((o1 + j * 13 + 8)) (.slice sA sl sc) b1 ((o1 + j * 13 + 9)) (.int .i64 nn) b1 ((o1 + j * 13 + 10)) (.slice tA nt tc) b1 ((o1 + j * 13 + 11)) (.slice rA nr rc) b1 ((o1 + j * 13 + 12)) (.int .i64 ln) b2 ((o2 + j * 13)) (.string nm) b2 ((o2 + j * 13 + 1)) (.int .i64 wt) b2 ((o2 + j * 13 + 2)) (.int .i64 kd) b2 ((o2 + j * 13 + 3)) (.int .i64 f0) b2 ((o2 + j * 13 + 4)) (.string f1) b2 ((o2 + j * 13 + 5)) (.slice fA' fl' fc') b2 ((o2 + j * 13 + 6)) (.int .i64 s0) b2 ((o2 + j * 13 + 7)) (.string s1) b2 ((o2 + j * 13 + 8)) (.slice sA' sl' sc') b2 ((o2 + j * 13 + 9)) (.int .i64 nn) b2 ((o2 + j * 13 + 10)) (.slice tA' nt tc') b2 ((o2 + j * 13 + 11)) (.slice rA' nr rc') b2 ((o2 + j * 13 + 12)) (.int .i64 ln) wr := ⟨a0, a1, a2, a3, a4, a5, a6, a7, a8, a9, a10, a11, a12, e0, e1, e2, e3, e4, e5, e6, e7, e8, e9, e10, e11, e12⟩
      have hcall := hide (fun (U : World) (hU : Below wr.heap.size wr U) => (hcall0.out U hU).mono fun e w' ⟨he, hb⟩ => (⟨he, ext_trans hU hb, hSL.later (ext_trans hU hb)⟩ : e = Ending.returned (.bool true) ∧ Below wr.heap.size wr w' ∧ Cn26 b1 ((o1 + j * 13)) (.string nm) b1 ((o1 + j * 13 + 1)) (.int .i64 wt) b1 ((o1 + j * 13 + 2)) (.int .i64 kd) b1 ((o1 + j * 13 + 3)) (.int .i64 f0) b1 ((o1 + j * 13 + 4)) (.string f1) b1 ((o1 + j * 13 + 5)) (.slice fA fl fc) b1 ((o1 + j * 13 + 6)) (.int .i64 s0) b1 ((o1 + j * 13 + 7)) (.string s1) b1 ((o1 + j * 13 + 8)) (.slice sA sl sc) b1 ((o1 + j * 13 + 9)) (.int .i64 nn) b1 ((o1 + j * 13 + 10)) (.slice tA nt tc) b1 ((o1 + j * 13 + 11)) (.slice rA nr rc) b1 ((o1 + j * 13 + 12)) (.int .i64 ln) b2 ((o2 + j * 13)) (.string nm) b2 ((o2 + j * 13 + 1)) (.int .i64 wt) b2 ((o2 + j * 13 + 2)) (.int .i64 kd) b2 ((o2 + j * 13 + 3)) (.int .i64 f0) b2 ((o2 + j * 13 + 4)) (.string f1) b2 ((o2 + j * 13 + 5)) (.slice fA' fl' fc') b2 ((o2 + j * 13 + 6)) (.int .i64 s0) b2 ((o2 + j * 13 + 7)) (.string s1) b2 ((o2 + j * 13 + 8)) (.slice sA' sl' sc') b2 ((o2 + j * 13 + 9)) (.int .i64 nn) b2 ((o2 + j * 13 + 10)) (.slice tA' nt tc') b2 ((o2 + j * 13 + 11)) (.slice rA' nr rc') b2 ((o2 + j * 13 + 12)) (.int .i64 ln) w'))
      have hSd := hSL.drew
      have hrefl := Below.refl wr.heap.size wr
      clear h1 h2 hx p1 p2 p3 p4 q1 q2 q3 q4 hcall0 hu hnm hwt hkd hnn9 hnt hnr hln
      go_wp2_with fail
      go_region_held3 (fun W' => W'.cell? ⟨b1, (o1 + j * 13), none⟩ = some (.string nm) ∧ W'.cell? ⟨b1, (o1 + j * 13 + 1), none⟩ = some (.int .i64 wt) ∧ W'.cell? ⟨b1, (o1 + j * 13 + 2), none⟩ = some (.int .i64 kd) ∧ W'.cell? ⟨b1, (o1 + j * 13 + 3), none⟩ = some (.int .i64 f0) ∧ W'.cell? ⟨b1, (o1 + j * 13 + 4), none⟩ = some (.string f1) ∧ W'.cell? ⟨b1, (o1 + j * 13 + 5), none⟩ = some (.slice fA fl fc) ∧ W'.cell? ⟨b1, (o1 + j * 13 + 6), none⟩ = some (.int .i64 s0) ∧ W'.cell? ⟨b1, (o1 + j * 13 + 7), none⟩ = some (.string s1) ∧ W'.cell? ⟨b1, (o1 + j * 13 + 8), none⟩ = some (.slice sA sl sc) ∧ W'.cell? ⟨b1, (o1 + j * 13 + 9), none⟩ = some (.int .i64 nn) ∧ W'.cell? ⟨b1, (o1 + j * 13 + 10), none⟩ = some (.slice tA nt tc) ∧ W'.cell? ⟨b1, (o1 + j * 13 + 11), none⟩ = some (.slice rA nr rc) ∧ W'.cell? ⟨b1, (o1 + j * 13 + 12), none⟩ = some (.int .i64 ln) ∧ W'.cell? ⟨b2, (o2 + j * 13), none⟩ = some (.string nm) ∧ W'.cell? ⟨b2, (o2 + j * 13 + 1), none⟩ = some (.int .i64 wt) ∧ W'.cell? ⟨b2, (o2 + j * 13 + 2), none⟩ = some (.int .i64 kd) ∧ W'.cell? ⟨b2, (o2 + j * 13 + 3), none⟩ = some (.int .i64 f0) ∧ W'.cell? ⟨b2, (o2 + j * 13 + 4), none⟩ = some (.string f1) ∧ W'.cell? ⟨b2, (o2 + j * 13 + 5), none⟩ = some (.slice fA' fl' fc') ∧ W'.cell? ⟨b2, (o2 + j * 13 + 6), none⟩ = some (.int .i64 s0) ∧ W'.cell? ⟨b2, (o2 + j * 13 + 7), none⟩ = some (.string s1) ∧ W'.cell? ⟨b2, (o2 + j * 13 + 8), none⟩ = some (.slice sA' sl' sc') ∧ W'.cell? ⟨b2, (o2 + j * 13 + 9), none⟩ = some (.int .i64 nn) ∧ W'.cell? ⟨b2, (o2 + j * 13 + 10), none⟩ = some (.slice tA' nt tc') ∧ W'.cell? ⟨b2, (o2 + j * 13 + 11), none⟩ = some (.slice rA' nr rc') ∧ W'.cell? ⟨b2, (o2 + j * 13 + 12), none⟩ = some (.int .i64 ln)) (first | ((repeat (first | (with_reducible assumption) | (with_reducible refine Cn26.alloc ?_ _) | (with_reducible refine Cn26.drew ?_) | (with_reducible refine Cn26.set ?_ ?_ ?_ ?_ ?_ ?_ ?_ ?_ ?_ ?_ ?_ ?_ ?_ ?_ ?_ ?_ ?_ ?_ ?_ ?_ ?_ ?_ ?_ ?_ ?_ ?_ ?_ _) | omega)); done)) (first | (go_at_call 58; refine (hcall.out _ (by repeat (first | (with_reducible assumption) | (with_reducible refine ext_alloc ?_ _) | (with_reducible refine ext_drew ?_)))).mono ?_; rintro e w2 ⟨rfl, hb2', hc2⟩))
      all_goals
        have hbn := ext_trans hb hb2'
        go_wp2
        go_roundw
        case rel => exact ⟨j + 1, by omega, by go_num, by first | exact ext_drew hbn | exact hbn⟩
        case measure => simp [intOf]; omega
    · obtain rfl : j = n := by omega
      go_wp2
      go_ret
      exact ⟨rfl, hb⟩
end Go.Proofs.YtdnnahdafhddlaaGreatDoor
