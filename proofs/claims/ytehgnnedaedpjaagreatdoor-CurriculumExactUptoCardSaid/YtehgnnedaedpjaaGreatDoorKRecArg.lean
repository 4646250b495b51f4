/- The argument []api.Record opened to cells, where its bulk is bounded. -/
import Derived.Test.YtehgnnedaedpjaaGreatDoorKVars
import Derived.Test.YtehgnnedaedpjaaGreatDoorKAwake9
import Derived.Deep.Slices
import Derived.Deep.Fields
import Derived.ChangeSame
namespace Go.Proofs.YtehgnnedaedpjaaGreatDoor
open Go.ChangeShapes Go.WideShapes Go.Deep Go.RowKit
set_option maxRecDepth 100000

section
variable {H : Type} {enc : TypeId × Value → H} {P : Program} {w : World} {base : Nat} {spare : Nat → Bool} {held : Bool}
theorem slice_fields {t e : TypeId} {fs : Array Field} {fuel : Nat} {cs : List Value} {x : DataW H × List MemPlace} (ht : P.underlying t = some (.slice e)) (he : P.underlying e = some (.struct fs))
    (hone : oneCellFields P fs = true) (hC : P.cellsOf e = fs.size) (h : DataW.trod enc P w base spare held fuel t cs = some x) :
    (cs = [.slice none 0 0] ∧ x = (.nil, [])) ∨
    ∃ (a : Addr) (len cap : Nat) (D : Nat → DataW H) (r : List (DataW H)), cs = [.slice (some a) len cap] ∧ x.1 = .slice ((List.range len).map D) r ∧
      ∀ i, i < len → ∃ (ys : List (DataW H × List MemPlace)) (n : Nat), D i = .agg (ys.map (·.1)) ∧
        ∀ (j : Nat) (f : Field), fs[j]? = some f → ∃ (v : Value) (y : DataW H × List MemPlace), w.cell? (a.add (i * fs.size + j)) = some v ∧ ys[j]? = some y ∧ DataW.trod enc P w base spare held n f.type [v] = some y := by
  rcases open_slice ht h with h0 | ⟨a, len, cap, m, n, D, Pl, hcs, -, hl, -, hmm, hx, hi⟩
  · exact .inl h0
  · refine .inr ⟨a, len, cap, D, (List.range (m - len)).map fun j => D (len + j), hcs, by rw [hx], fun i him => ?_⟩
    have hlm : len ≤ m := by rw [hmm]; split <;> omega
    obtain ⟨cs', hc, ht'⟩ := hi i (by omega)
    rw [hC] at hc
    obtain ⟨ys, n', -, hy, hlen, hyl, hf⟩ := DataW.trod_struct he ht'
    obtain ⟨_, hcl, hat⟩ := World.cells?_some hc
    simp only [Prod.mk.injEq] at hy
    refine ⟨ys, n', hy.1, fun j f hj => ?_⟩
    obtain ⟨ho, hk⟩ := hone_of hone j f hj
    have hjl : j < fs.size := (Array.getElem?_eq_some_iff.1 hj).1
    have hcell := hat j hjl
    have hv : cs'[j]? = some (cs'[j]'(by omega)) := List.getElem?_eq_getElem (by omega)
    have h1 := hf j f hj
    rw [ho, hk] at h1
    have hone' : (cs'.drop j).take 1 = [cs'[j]'(by omega)] := by
      rw [List.drop_eq_getElem_cons (by omega)]
      rfl
    rw [hone'] at h1
    have hys : ys[j]? = some (ys[j]'(by omega)) := List.getElem?_eq_getElem (by omega)
    refine ⟨_, _, ?_, hys, h1.trans hys⟩
    rw [← Go.Deep.add_add, hcell, hv]
end
section
variable {H : Type} {enc : TypeId × Value → H} {W : World} {base : Nat} {sp : Nat → Bool} {held : Bool}
theorem bulk_pos (d : DataW H) : 1 ≤ Rows.uptoBulk d := by
  cases d with
  | lit l => cases l <;> simp [Rows.uptoBulk]
  | _ => simp [Rows.uptoBulk]
theorem bulk_mem {d : DataW H} : ∀ {ds : List (DataW H)}, d ∈ ds → Rows.uptoBulk d ≤ Rows.uptoBulkAll ds
  | e :: ds, h => by
    rw [Rows.uptoBulkAll]
    rcases List.mem_cons.1 h with rfl | h
    · omega
    · have := bulk_mem h; omega
theorem bulk_len : ∀ (ds : List (DataW H)), ds.length ≤ Rows.uptoBulkAll ds
  | [] => by simp
  | d :: ds => by
    rw [Rows.uptoBulkAll, List.length_cons]
    have := bulk_len ds
    have := bulk_pos d
    omega
theorem open_flds {fuel : Nat} {v : Value} {x : DataW H × List MemPlace} (h : DataW.trod enc Tryz.prog W base sp held fuel 47 [v] = some x) (hk : Rows.uptoBulk x.1 ≤ 1048576) :
    ∃ F fs c, v = .slice F fs.length c ∧ FieldsAt W.heap.size W F fs ∧ ∀ f ∈ fs, f.1.size < 1073741824 := by
  rcases slice_fields Tryz.underlying47 Tryz.underlying114 (by kernel_rfl) (by kernel_rfl) h with ⟨hcs, rfl⟩ | ⟨a, len, cap, D, r, hcs, hx, hi⟩
  · simp only [List.cons.injEq, and_true] at hcs
    subst hcs
    exact ⟨none, [], 0, rfl, fun h => absurd h (by decide), by simp⟩
  · simp only [List.cons.injEq, and_true] at hcs
    subst hcs
    rw [hx, Rows.uptoBulk] at hk
    have hall : ∀ i, ∃ f : Fld, i < len → W.cell? (a.add (i * 3 + 0)) = some (.string f.1) ∧ W.cell? (a.add (i * 3 + 1)) = some (.int .i64 f.2.1) ∧ W.cell? (a.add (i * 3 + 2)) = some (.bool f.2.2) ∧ f.1.size < 1073741824 := by
      intro i
      by_cases hil : i < len
      · obtain ⟨ys, n, hD, hf⟩ := hi i hil
        obtain ⟨v0, y0, c0, hy0, t0⟩ := hf 0 _ rfl
        obtain ⟨v1, y1, c1, hy1, t1⟩ := hf 1 _ rfl
        obtain ⟨v2, y2, c2, hy2, t2⟩ := hf 2 _ rfl
        obtain ⟨s, e0, rfl, -⟩ := DataW.trod_string Tryz.underlying9 t0
        obtain ⟨k, e1, rfl, -⟩ := DataW.trod_int Tryz.underlying3 t1
        obtain ⟨b, e2, rfl⟩ := DataW.trod_bool Tryz.underlying4 t2
        simp only [List.cons.injEq, and_true] at e0 e1 e2
        subst e0 e1 e2
        refine ⟨(s, k, b), fun _ => ⟨c0, c1, c2, ?_⟩⟩
        have h1 := bulk_mem (ds := (List.range len).map D) (d := D i) (List.mem_map.2 ⟨i, by simpa using hil, rfl⟩)
        rw [hD, Rows.uptoBulk] at h1
        have h2 := bulk_mem (ds := ys.map (·.1)) (List.mem_map.2 ⟨_, List.mem_of_getElem? hy0, rfl⟩)
        dsimp only at h2
        rw [Rows.uptoBulk, ba_len] at h2
        show s.size < 1073741824
        omega
      · exact ⟨(⟨#[]⟩, 0, false), fun h => absurd h hil⟩
    obtain ⟨g, hg⟩ := Classical.axiomOfChoice hall
    refine ⟨some a, (List.range len).map g, cap, by simp, fun hn => ?_, fun f hf => ?_⟩
    · have hn0 : 0 < len := by simpa using hn
      obtain ⟨b, off, spot⟩ := a
      have hspot : spot = none := by simpa [Addr.add] using World.cell?_spot (hg 0 hn0).1
      subst hspot
      refine ⟨b, off, rfl, World.block_lt_of_cell? _ _ (hg 0 hn0).1, fun j hj => ?_⟩
      have hjl : j < len := by simpa using hj
      obtain ⟨c0, c1, c2, -⟩ := hg j hjl
      rw [add_plain] at c0 c1 c2
      simpa [List.getElem_map, List.getElem_range, Nat.add_assoc] using And.intro c0 (And.intro c1 c2)
    · obtain ⟨i, hi2, rfl⟩ := List.mem_map.1 hf
      exact (hg i (by simpa using hi2)).2.2.2
theorem open_recs {v : Value} {d : DataW H} {ps : List MemPlace} (hval : Value.okWide Tryz.prog W .any base 46 v)
    (hd : DataW.Trod enc Tryz.prog W 0 (fun _ => true) true 46 v d ps) (hk : Rows.uptoBulk d ≤ 1048576) :
    ∃ A rs c, v = .slice A rs.length c ∧ RecsAt W.heap.size W A rs ∧ rs.length ≤ 1048576 ∧ ∀ r ∈ rs, ∀ f ∈ r.2, f.1.size < 1073741824 := by
  obtain ⟨a0, len0, cap0, rfl⟩ := okWide_slice Tryz.underlying46 hval
  obtain ⟨fuel, hf⟩ := hd
  rcases slice_fields Tryz.underlying46 Tryz.underlying49 (by kernel_rfl) (by kernel_rfl) hf with ⟨hcs, hx⟩ | ⟨a, len, cap, D, r, hcs, hx, hi⟩
  · simp [Value.cells] at hcs
    obtain ⟨rfl, rfl, rfl⟩ := hcs
    exact ⟨none, [], 0, rfl, fun h => absurd h (by decide), by simp, by simp⟩
  · simp [Value.cells] at hcs
    obtain ⟨rfl, rfl, rfl⟩ := hcs
    dsimp only at hx
    rw [hx, Rows.uptoBulk] at hk
    have hln := bulk_len ((List.range len0).map D)
    rw [List.length_map, List.length_range] at hln
    have hall : ∀ i, ∃ x : Rec × (Option Addr × Nat), i < len0 → W.cell? (a.add (i * 2 + 0)) = some (.int .i64 x.1.1) ∧ W.cell? (a.add (i * 2 + 1)) = some (.slice x.2.1 x.1.2.length x.2.2) ∧ FieldsAt W.heap.size W x.2.1 x.1.2 ∧ ∀ f ∈ x.1.2, f.1.size < 1073741824 := by
      intro i
      by_cases hil : i < len0
      · obtain ⟨ys, n, hD, hf2⟩ := hi i hil
        obtain ⟨v0, y0, c0, hy0, t0⟩ := hf2 0 _ rfl
        obtain ⟨v1, y1, c1, hy1, t1⟩ := hf2 1 _ rfl
        obtain ⟨k, e0, rfl, -⟩ := DataW.trod_int Tryz.underlying3 t0
        simp only [List.cons.injEq, and_true] at e0
        subst e0
        have h1 := bulk_mem (ds := (List.range len0).map D) (d := D i) (List.mem_map.2 ⟨i, by simpa using hil, rfl⟩)
        rw [hD, Rows.uptoBulk] at h1
        have h2 := bulk_mem (ds := ys.map (·.1)) (List.mem_map.2 ⟨_, List.mem_of_getElem? hy1, rfl⟩)
        obtain ⟨F, fs, c, rfl, hF, hs⟩ := open_flds t1 (by omega)
        exact ⟨((k, fs), (F, c)), fun _ => ⟨c0, c1, hF, hs⟩⟩
      · exact ⟨((0, []), (none, 0)), fun h => absurd h hil⟩
    obtain ⟨g, hg⟩ := Classical.axiomOfChoice hall
    refine ⟨some a, (List.range len0).map fun i => (g i).1, cap0, by simp, fun hn => ?_, by simp; omega, fun r hr => ?_⟩
    · have hn0 : 0 < len0 := by simpa using hn
      obtain ⟨b, off, spot⟩ := a
      have hspot : spot = none := by simpa [Addr.add] using World.cell?_spot (hg 0 hn0).1
      subst hspot
      refine ⟨b, off, rfl, World.block_lt_of_cell? _ _ (hg 0 hn0).1, fun j r hr => ?_⟩
      rw [List.getElem?_map] at hr
      obtain ⟨i, hi1, rfl⟩ := Option.map_eq_some_iff.1 hr
      obtain ⟨hjl, hij⟩ := List.getElem?_eq_some_iff.1 hi1
      have hjl : j < len0 := by simpa using hjl
      obtain rfl : j = i := by simpa using hij
      obtain ⟨c0, c1, hF, -⟩ := hg j hjl
      rw [add_plain] at c0 c1
      exact ⟨_, _, c0, c1, hF⟩
    · obtain ⟨i, hi2, rfl⟩ := List.mem_map.1 hr
      exact (hg i (by simpa using hi2)).2.2.2
end
end Go.Proofs.YtehgnnedaedpjaaGreatDoor
