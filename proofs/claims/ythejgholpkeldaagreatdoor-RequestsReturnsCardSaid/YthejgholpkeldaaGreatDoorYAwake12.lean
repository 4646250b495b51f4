/- Walk of requests.Wanted. Conditions: the requests' cells; at most 1000000000 requests, each with at most as many courses instead. The check at the head of law 12. Condition: the program's variables hold what Std says. -/
import Derived.Shelf.SlSortCmp.NoneTotal
import Derived.Shelf.SlSortCmp.InsertionK
import Derived.Shelf.SlSortCmp.SiftDownK
import Derived.Shelf.SlSortCmp.KitK
import Derived.Shelf.SlSortCmp.ReverseRangeK
import Derived.Sort.LotA
import Derived.Test.YthejgholpkeldaaGreatDoorRows
import Derived.WalkKit
import Derived.WalkSpells
import Derived.WalkLawsBesides
import Derived.BigGuardPart
import Derived.Lib.Hide
import Derived.Laws.BitsAllLaws
import Derived.Laws.BitsLemmas
import Derived.Lib.LaidTab
import Derived.Test.YthejgholpkeldaaGreatDoorShelf
import Derived.Lib.ConvBytes
import Derived.Deep.QuietTactic
import Derived.BigQuiet
import Derived.Test.YthejgholpkeldaaGreatDoorShelfS
import Derived.Laws.ResultCell
import Derived.RegionTactic
import Derived.BigRegion
import Derived.Deep.RegionHeld3
import Derived.Deep.DeepCutAuto
import Derived.Lib.SmallJoins
import Derived.Lib.SplitLaws
import Derived.Lib.CountLaws
import Derived.Lib.IndexMore
import Derived.Lib.Split
import Derived.Lib.Join
import Derived.Lib.ItoaNum
import Derived.Laws.AppendOwn
import Derived.Test.YthejgholpkeldaaGreatDoorShelfT
import Derived.Lib.ItoaLen
import Derived.Lib.AppendIntMem
import Derived.Deep.AppendLies
import Derived.Lib.PathFns
import Derived.Maps.Range
import Derived.Lib.OwnBridge
import Derived.Sort.OwnSorted
import Derived.Sort.Walk0
import Derived.Test.YthejgholpkeldaaGreatDoorCards
import Derived.Test.YthejgholpkeldaaGreatDoorTie
import Derived.ProofKit
import Derived.OpenShut
import Derived.LaidMore
import Derived.Lay
import Derived.SevenTiedAt
import Derived.Stop.Joined
import Derived.Stop.LaidErr
import Derived.Deep.DeepHandedRow
import Derived.Lib.LaidU8
import Derived.LaidSub
import Derived.Deep.Slices
import Derived.Deep.Fields
import Derived.ChangeSame
import Derived.Maps.OwnSet
import Derived.Deep.RegionLaw
import Derived.Deep.RegionLawGrows
import Derived.StringKeys
import Derived.Test.YthejgholpkeldaaGreatDoorYDecN
import Derived.Test.YthejgholpkeldaaGreatDoorYQSort
import Derived.Test.YthejgholpkeldaaGreatDoorYPlainA
import Derived.Test.YthejgholpkeldaaGreatDoorYHeapC
namespace Go.Proofs.YthejgholpkeldaaGreatDoor
open Go.RowKit
set_option maxRecDepth 100000

theorem apd_prios : Apd Tryz.prog 87 53 4 64 := apd Tryz.underlying87 (z := .agg #[.string ⟨#[]⟩, .string ⟨#[]⟩, .int .i64 0, .slice none 0 0]) (by kernel_rfl) rfl
theorem own_ofStrsQ {B : Nat} {w : World} {v : Value} {zs : List ByteArray} (h : w.ownsRow B 9 1 v zs.length (zs.map Value.string)) : Own kStr 9 [] 0 B w v zs := by
  have hf : ∀ zs : List ByteArray, (zs.map fun z => [Value.string z]).flatten = zs.map Value.string := fun zs => by
    induction zs with
    | nil => rfl
    | cons z zs ih => rw [List.map_cons, List.flatten_cons, List.map_cons, ih]; rfl
  refine ⟨zs.map fun z => [.string z], by simp, by rw [hf]; exact h, fun j x vs hj hv => ?_⟩
  rw [List.getElem?_map, hj] at hv
  exact (Option.some.inj hv).symm
theorem clone_strsQ (D : Option Addr) (bs : List ByteArray) (d : Nat) (w : World) (hl : bs.length ≤ 1000000000) (h : At kStr AnyB w D bs) :
    Calls Tryz.prog 44 #[.slice D bs.length d] w fun e w' => ∃ v', e = .returned v' ∧ Own kStr 9 [] 0 w.heap.size w' v' bs ∧ Below w.heap.size w w' := by
  by_cases hn : 0 < bs.length
  · obtain ⟨b, off, rfl, -, hb, hc⟩ := h hn
    refine (Tryz.slices_Clone_string b off bs.length d bs w (Nat.le_refl _) (by omega) (fun j hj => ?_)).mono ?_
    · have hz : bs[j]? = some bs[j] := List.getElem?_eq_getElem hj
      obtain ⟨vs, hr, hcell⟩ := hc j _ hz
      rw [rep_str] at hr
      subst hr
      have := hcell 0 _ rfl
      rw [show bs.getD j ByteArray.empty = bs[j] from by rw [List.getD_eq_getElem?_getD, hz]; rfl]
      simpa [kStr] using this
    · rintro e w' ⟨v', rfl, ho, -, hb'⟩
      rw [List.take_length] at ho
      exact ⟨v', rfl, own_ofStrsQ ho, hb'⟩
  · obtain rfl : bs = [] := List.eq_nil_of_length_eq_zero (by omega)
    cases D with
    | none =>
      refine (Tryz.slices_Clone_string_nil 0 d w).mono ?_
      rintro e w' ⟨rfl, rfl⟩
      exact ⟨_, rfl, Own.nil, Below.refl _ _⟩
    | some a =>
      refine (Tryz.slices_Clone_string_zero a d w).mono ?_
      rintro e w' ⟨v', rfl, ho, -, hb'⟩
      exact ⟨v', rfl, own_ofStrsQ ho, hb'⟩
theorem ofS_take {l : List Req} {i : Nat} {x : Req} (s : ByteArray) (hx : l[i]? = some x) : ofS s (l.take (i + 1)) = if x.1 = s then ofS s (l.take i) ++ [x] else ofS s (l.take i) := by
  unfold ofS
  rw [List.take_add_one, hx]
  by_cases e : x.1 = s
  · simp [e]
  · simp [e]
theorem ofS_len (s : ByteArray) (l : List Req) : (ofS s l).length ≤ l.length := List.length_filter_le _ _
set_option maxHeartbeats 4000000 in
theorem wantQ_walk (A : Option Addr) (l : List Req) (c : Nat) (st : ByteArray) (w : World) (hn : l.length ≤ 1000000000) (hm : ∀ x ∈ l, x.2.2.2.length ≤ 1000000000) (h : At kReq AnyB w A l) :
    Calls Tryz.prog 21 #[.slice A l.length c, .string st] w fun e w' => ∃ v, e = .returned v ∧ Own kReq 53 [9] 0 w.heap.size w' v (wantV st l) ∧ Below w.heap.size w w' := by
  obtain ⟨N, hN⟩ : ∃ N, l.length = N := ⟨_, rfl⟩
  rw [hN] at hn ⊢
  replace hN := hide hN
  replace hm := hide hm
  go_enter Tryz.func21, Tryz.ntmps21
  go_wp2_with fail
  go_loopw [5, 10] (fun v u wr => ∃ i : Nat, i ≤ N ∧ u = .int .i64 i ∧ Own kReq 53 [9] 0 w.heap.size wr v (ofS st (l.take i)) ∧ Below w.heap.size w wr) (fun _ u _ => N - (intOf u).toNat)
  case atStart => exact ⟨0, Nat.zero_le _, rfl, Own.nil, Below.refl _ _⟩
  case round =>
    obtain ⟨i, hi, rfl, hown, hb⟩ := hrel
    by_cases hlt : i < N
    · obtain ⟨x0, hx0⟩ : ∃ x, l[i]? = some x := ⟨_, List.getElem?_eq_getElem (by rw [hN.out]; exact hlt)⟩
      obtain ⟨kb, off, F, c3, rfl, -, hkb, ⟨q0, q1, q2, q3⟩, l3, a3⟩ := (h.later hb).req hx0
      have hn3 := hm.out x0 (List.mem_of_getElem? hx0)
      have hnx := ofS_take st hx0
      have hol : (ofS st (l.take i)).length ≤ 4000000000 := by
        refine Nat.le_trans (ofS_len _ _) ?_
        rw [List.length_take, hN.out]
        omega
      obtain ⟨out, hout⟩ : ∃ out, ofS st (l.take i) = out := ⟨_, rfl⟩
      rw [hout] at hown hnx hol
      obtain ⟨z, co, m, ts⟩ := x0
      dsimp only at q0 q1 q2 q3 l3 a3 hn3 hnx
      have heq := toList_eqD z st
      obtain ⟨nt, hnt⟩ : ∃ nt, ts.length = nt := ⟨_, rfl⟩
      have hbn : Below wr.heap.size wr (wr.alloc (.cells #[.string z, .string co, .int .i64 m, .slice F nt c3] 53)) := ext_alloc (Below.refl _ _) _
      have hcl := clone_strsQ F ts c3 _ hn3 (a3.any.later hbn)
      rw [hnt] at q3 hcl
      have hj0 : (0 : Int) ≤ (i : Int) := by omega
      have hj1 : (i : Int) < (N : Int) := by omega
      by_cases hzs : z = st
      · rw [if_pos hzs] at hnx
        rw [decide_eq_true hzs] at heq
        have y0 : (wr.alloc (.cells #[.string z, .string co, .int .i64 m, .slice F nt c3] 53)).cell? ⟨wr.heap.size, 0, none⟩ = some (.string z) := by simp
        have y1 : (wr.alloc (.cells #[.string z, .string co, .int .i64 m, .slice F nt c3] 53)).cell? ⟨wr.heap.size, 1, none⟩ = some (.string co) := by simp
        have y2 : (wr.alloc (.cells #[.string z, .string co, .int .i64 m, .slice F nt c3] 53)).cell? ⟨wr.heap.size, 2, none⟩ = some (.int .i64 m) := by simp
        have y3 : (wr.alloc (.cells #[.string z, .string co, .int .i64 m, .slice F nt c3] 53)).cell? ⟨wr.heap.size, 3, none⟩ = some (.slice F nt c3) := by simp
        have yh : (wr.alloc (.cells #[.string z, .string co, .int .i64 m, .slice F nt c3] 53)).heap[wr.heap.size]? = some (.cells #[.string z, .string co, .int .i64 m, .slice F nt c3] 53 (0, 0)) := heap_alloc_new _ _
        have yf : (wr.alloc (.cells #[.string z, .string co, .int .i64 m, .slice F nt c3] 53)).frozen? ⟨wr.heap.size, 3, none⟩ = false := by simp
        have hown5 := hown.later hbn
        have hbw5 := ext_trans hb hbn
        have hux : ∀ y, u5.ownBlock = some y → y < wr.heap.size := fun y e => (hown.lt y e).2
        replace hnx := hide hnx
        clear hx0 hout hown a3 l3 hnt hzs
        go_upto_region 6 with fail
        clear q0 q1 q2 q3
        obtain ⟨x, hxx⟩ : ∃ x, wr.heap.size = x := ⟨_, rfl⟩
        obtain ⟨W5, hW5⟩ : ∃ W5, wr.alloc (.cells #[.string z, .string co, .int .i64 m, .slice F nt c3] 53) = W5 := ⟨_, rfl⟩
        have hxw : w.heap.size ≤ x := by rw [← hxx]; exact hb.size
        rw [hxx] at y0 y1 y2 y3 yh yf hux ⊢
        rw [hW5] at y0 y1 y2 y3 yh yf hcl hown5 hbw5 ⊢
        clear hbn hxx hW5
        have hxl := World.block_lt_of_cell? _ _ y0
        go_wp2_with fail
        refine hcl.mono ?_
        clear hcl
        rintro e w6 ⟨v6, rfl, ho6, hb6⟩
        obtain ⟨A6, c6, rfl⟩ := ho6.form
        have hx6 : x < w6.heap.size := Nat.lt_of_lt_of_le hxl hb6.size
        have p0 := cell_later hb6 y0
        have p1 := cell_later hb6 y1
        have p2 := cell_later hb6 y2
        have p3 := cell_later hb6 y3
        have ph := (hb6.block x hxl).trans yh
        have pf := (hb6.frozen (p := ⟨x, 3, none⟩) hxl).trans yf
        have hown6 := hown5.later hb6
        have hbw6 := ext_trans hbw5 hb6
        have z0 : (w6.setCell ⟨x, 3, none⟩ (.slice A6 ts.length c6)).cell? ⟨x, 0, none⟩ = some (.string z) := (World.cell?_setCell_other _ _ _ _ (by simp)).trans p0
        have z1 : (w6.setCell ⟨x, 3, none⟩ (.slice A6 ts.length c6)).cell? ⟨x, 1, none⟩ = some (.string co) := (World.cell?_setCell_other _ _ _ _ (by simp)).trans p1
        have z2 : (w6.setCell ⟨x, 3, none⟩ (.slice A6 ts.length c6)).cell? ⟨x, 2, none⟩ = some (.int .i64 m) := (World.cell?_setCell_other _ _ _ _ (by simp)).trans p2
        have z3 : (w6.setCell ⟨x, 3, none⟩ (.slice A6 ts.length c6)).cell? ⟨x, 3, none⟩ = some (.slice A6 ts.length c6) := World.cell?_setCell_same _ _ _ p3
        have hxo : Only x w6 (w6.setCell ⟨x, 3, none⟩ (.slice A6 ts.length c6)) := only_setCell (Only.refl x w6) (p := ⟨x, 3, none⟩) (Or.inl rfl) _
        have hrep6 := (ho6.noting hxo hxl).lower (C := w.heap.size) (by have := hbw5.size; omega)
        have hown7 := hown6.kept hxo (by
          cases hu : u5.ownBlock with
          | none => exact Or.inl rfl
          | some y => exact Or.inr fun e => by injection e with e; have := hux y hu; omega) (fun g e => ⟨Nat.zero_le _, by
            injection e with e
            subst e
            rintro ⟨-, cs, t', hc, ht⟩
            rw [ph] at hc
            injection hc with hc
            injection hc with _ hc _
            exact absurd (hc ▸ ht) (by decide)⟩)
        have hbw7 : Below w.heap.size w (w6.setCell ⟨x, 3, none⟩ (.slice A6 ts.length c6)) := hbw6.setCell (p := ⟨x, 3, none⟩) hxw _
        have hz7 : (w6.setCell ⟨x, 3, none⟩ (.slice A6 ts.length c6)).heap.size = w6.heap.size := World.size_setCell _ _ _
        obtain ⟨L, hL⟩ : ∃ L, ts.length = L := ⟨_, rfl⟩
        rw [hL] at z0 z1 z2 z3 hrep6 hown7 hbw7 hz7 ⊢
        have hrepr := Own.rep hrep6
        clear y0 y1 y2 y3 yh yf hown5 hbw5 ho6 hb6 hown6 hbw6 hxo ph
        go_upto_region 7 with fail
        obtain ⟨W7, hW7⟩ : ∃ W7, w6.setCell ⟨x, 3, none⟩ (.slice A6 L c6) = W7 := ⟨_, rfl⟩
        rw [hW7] at z0 z1 z2 z3 hrepr hown7 hbw7 hz7 ⊢
        have hx7 : x < W7.heap.size := by omega
        clear p0 p1 p2 p3 pf hW7 hrep6 hz7
        have hrq := req_rep (z := z) (co := co) (m := m) hrepr
        have hrq2 := kReq.kept hrq (w' := W7.alloc (.cells #[.string z, .string co, .int .i64 m, .slice A6 L c6] 53)) (S' := Ty [9] 0 w.heap.size (W7.alloc (.cells #[.string z, .string co, .int .i64 m, .slice A6 L c6] 53))) (fun b hs hlt => by
          have hbk : (W7.alloc (.cells #[.string z, .string co, .int .i64 m, .slice A6 L c6] 53)).heap[b]? = W7.heap[b]? := (ext_alloc (Below.refl _ _) _ : Below W7.heap.size W7 _).block b hlt
          refine ⟨?_, by rw [World.size_alloc]; omega, hbk⟩
          rcases hs with hs | ⟨hs, cs, t', hc, ht'⟩
          · exact .inl hs
          · exact .inr ⟨hs, cs, t', hbk.trans hc, ht'⟩)
        go_wp2_with (at_builtin; refine wpList_own rfl _ _ rfl apd_prios (by decide) rfl (hown7.alloc _) ?c1 (by decide) ⟨W7.heap.size, 0, none⟩ 1 rfl (z, co, m, ts) [.string z, .string co, .int .i64 m, .slice A6 L c6] hrq2 (World.news_of_block (cs := #[.string z, .string co, .int .i64 m, .slice A6 L c6]) (t := 53) (fr := (0, 0)) (heap_alloc_new _ _)) (by decide) (Nat.zero_le _) ?c2 ?_)
        case c1 => exact hol
        case c2 => rw [World.size_alloc]; have := hbw7.size; omega
        intro v8 w8 hown8 hg8
        have hb8 : Below w.heap.size w w8 := (hown7.alloc (.cells #[.string z, .string co, .int .i64 m, .slice A6 L c6] 53)).below_grown (ext_alloc hbw7 _) (Nat.le_refl _) hg8
        clear hown7 hg8 hrq hrq2 hrepr
        go_wp2
        go_roundw
        case rel => exact ⟨i + 1, by omega, by go_num, by rw [hnx.out]; exact hown8, hb8⟩
        case measure => first | (simp [intOf]; done) | (simp [intOf]; omega)
      · rw [if_neg hzs, ← hout] at hnx
        rw [decide_eq_false hzs] at heq
        have hown5 := hown.later hbn
        rw [← hout] at hown5
        replace hnx := hide hnx
        clear hx0 hown hcl a3 l3 hnt hzs hout
        go_wp2_with fail
        go_roundw
        case rel => exact ⟨i + 1, by omega, by go_num, by rw [hnx.out]; exact hown5, ext_trans hb hbn⟩
        case measure => first | (simp [intOf]; done) | (simp [intOf]; omega)
    · obtain rfl : i = N := by omega
      have hall : Hid (ofS st (l.take i) = ofS st l) := hide (by rw [← hN.out, List.take_length])
      rw [hall.out] at hown
      obtain ⟨A6, c6, rfl⟩ := hown.form
      have hlen : (ofS st l).length ≤ 1000000000 := Nat.le_trans (ofS_len _ _) (by rw [hN.out]; exact hn)
      have hsort := prios_walk [9] 0 w.heap.size A6 c6 (ofS st l) wr hlen (Nat.zero_le _) (by decide) hown
      unfold SortedQ at hsort
      have hfin : Hid (ascQ (ofS st l) = wantV st l) := hide rfl
      rw [hfin.out] at hsort
      obtain ⟨n, hn'⟩ : ∃ n, (ofS st l).length = n := ⟨_, rfl⟩
      have hlt2 : ∀ y, (Value.slice A6 (ofS st l).length c6).ownBlock = some y → w.heap.size ≤ y := fun y e => (hown.lt y e).1
      rw [hn'] at hsort hlt2 ⊢
      replace hlt2 := hide hlt2
      clear hown hall hfin hn' h hlen
      go_wp2_with fail
      refine hsort.mono ?_
      clear hsort
      rintro e w5 ⟨rfl, ho5, hg5⟩
      have hb5 : Below w.heap.size w w5 := Below.grown hb hg5 hb.size hlt2.out
      go_wp2
      go_ret
      exact ⟨_, rfl, ho5, hb5⟩
end Go.Proofs.YthejgholpkeldaaGreatDoor

namespace Go.Proofs.YthejgholpkeldaaGreatDoor
open Go.RowKit
set_option maxRecDepth 100000

def s1B : ByteArray := ⟨#[115, 49]⟩
def recs12 : List (List ByteArray) := [[s1B, ⟨#[65]⟩, ⟨#[50]⟩, ⟨#[]⟩], [s1B, ⟨#[66]⟩, ⟨#[49]⟩, ⟨#[67]⟩]]
def reqs12 : List Req := [(s1B, ⟨#[65]⟩, 2, []), (s1B, ⟨#[66]⟩, 1, [⟨#[67]⟩])]
theorem read12 : (readReq (plainR 1 recs12)).ls = reqs12 ∧ (readReq (plainR 1 recs12)).ps = [] := ⟨by kernel_rfl, by kernel_rfl⟩
theorem want12 : wantV s1B reqs12 = [(s1B, ⟨#[66]⟩, 1, [⟨#[67]⟩]), (s1B, ⟨#[65]⟩, 2, [])] := by kernel_rfl
theorem lists_four {U : World} {b1 b2 b3 : Nat} {t1 t2 t3 : TypeId} {a b c d a' b' c' d' : ByteArray} (h1 : U.heap[b1]? = some (.cells #[.string a, .string b, .string c, .string d] t1 (0, 0))) (h2 : U.heap[b2]? = some (.cells #[.string a', .string b', .string c', .string d'] t2 (0, 0))) (h3 : U.heap[b3]? = some (.cells #[.slice (some ⟨b1, 0, none⟩) 4 4, .slice (some ⟨b2, 0, none⟩) 4 4] t3 (0, 0))) : ListsIn U.heap.size U (some ⟨b3, 0, none⟩) [[a, b, c, d], [a', b', c', d']] := by
  intro _
  refine ⟨b3, 0, rfl, blk_lt h3, fun j x hx => ?_⟩
  have four : ∀ (g : Nat) (t : TypeId) (p q r s : ByteArray), U.heap[g]? = some (.cells #[.string p, .string q, .string r, .string s] t (0, 0)) → StrsIn U.heap.size U (some ⟨g, 0, none⟩) [p, q, r, s] := fun g t p q r s h _ => ⟨g, 0, rfl, blk_lt h, fun k z hz => by
    match k, hz with
    | 0, hz => simp at hz; subst hz; rw [cell_of_row U g _ _ _ _ h]; rfl
    | 1, hz => simp at hz; subst hz; rw [cell_of_row U g _ _ _ _ h]; rfl
    | 2, hz => simp at hz; subst hz; rw [cell_of_row U g _ _ _ _ h]; rfl
    | 3, hz => simp at hz; subst hz; rw [cell_of_row U g _ _ _ _ h]; rfl
    | k + 4, hz => simp at hz⟩
  match j, hx with
  | 0, hx =>
    simp at hx
    subst hx
    exact ⟨some ⟨b1, 0, none⟩, 4, by rw [cell_of_row U b3 _ _ _ _ h3]; rfl, four _ _ _ _ _ _ h1⟩
  | 1, hx =>
    simp at hx
    subst hx
    exact ⟨some ⟨b2, 0, none⟩, 4, by rw [cell_of_row U b3 _ _ _ _ h3]; rfl, four _ _ _ _ _ _ h2⟩
  | j + 2, hx => simp at hx
set_option maxHeartbeats 8000000 in
theorem awake12_walk (w : World) (hS : Std w) :
    Calls Tryz.prog 6 #[] w fun e w' => e = .returned (.bool true) ∧ Below w.heap.size w w' := by
  obtain ⟨u1, u2, u3⟩ := heap3c w (.cells #[.string ⟨#[115, 49]⟩, .string ⟨#[65]⟩, .string ⟨#[50]⟩, .string ⟨#[]⟩] 9) (.cells #[.string ⟨#[115, 49]⟩, .string ⟨#[66]⟩, .string ⟨#[49]⟩, .string ⟨#[67]⟩] 9) (.cells #[.slice (some ⟨w.heap.size, 0, none⟩) 4 4, .slice (some ⟨w.heap.size + 1, 0, none⟩) 4 4] 41)
  have hb0 : Below w.heap.size w (((w.alloc (.cells #[.string ⟨#[115, 49]⟩, .string ⟨#[65]⟩, .string ⟨#[50]⟩, .string ⟨#[]⟩] 9)).alloc (.cells #[.string ⟨#[115, 49]⟩, .string ⟨#[66]⟩, .string ⟨#[49]⟩, .string ⟨#[67]⟩] 9)).alloc (.cells #[.slice (some ⟨w.heap.size, 0, none⟩) 4 4, .slice (some ⟨w.heap.size + 1, 0, none⟩) 4 4] 41)) := (by repeat (first | exact Below.refl _ _ | refine ext_alloc ?_ _ | refine ext_drewN ?_ _ | refine ext_drew ?_ | refine ext_trans ?_ (by assumption)))
  obtain ⟨U, hU⟩ : ∃ U, ((w.alloc (.cells #[.string ⟨#[115, 49]⟩, .string ⟨#[65]⟩, .string ⟨#[50]⟩, .string ⟨#[]⟩] 9)).alloc (.cells #[.string ⟨#[115, 49]⟩, .string ⟨#[66]⟩, .string ⟨#[49]⟩, .string ⟨#[67]⟩] 9)).alloc (.cells #[.slice (some ⟨w.heap.size, 0, none⟩) 4 4, .slice (some ⟨w.heap.size + 1, 0, none⟩) 4 4] 41) = U := ⟨_, rfl⟩
  rw [hU] at u1 u2 u3 hb0
  have hpl := plain_walk (some ⟨w.heap.size + 2, 0, none⟩) recs12 2 U (lists_four u1 u2 u3) (by decide) (by decide)
  have hS0 := hS.after hb0
  replace hU := hide hU
  clear u1 u2 u3 hS
  go_enter Tryz.func6, Tryz.ntmps6
  go_wp2_with fail
  rw [hU.out]
  refine hpl.mono ?_
  clear hpl
  rintro e w1 ⟨v, rfl, hR, hb1⟩
  obtain ⟨A1, c1, rfl⟩ : ∃ A1 c1, v = .slice A1 2 c1 := by obtain ⟨us, -, h, -⟩ := hR; exact owns_form h
  have hR1 := recs_at hR
  have hread := qRead_walk A1 (plainR 1 recs12) c1 w1 (hS0.after hb1) hR1 (by decide) (by decide)
  replace hb0 := ext_trans hb0 hb1
  clear hR hR1 hb1 hS0 hU
  go_wp2_with fail
  refine hread.mono ?_
  clear hread
  rintro e w2 ⟨v6, v8, rfl, hL, hP, hb2⟩
  rw [read12.1] at hL
  rw [read12.2] at hP
  obtain ⟨A6, c6, rfl⟩ : ∃ A6 c6, v6 = .slice A6 2 c6 := hL.form
  obtain ⟨A8, c8, rfl⟩ : ∃ A8 c8, v8 = .slice A8 0 c8 := owns_form hP
  have hwant := wantQ_walk A6 reqs12 c6 s1B w2 (by decide) (by decide) hL.any'.any
  rw [want12] at hwant
  replace hb0 := ext_trans hb0 hb2
  clear hL hP hb2
  go_wp2_with fail
  refine hwant.mono ?_
  clear hwant
  rintro e w3 ⟨v3, rfl, hO, hb3⟩
  obtain ⟨A3, c3, rfl⟩ : ∃ A3 c3, v3 = .slice A3 2 c3 := hO.form
  obtain ⟨b, off, F, cF, rfl, -, hbl, ⟨-, k1, -, -⟩, -, -⟩ := hO.any'.req (j := 0) rfl
  dsimp only at k1
  rw [Nat.zero_mul, Nat.add_zero] at k1
  replace hb0 := ext_trans hb0 hb3
  clear hO hb3
  go_wp2_with fail
  go_ret
  exact ⟨rfl, hb0⟩
end Go.Proofs.YthejgholpkeldaaGreatDoor
