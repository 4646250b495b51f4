/- Walks of slices.SortStableFunc at requests, and of the sort by priorities. Conditions: the row is their own; fewer than 2^60 requests. -/
import Derived.Shelf.SlSortCmp.NoneTotal
import Derived.Shelf.SlSortCmp.InsertionK
import Derived.Shelf.SlSortCmp.SiftDownK
import Derived.Shelf.SlSortCmp.KitK
import Derived.Shelf.SlSortCmp.ReverseRangeK
import Derived.Sort.LotA
import Derived.Test.YthejgholpkeldaaGreatDoorRows
import Derived.WalkKit
import Derived.WalkSpells
import Derived.WalkLawsBesides
import Derived.BigGuardPart
import Derived.Lib.Hide
import Derived.Laws.BitsAllLaws
import Derived.Laws.BitsLemmas
import Derived.Lib.LaidTab
import Derived.Test.YthejgholpkeldaaGreatDoorShelf
import Derived.Lib.ConvBytes
import Derived.Deep.QuietTactic
import Derived.BigQuiet
import Derived.Test.YthejgholpkeldaaGreatDoorShelfS
import Derived.Laws.ResultCell
import Derived.RegionTactic
import Derived.BigRegion
import Derived.Deep.RegionHeld3
import Derived.Deep.DeepCutAuto
import Derived.Lib.SmallJoins
import Derived.Lib.SplitLaws
import Derived.Lib.CountLaws
import Derived.Lib.IndexMore
import Derived.Lib.Split
import Derived.Lib.Join
import Derived.Lib.ItoaNum
import Derived.Laws.AppendOwn
import Derived.Test.YthejgholpkeldaaGreatDoorShelfT
import Derived.Lib.ItoaLen
import Derived.Lib.AppendIntMem
import Derived.Deep.AppendLies
import Derived.Lib.PathFns
import Derived.Maps.Range
import Derived.Lib.OwnBridge
import Derived.Sort.OwnSorted
import Derived.Sort.Walk0
import Derived.Test.YthejgholpkeldaaGreatDoorCards
import Derived.Test.YthejgholpkeldaaGreatDoorTie
import Derived.ProofKit
import Derived.OpenShut
import Derived.LaidMore
import Derived.Lay
import Derived.SevenTiedAt
import Derived.Stop.Joined
import Derived.Stop.LaidErr
import Derived.Deep.DeepHandedRow
import Derived.Lib.LaidU8
import Derived.LaidSub
import Derived.Deep.Slices
import Derived.Deep.Fields
import Derived.ChangeSame
import Derived.Maps.OwnSet
import Derived.Deep.RegionLaw
import Derived.Deep.RegionLawGrows
import Derived.StringKeys
import Derived.Test.YthejgholpkeldaaGreatDoorYReqOwn
import Derived.Test.YthejgholpkeldaaGreatDoorYStabS
import Derived.Test.YthejgholpkeldaaGreatDoorYCmpG
namespace Go.Proofs.YthejgholpkeldaaGreatDoor
open Go.RowKit Go.Lib Go.Sort Go.Shelf
set_option maxRecDepth 100000

/-- A request with the place of its courses instead. -/
abbrev ReqA := Req × (Option Addr × Nat)
def lessP (a b : ReqA) : Bool := lessQ a.1 b.1
def encA (a : ReqA) : List Value := [.string a.1.1, .string a.1.2.1, .int .i64 a.1.2.2.1, .slice a.2.1 a.1.2.2.2.length a.2.2]
def encM (x : ReqA × Nat) : List Value := encA x.1
def prioI (m n : Int) : Int := if m < n then -1 else if n < m then 1 else 0
def cfM (x y : ReqA × Nat) : Int := prioI x.1.1.2.2.1 y.1.1.2.2.1
theorem prioI_neg (m n : Int) : prioI m n < 0 ↔ m < n := by
  unfold prioI
  split
  · rename_i h; exact ⟨fun _ => h, fun _ => by decide⟩
  · rename_i h
    split
    · exact ⟨fun h' => absurd h' (by decide), fun h' => absurd h' h⟩
    · exact ⟨fun h' => absurd h' (by decide), fun h' => absurd h' h⟩
theorem ltM : ltOf cfM = lessM lessP := by
  funext x y
  unfold ltOf lessM lessP lessQ cfM
  exact decide_eq_decide.2 (prioI_neg _ _)
theorem swoPr : SWO lessP where
  irrefl x := by unfold lessP lessQ; simp
  trans x y z h1 h2 := by
    unfold lessP lessQ at *
    have h1 := of_decide_eq_true h1
    have h2 := of_decide_eq_true h2
    exact decide_eq_true (by omega)
  ntrans x y z h1 h2 := by
    unfold lessP lessQ at *
    have h1 := of_decide_eq_false h1
    have h2 := of_decide_eq_false h2
    exact decide_eq_false (by omega)
theorem swoM : SWO (ltOf cfM) := by rw [ltM]; exact lessM_swo swoPr
def zReqA : ReqA := (zReq, (none, 0))
theorem posG_fst {x : ReqA} {out : List ReqA} : ∀ k, posG lessP zReqA x out k = posG lessQ zReq x.1 (out.map Prod.fst) k
  | 0 => rfl
  | k + 1 => by
    have e : (out.map Prod.fst).getD k zReq = (out.getD k zReqA).1 := by
      rw [List.getD_eq_getElem?_getD, List.getD_eq_getElem?_getD, List.getElem?_map]
      cases out[k]? <;> rfl
    rw [posG, posG, e, posG_fst k]; rfl
theorem ascG_fst (l : List ReqA) : (ascG lessP zReqA l).map Prod.fst = ascQ (l.map Prod.fst) := by
  induction l using snoc_ind with
  | h0 => rfl
  | h1 l x ih =>
    unfold ascQ at ih ⊢
    rw [List.map_append, List.map_cons, List.map_nil, ascG_snoc, ascG_snoc, ← ih]
    unfold insG
    rw [posG_fst, List.length_map, List.map_append, List.map_take, List.map_cons, List.map_drop]
/-! Rows, cell by cell. -/
theorem flatK_list {α : Type} [Inhabited α] (enc : α → List Value) (k : Nat) (h0 : 0 < k) (hk : ∀ x, (enc x).length = k) (d : List α) : (flatK enc k d.toArray).toList = d.flatMap enc := by
  refine List.ext_getElem? fun t => ?_
  have hs : (flatK enc k d.toArray).size = d.length * k := by simp
  have hall : ∀ vs ∈ d.map enc, vs.length = k := fun vs hv => by obtain ⟨x, -, rfl⟩ := List.mem_map.1 hv; exact hk x
  by_cases ht : t < d.length * k
  · have h1 : (flatK enc k d.toArray).toList[t]? = some ((flatK enc k d.toArray)[t]!) := by
      rw [Array.getElem?_toList, Array.getElem?_eq_getElem (by omega), getElem!_pos _ t (by omega)]
    have hq : t / k < d.length := (Nat.div_lt_iff_lt_mul h0).2 ht
    have hm : t % k < k := Nat.mod_lt _ h0
    rw [h1, get_flatK _ _ _ _ (by simpa using ht), List.flatMap_def]
    have h2 := flatten_at (k := k) (d.map enc) hall (t / k) (t % k) (enc d[t / k]) (by rw [List.getElem?_map, List.getElem?_eq_getElem hq]; rfl) hm
    rw [show t / k * k + t % k = t from by rw [Nat.mul_comm]; exact Nat.div_add_mod t k] at h2
    rw [h2, getElem!_pos d.toArray (t / k) (by simpa using hq)]
    simp only [List.getElem_toArray]
    have h3 : t % k < (enc d[t / k]).length := by rw [hk]; exact hm
    rw [List.getElem?_eq_getElem h3, getElem!_pos _ (t % k) h3]
  · rw [List.getElem?_eq_none (by rw [Array.length_toList]; omega), List.getElem?_eq_none]
    rw [List.flatMap_def]
    have : ∀ vss : List (List Value), (∀ vs ∈ vss, vs.length = k) → vss.flatten.length = vss.length * k := by
      intro vss
      induction vss with
      | nil => intro _; simp
      | cons x vss ih => intro h; rw [List.flatten_cons, List.length_append, h x (by simp), ih (fun v hv => h v (by simp [hv])), List.length_cons, Nat.add_mul, Nat.one_mul, Nat.add_comm]
    rw [this _ hall, List.length_map]
    omega
theorem heap_putQ {w : World} {g n : Nat} {os : Array Obj} {cur F : Array Value} {e : TypeId} {fr : Nat × Nat} (hb : w.heap[g]? = some (.cells cur e fr)) :
    (grow (putRow id (Sort.ahead w n) g 0 F) os).heap[g]? = some (.cells (putCells id 0 F cur) e fr) := by
  have hg : g < w.heap.size := (Array.getElem?_eq_some_iff.1 hb).1
  rw [heap_grow_old _ _ (by simpa using hg)]
  simp [putRow, mapBlock, Sort.ahead, Array.getElem?_modify, hb, onCells]
theorem grownBy_putQ {w : World} {g n : Nat} {os : Array Obj} (F : Array Value) : w.grownBy (grow (putRow id (Sort.ahead w n) g 0 F) os) (some g) := by
  refine ⟨rfl, rfl, rfl, by simp, fun k hk hne => ?_⟩
  rw [heap_grow_old _ _ (by simpa using hk)]
  have : g ≠ k := fun e => hne (by rw [e])
  simp [putRow, mapBlock, Sort.ahead, Array.getElem?_modify, this]
theorem take_putQ (cur F : Array Value) (h : F.size ≤ cur.size) : (putCells id 0 F cur).toList.take F.size = F.toList := by
  apply List.ext_getElem?
  intro j
  by_cases hj : j < F.size
  · rw [List.getElem?_take_of_lt hj, Array.getElem?_toList]
    simp [putCells, hj, show j < cur.size by omega]
  · rw [List.getElem?_take_eq_none (by omega), List.getElem?_eq_none (by simp; omega)]
section
variable {ts : List TypeId} {B0 B : Nat} {w : World} {v : Value} {l : List Req}
/-- A row of requests, with the places of their courses instead. -/
theorem own_reqs (h : Own kReq 53 ts B0 B w v l) : ∃ ps : List ReqA, ps.map Prod.fst = l ∧ w.ownsRow B 53 4 v l.length (ps.flatMap encA) ∧ ∀ p ∈ ps, (kSlice kStr).rep (Ty ts B0 B w) w p.1.2.2.2 [.slice p.2.1 p.1.2.2.2.length p.2.2] := by
  obtain ⟨vss, e1, e2, e3⟩ := h
  obtain ⟨ys, hy1, hy2⟩ := list_choice (R := fun j (x : Req) (y : Option Addr × Nat) => vss[j]? = some (encA (x, y)) ∧ (kSlice kStr).rep (Ty ts B0 B w) w x.2.2.2 [.slice y.1 x.2.2.2.length y.2]) l (fun j x hx => by
    have hj := (List.getElem?_eq_some_iff.1 hx).1
    have hv : vss[j]? = some vss[j] := List.getElem?_eq_getElem (by omega)
    obtain ⟨F, c, e, hr⟩ := req_unrep (e3 j x _ hx hv)
    exact ⟨(F, c), by rw [hv, e]; rfl, hr⟩)
  have hfst : (l.zip ys).map Prod.fst = l := List.map_fst_zip (by omega)
  refine ⟨l.zip ys, hfst, ?_, fun p hp => ?_⟩
  · have : vss = (l.zip ys).map encA := by
      refine List.ext_getElem? fun j => ?_
      rw [List.getElem?_map]
      rcases Nat.lt_or_ge j l.length with hj | hj
      · have hx : l[j]? = some l[j] := List.getElem?_eq_getElem hj
        have hy : ys[j]? = some ys[j] := List.getElem?_eq_getElem (by omega)
        rw [(hy2 j _ _ hx hy).1, show (l.zip ys)[j]? = some (l[j], ys[j]) from List.getElem?_zip_eq_some.2 ⟨hx, hy⟩]; rfl
      · rw [List.getElem?_eq_none (by omega), List.getElem?_eq_none (by simp; omega)]; rfl
    rw [List.flatMap_def, ← this]
    exact e2
  · obtain ⟨j, hj⟩ := List.getElem?_of_mem hp
    obtain ⟨h1, h2⟩ := List.getElem?_zip_eq_some.1 hj
    exact (hy2 j _ _ h1 h2).2
theorem reqs_own {ps : List ReqA} {n : Nat} (hn : ps.length = n) (h1 : w.ownsRow B 53 4 v n (ps.flatMap encA)) (h2 : ∀ p ∈ ps, (kSlice kStr).rep (Ty ts B0 B w) w p.1.2.2.2 [.slice p.2.1 p.1.2.2.2.length p.2.2]) : Own kReq 53 ts B0 B w v (ps.map Prod.fst) := by
  subst hn
  refine ⟨ps.map encA, by simp, ?_, fun j x vs hj hv => ?_⟩
  · rw [List.length_map, ← List.flatMap_def]; exact h1
  · rw [List.getElem?_map] at hj hv
    cases hp : ps[j]? with
    | none => rw [hp] at hj; cases hj
    | some p =>
      rw [hp] at hj hv
      cases hj; cases hv
      exact req_rep (h2 p (List.mem_of_getElem? hp))
end
/-! The walks. -/
theorem sort1_walk (z1 c1 : ByteArray) (m1 : Int) (F1 : Option Addr) (n1 k1 : Nat) (z2 c2 : ByteArray) (m2 : Int) (F2 : Option Addr) (n2 k2 : Nat) (w : World) :
    Calls Tryz.prog 78 #[.agg #[.string z1, .string c1, .int .i64 m1, .slice F1 n1 k1], .agg #[.string z2, .string c2, .int .i64 m2, .slice F2 n2 k2]] w fun e w' => e = .returned (.int .i64 (prioI m1 m2)) ∧ Gr w w' := by
  have hb : Gr w ((w.alloc (.cells #[.string z1, .string c1, .int .i64 m1, .slice F1 n1 k1] 53)).alloc (.cells #[.string z2, .string c2, .int .i64 m2, .slice F2 n2 k2] 53)) := Gr.alloc (Gr.alloc (Gr.refl w) _) _
  unfold prioI
  by_cases h1 : m1 < m2
  · rw [if_pos h1]
    go_enter Tryz.func78, Tryz.ntmps78
    go_wp2
    go_ret
    exact ⟨rfl, hb⟩
  · rw [if_neg h1]
    by_cases h2 : m2 < m1
    · rw [if_pos h2]
      go_enter Tryz.func78, Tryz.ntmps78
      go_wp2
      go_ret
      exact ⟨rfl, hb⟩
    · rw [if_neg h2]
      go_enter Tryz.func78, Tryz.ntmps78
      go_wp2
      go_ret
      exact ⟨rfl, hb⟩
theorem stab_none (A : Option Addr) (c : Nat) (fv : Value) (w : World) :
    Calls Tryz.prog 109 #[.slice A 0 c, .int .i64 0, fv] w fun e w' => e = .returned (.tuple #[]) ∧ w' = w := by
  have hi := AnyF.insertionSortCmpFunc_none Tryz.insReq A c fv w
  change Calls Tryz.prog 141 _ _ _ at hi
  go_enter Tryz.func109, Tryz.ntmps109
  go_wp2_with fail
  go_loopg [7, 8] 0 (fun kx sa sb wr => sa = .int .i64 0 ∧ sb = .int .i64 20 ∧ w = wr)
  case atStart => exact ⟨rfl, rfl, rfl⟩
  case round =>
    obtain ⟨rfl, rfl, rfl⟩ := hrel
    go_wp2_with fail
    refine hi.mono ?_
    rintro e w2 ⟨rfl, rfl⟩
    go_wp2_with fail
    go_loopg [6] 0 (fun kx sk wr => sk = .int .i64 20 ∧ w2 = wr)
    case atStart => exact ⟨rfl, rfl⟩
    case round =>
      obtain ⟨rfl, rfl⟩ := hrel
      go_wp2_with fail
      go_end0
      exact ⟨rfl, rfl⟩
def SortedQ (ts : List TypeId) (B0 B : Nat) (A : Option Addr) (c : Nat) (l : List Req) (w : World) (e : Ending) (w' : World) : Prop :=
  e = .returned (.tuple #[]) ∧ Own kReq 53 ts B0 B w' (.slice A l.length c) (ascQ l) ∧ w.grownBy w' (Value.slice A l.length c).ownBlock
set_option maxHeartbeats 1000000 in
theorem stabQ_walk (ts : List TypeId) (B0 B : Nat) (A : Option Addr) (c : Nat) (l : List Req) (w : World) (hl : l.length ≤ 1000000000) (hB : B0 ≤ B) (hts : 53 ∉ ts) (h : Own kReq 53 ts B0 B w (.slice A l.length c) l) :
    Calls Tryz.prog 109 #[.slice A l.length c, .int .i64 l.length, .func (.func 78) #[] #[]] w fun e w' => SortedQ ts B0 B A c l w e w' := by
  obtain ⟨ps, hps, hrow, hrep⟩ := own_reqs h
  have hpl : ps.length = l.length := by rw [← hps, List.length_map]
  rcases hrow.2 with ⟨he, h0⟩ | ⟨g, cap, cur, he, hBg, hg, hn, hm, hsz, ht⟩
  · obtain rfl := List.eq_nil_of_length_eq_zero h0
    refine (stab_none A c _ w).mono fun e w' ⟨h1, h2⟩ => ⟨h1, ?_, ?_⟩
    · rw [h2]; exact h
    · rw [h2]; exact World.grownBy.refl _ _
  · injection he with h1 _ h2
    subst h1 h2
    have eg : ∀ args w, (callFunc 78 args).run Tryz.prog w = .ok (.enter 78 args) w := enters_of Tryz.func78 (by kernel_rfl) rfl
    obtain ⟨d, hd⟩ : ∃ d, ps.zipIdx = d := ⟨_, rfl⟩
    have hdl : d.length = l.length := by rw [← hd, List.length_zipIdx]; exact hpl
    have hde : d.flatMap encM = ps.flatMap encA := by
      rw [← hd]
      have : ∀ (q : List ReqA) (k : Nat), (q.zipIdx k).flatMap encM = q.flatMap encA := by
        intro q
        induction q with
        | nil => intro k; rfl
        | cons x q ih => intro k; rw [List.zipIdx_cons, List.flatMap_cons, List.flatMap_cons, ih]; rfl
      exact this ps 0
    have hfl := flatK_list encM 4 (by decide) (fun _ => rfl) d
    have hH : HoldsK encM 4 w g 0 d.toArray := by
      intro j hj
      have hj2 : j < l.length * 4 := by rw [← hdl]; simpa using hj
      refine ⟨?_, by simp [World.frozen?, hg]⟩
      have h1 : (cur.toList.take (l.length * 4))[j]? = (flatK encM 4 d.toArray).toList[j]? := by rw [ht, hfl, hde]
      rw [List.getElem?_take_of_lt hj2] at h1
      rw [Nat.zero_add, cell_of_row w g j cur _ (0, 0) hg, ← Array.getElem?_toList, h1, Array.getElem?_toList, Array.getElem?_eq_getElem hj, getElem!_pos _ j hj]
      rfl
    have hR : RowK encM 4 w g 0 d.toArray := ⟨fun _ => rfl, fun x v hv => by simp [encM, encA] at hv; rcases hv with rfl | rfl | rfl | rfl <;> rfl, hH, blk_lt hg⟩
    have hcon := stab_walk 4 Tryz.isAgg53 Tryz.sizeOf53 encM cfM 78 #[] g 0 c d.toArray w eg (fun m os dk _ x y => (sort1_walk x.1.1.1 x.1.1.2.1 x.1.1.2.2.1 x.1.2.1 x.1.1.2.2.2.length x.1.2.2 y.1.1.1 y.1.1.2.1 y.1.1.2.2.1 y.1.2.1 y.1.1.2.2.2.length y.1.2.2 _).mono fun e w' ⟨he, hgr⟩ => ⟨he, hgr.grown⟩) hR swoM d.toArray w rfl (SWK.start hH) (by rw [List.size_toArray, hdl]; omega)
    rw [List.size_toArray, hdl] at hcon
    refine hcon.mono ?_
    rintro e w' ⟨h1, n, os, rfl⟩
    have hso := stable_ascG swoPr zReqA ps
    rw [hd, hpl, ← ltM] at hso
    obtain ⟨m, hm'⟩ : ∃ m : List (ReqA × Nat), stable (ltOf cfM) l.length d.toArray = m.toArray := ⟨(stable (ltOf cfM) l.length d.toArray).toList, by simp⟩
    rw [hm'] at hso ⊢
    have hso : m.map Prod.fst = ascG lessP zReqA ps := hso
    have hml : m.length = l.length := by have := congrArg List.length hso; rw [List.length_map, ascG_len, hpl] at this; exact this
    have hfm := flatK_list encM 4 (by decide) (fun _ => rfl) m
    have hmm : m.flatMap encM = (m.map Prod.fst).flatMap encA := by rw [List.flatMap_map]; rfl
    have hF : (flatK encM 4 m.toArray).size = l.length * 4 := by rw [size_flatK, List.size_toArray, hml]
    have hb : (sortWorldK encM 4 w g 0 n m.toArray os).heap[g]? = some (.cells (putCells id 0 (flatK encM 4 m.toArray) cur) 53 (0, 0)) := heap_putQ hg
    have hgr : w.grownBy (sortWorldK encM 4 w g 0 n m.toArray os) (some g) := grownBy_putQ _
    refine ⟨h1, ?_, hgr⟩
    have hfin : (m.map Prod.fst).map Prod.fst = ascQ l := by rw [hso, ascG_fst, hps]
    rw [← hfin]
    refine reqs_own (n := l.length) (by rw [List.length_map, hml]) ?_ ?_
    · refine ⟨?_, .inr ⟨g, c, _, rfl, hBg, hb, hn, hm, by simp [putCells, hsz], ?_⟩⟩
      · rw [← hmm]
        have := congrArg List.length hfm
        rw [Array.length_toList, hF] at this
        exact this.symm
      · rw [← hmm, ← hfm, ← hF]
        exact take_putQ cur _ (by rw [hF, hsz]; exact Nat.mul_le_mul_right _ hn)
    · intro p hp
      have hp' : p ∈ ps := by
        rw [hso] at hp
        exact (ascG_perm ps).mem_iff.1 hp
      refine (kSlice kStr).kept (hrep p hp') fun b hs hlt => ?_
      have hbk : (sortWorldK encM 4 w g 0 n m.toArray os).heap[b]? = w.heap[b]? := hgr.block b hlt fun e => by
        injection e with e
        subst e
        rcases hs with hs | ⟨-, cs, t', hc, ht'⟩
        · omega
        · rw [hg] at hc
          injection hc with hc
          injection hc with _ hc _
          exact hts (hc ▸ ht')
      refine ⟨?_, Nat.lt_of_lt_of_le hlt hgr.size, hbk⟩
      rcases hs with hs | ⟨hs, cs, t', hc, ht'⟩
      · exact .inl hs
      · exact .inr ⟨hs, cs, t', hbk.trans hc, ht'⟩
theorem prios_walk (ts : List TypeId) (B0 B : Nat) (A : Option Addr) (c : Nat) (l : List Req) (w : World) (hl : l.length ≤ 1000000000) (hB : B0 ≤ B) (hts : 53 ∉ ts) (h : Own kReq 53 ts B0 B w (.slice A l.length c) l) :
    Calls Tryz.prog 45 #[.slice A l.length c] w fun e w' => SortedQ ts B0 B A c l w e w' := by
  have hcall := stabQ_walk ts B0 B A c l w hl hB hts h
  have hst : Calls Tryz.prog 77 #[.slice A l.length c, .func (.func 78) #[] #[]] w fun e w' => SortedQ ts B0 B A c l w e w' := by
    unfold SortedQ at hcall ⊢
    obtain ⟨S, hS⟩ : ∃ S, ascQ l = S := ⟨_, rfl⟩
    rw [hS] at hcall ⊢
    obtain ⟨n, hn⟩ : ∃ n, l.length = n := ⟨_, rfl⟩
    rw [hn] at hcall ⊢
    clear h hn hS
    go_enter Tryz.func77, Tryz.ntmps77
    go_wp2_with fail
    refine hcall.mono ?_
    clear hcall
    rintro e w2 ⟨rfl, hr⟩
    go_wp2_with fail
    go_end0
    exact ⟨rfl, hr⟩
  clear hcall
  unfold SortedQ at hst ⊢
  obtain ⟨S, hS⟩ : ∃ S, ascQ l = S := ⟨_, rfl⟩
  rw [hS] at hst ⊢
  obtain ⟨n, hn⟩ : ∃ n, l.length = n := ⟨_, rfl⟩
  rw [hn] at hst ⊢
  clear h hn hS
  go_enter Tryz.func45, Tryz.ntmps45
  go_wp2_with fail
  refine hst.mono ?_
  clear hst
  rintro e w2 ⟨rfl, hr⟩
  go_wp2_with fail
  go_end0
  exact ⟨rfl, hr⟩
end Go.Proofs.YthejgholpkeldaaGreatDoor
