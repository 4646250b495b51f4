/- Walks of slices.SortStableFunc at requests, and of the sort by priorities. Conditions: the row is their own; fewer than 2^60 requests. Walk of requests.Wanted. Conditions: the requests' cells; at most 1000000000 requests, each with at most as many courses instead. The check at the head of law 12. Condition: the program's variables hold what Std says. -/
import Derived.Shelf.SlSortCmp.NoneTotal
import Derived.Shelf.SlSortCmp.InsertionK
import Derived.Shelf.SlSortCmp.SiftDownK
import Derived.Shelf.SlSortCmp.KitK
import Derived.Shelf.SlSortCmp.ReverseRangeK
import Derived.Sort.LotA
import Derived.Test.YtpojkgfckepoeaaGreatDoorRows
import Derived.WalkKit
import Derived.WalkSpells
import Derived.WalkLawsBesides
import Derived.BigGuardPart
import Derived.Lib.Hide
import Derived.Laws.BitsAllLaws
import Derived.Laws.BitsLemmas
import Derived.Lib.LaidTab
import Derived.Test.YtpojkgfckepoeaaGreatDoorShelf
import Derived.Lib.ConvBytes
import Derived.Deep.QuietTactic
import Derived.BigQuiet
import Derived.Test.YtpojkgfckepoeaaGreatDoorShelfS
import Derived.Laws.ResultCell
import Derived.RegionTactic
import Derived.BigRegion
import Derived.Deep.RegionHeld3
import Derived.Deep.DeepCutAuto
import Derived.Lib.SmallJoins
import Derived.Lib.SplitLaws
import Derived.Lib.CountLaws
import Derived.Lib.IndexMore
import Derived.Lib.Split
import Derived.Lib.Join
import Derived.Lib.ItoaNum
import Derived.Laws.AppendOwn
import Derived.Test.YtpojkgfckepoeaaGreatDoorShelfT
import Derived.Lib.ItoaLen
import Derived.Lib.AppendIntMem
import Derived.Deep.AppendLies
import Derived.Lib.PathFns
import Derived.Maps.Range
import Derived.Lib.OwnBridge
import Derived.Sort.OwnSorted
import Derived.Sort.Walk0
import Derived.Test.YtpojkgfckepoeaaGreatDoorCards
import Derived.Test.YtpojkgfckepoeaaGreatDoorTie
import Derived.ProofKit
import Derived.OpenShut
import Derived.LaidMore
import Derived.Lay
import Derived.SevenTiedAt
import Derived.Stop.Joined
import Derived.Stop.LaidErr
import Derived.Deep.DeepHandedRow
import Derived.Lib.LaidU8
import Derived.LaidSub
import Derived.Deep.Slices
import Derived.Deep.Fields
import Derived.ChangeSame
import Derived.Maps.OwnSet
import Derived.Deep.RegionLaw
import Derived.Deep.RegionLawGrows
import Derived.StringKeys
import Derived.Test.YtpojkgfckepoeaaGreatDoorXStuds
import Derived.Test.YtpojkgfckepoeaaGreatDoorXStabS
import Derived.Test.YtpojkgfckepoeaaGreatDoorXCmpR
import Derived.Test.YtpojkgfckepoeaaGreatDoorXQStudR
import Derived.Test.YtpojkgfckepoeaaGreatDoorXPlainA
import Derived.Test.YtpojkgfckepoeaaGreatDoorXQRead
namespace Go.Proofs.YtpojkgfckepoeaaGreatDoor
open Go.RowKit Go.Lib Go.Sort Go.Shelf
set_option maxRecDepth 100000

/-- A request with the place of its courses instead. -/
abbrev ReqA := Req × (Option Addr × Nat)
def lessP (a b : ReqA) : Bool := lessQ a.1 b.1
def encA (a : ReqA) : List Value := [.string a.1.1, .string a.1.2.1, .int .i64 a.1.2.2.1, .slice a.2.1 a.1.2.2.2.length a.2.2]
def encM (x : ReqA × Nat) : List Value := encA x.1
def prioI (m n : Int) : Int := if m < n then -1 else if n < m then 1 else 0
def cfM (x y : ReqA × Nat) : Int := prioI x.1.1.2.2.1 y.1.1.2.2.1
theorem prioI_neg (m n : Int) : prioI m n < 0 ↔ m < n := by
  unfold prioI
  split
  · rename_i h; exact ⟨fun _ => h, fun _ => by decide⟩
  · rename_i h
    split
    · exact ⟨fun h' => absurd h' (by decide), fun h' => absurd h' h⟩
    · exact ⟨fun h' => absurd h' (by decide), fun h' => absurd h' h⟩
theorem ltM : ltOf cfM = lessM lessP := by
  funext x y
  unfold ltOf lessM lessP lessQ cfM
  exact decide_eq_decide.2 (prioI_neg _ _)
theorem swoPr : SWO lessP where
  irrefl x := by unfold lessP lessQ; simp
  trans x y z h1 h2 := by
    unfold lessP lessQ at *
    have h1 := of_decide_eq_true h1
    have h2 := of_decide_eq_true h2
    exact decide_eq_true (by omega)
  ntrans x y z h1 h2 := by
    unfold lessP lessQ at *
    have h1 := of_decide_eq_false h1
    have h2 := of_decide_eq_false h2
    exact decide_eq_false (by omega)
theorem swoM : SWO (ltOf cfM) := by rw [ltM]; exact lessM_swo swoPr
def zReqA : ReqA := (zReq, (none, 0))
theorem posG_fst {x : ReqA} {out : List ReqA} : ∀ k, posG lessP zReqA x out k = posG lessQ zReq x.1 (out.map Prod.fst) k
  | 0 => rfl
  | k + 1 => by
    have e : (out.map Prod.fst).getD k zReq = (out.getD k zReqA).1 := by
      rw [List.getD_eq_getElem?_getD, List.getD_eq_getElem?_getD, List.getElem?_map]
      cases out[k]? <;> rfl
    rw [posG, posG, e, posG_fst k]; rfl
theorem ascG_fst (l : List ReqA) : (ascG lessP zReqA l).map Prod.fst = ascQ (l.map Prod.fst) := by
  induction l using snoc_ind with
  | h0 => rfl
  | h1 l x ih =>
    unfold ascQ at ih ⊢
    rw [List.map_append, List.map_cons, List.map_nil, ascG_snoc, ascG_snoc, ← ih]
    unfold insG
    rw [posG_fst, List.length_map, List.map_append, List.map_take, List.map_cons, List.map_drop]
/-! Rows, cell by cell. -/
theorem flatK_list {α : Type} [Inhabited α] (enc : α → List Value) (k : Nat) (h0 : 0 < k) (hk : ∀ x, (enc x).length = k) (d : List α) : (flatK enc k d.toArray).toList = d.flatMap enc := by
  refine List.ext_getElem? fun t => ?_
  have hs : (flatK enc k d.toArray).size = d.length * k := by simp
  have hall : ∀ vs ∈ d.map enc, vs.length = k := fun vs hv => by obtain ⟨x, -, rfl⟩ := List.mem_map.1 hv; exact hk x
  by_cases ht : t < d.length * k
  · have h1 : (flatK enc k d.toArray).toList[t]? = some ((flatK enc k d.toArray)[t]!) := by
      rw [Array.getElem?_toList, Array.getElem?_eq_getElem (by omega), getElem!_pos _ t (by omega)]
    have hq : t / k < d.length := (Nat.div_lt_iff_lt_mul h0).2 ht
    have hm : t % k < k := Nat.mod_lt _ h0
    rw [h1, get_flatK _ _ _ _ (by simpa using ht), List.flatMap_def]
    have h2 := flatten_at (k := k) (d.map enc) hall (t / k) (t % k) (enc d[t / k]) (by rw [List.getElem?_map, List.getElem?_eq_getElem hq]; rfl) hm
    rw [show t / k * k + t % k = t from by rw [Nat.mul_comm]; exact Nat.div_add_mod t k] at h2
    rw [h2, getElem!_pos d.toArray (t / k) (by simpa using hq)]
    simp only [List.getElem_toArray]
    have h3 : t % k < (enc d[t / k]).length := by rw [hk]; exact hm
    rw [List.getElem?_eq_getElem h3, getElem!_pos _ (t % k) h3]
  · rw [List.getElem?_eq_none (by rw [Array.length_toList]; omega), List.getElem?_eq_none]
    rw [List.flatMap_def]
    have : ∀ vss : List (List Value), (∀ vs ∈ vss, vs.length = k) → vss.flatten.length = vss.length * k := by
      intro vss
      induction vss with
      | nil => intro _; simp
      | cons x vss ih => intro h; rw [List.flatten_cons, List.length_append, h x (by simp), ih (fun v hv => h v (by simp [hv])), List.length_cons, Nat.add_mul, Nat.one_mul, Nat.add_comm]
    rw [this _ hall, List.length_map]
    omega
theorem heap_putQ {w : World} {g n : Nat} {os : Array Obj} {cur F : Array Value} {e : TypeId} {fr : Nat × Nat} (hb : w.heap[g]? = some (.cells cur e fr)) :
    (grow (putRow id (Sort.ahead w n) g 0 F) os).heap[g]? = some (.cells (putCells id 0 F cur) e fr) := by
  have hg : g < w.heap.size := (Array.getElem?_eq_some_iff.1 hb).1
  rw [heap_grow_old _ _ (by simpa using hg)]
  simp [putRow, mapBlock, Sort.ahead, Array.getElem?_modify, hb, onCells]
theorem grownBy_putQ {w : World} {g n : Nat} {os : Array Obj} (F : Array Value) : w.grownBy (grow (putRow id (Sort.ahead w n) g 0 F) os) (some g) := by
  refine ⟨rfl, rfl, rfl, by simp, fun k hk hne => ?_⟩
  rw [heap_grow_old _ _ (by simpa using hk)]
  have : g ≠ k := fun e => hne (by rw [e])
  simp [putRow, mapBlock, Sort.ahead, Array.getElem?_modify, this]
theorem take_putQ (cur F : Array Value) (h : F.size ≤ cur.size) : (putCells id 0 F cur).toList.take F.size = F.toList := by
  apply List.ext_getElem?
  intro j
  by_cases hj : j < F.size
  · rw [List.getElem?_take_of_lt hj, Array.getElem?_toList]
    simp [putCells, hj, show j < cur.size by omega]
  · rw [List.getElem?_take_eq_none (by omega), List.getElem?_eq_none (by simp; omega)]
section
variable {ts : List TypeId} {B0 B : Nat} {w : World} {v : Value} {l : List Req}
/-- A row of requests, with the places of their courses instead. -/
theorem own_reqs (h : Own kReq 61 ts B0 B w v l) : ∃ ps : List ReqA, ps.map Prod.fst = l ∧ w.ownsRow B 61 4 v l.length (ps.flatMap encA) ∧ ∀ p ∈ ps, (kSlice kStr).rep (Ty ts B0 B w) w p.1.2.2.2 [.slice p.2.1 p.1.2.2.2.length p.2.2] := by
  obtain ⟨vss, e1, e2, e3⟩ := h
  obtain ⟨ys, hy1, hy2⟩ := list_choice (R := fun j (x : Req) (y : Option Addr × Nat) => vss[j]? = some (encA (x, y)) ∧ (kSlice kStr).rep (Ty ts B0 B w) w x.2.2.2 [.slice y.1 x.2.2.2.length y.2]) l (fun j x hx => by
    have hj := (List.getElem?_eq_some_iff.1 hx).1
    have hv : vss[j]? = some vss[j] := List.getElem?_eq_getElem (by omega)
    obtain ⟨F, c, e, hr⟩ := req_unrep (e3 j x _ hx hv)
    exact ⟨(F, c), by rw [hv, e]; rfl, hr⟩)
  have hfst : (l.zip ys).map Prod.fst = l := List.map_fst_zip (by omega)
  refine ⟨l.zip ys, hfst, ?_, fun p hp => ?_⟩
  · have : vss = (l.zip ys).map encA := by
      refine List.ext_getElem? fun j => ?_
      rw [List.getElem?_map]
      rcases Nat.lt_or_ge j l.length with hj | hj
      · have hx : l[j]? = some l[j] := List.getElem?_eq_getElem hj
        have hy : ys[j]? = some ys[j] := List.getElem?_eq_getElem (by omega)
        rw [(hy2 j _ _ hx hy).1, show (l.zip ys)[j]? = some (l[j], ys[j]) from List.getElem?_zip_eq_some.2 ⟨hx, hy⟩]; rfl
      · rw [List.getElem?_eq_none (by omega), List.getElem?_eq_none (by simp; omega)]; rfl
    rw [List.flatMap_def, ← this]
    exact e2
  · obtain ⟨j, hj⟩ := List.getElem?_of_mem hp
    obtain ⟨h1, h2⟩ := List.getElem?_zip_eq_some.1 hj
    exact (hy2 j _ _ h1 h2).2
theorem reqs_own {ps : List ReqA} {n : Nat} (hn : ps.length = n) (h1 : w.ownsRow B 61 4 v n (ps.flatMap encA)) (h2 : ∀ p ∈ ps, (kSlice kStr).rep (Ty ts B0 B w) w p.1.2.2.2 [.slice p.2.1 p.1.2.2.2.length p.2.2]) : Own kReq 61 ts B0 B w v (ps.map Prod.fst) := by
  subst hn
  refine ⟨ps.map encA, by simp, ?_, fun j x vs hj hv => ?_⟩
  · rw [List.length_map, ← List.flatMap_def]; exact h1
  · rw [List.getElem?_map] at hj hv
    cases hp : ps[j]? with
    | none => rw [hp] at hj; cases hj
    | some p =>
      rw [hp] at hj hv
      cases hj; cases hv
      exact req_rep (h2 p (List.mem_of_getElem? hp))
end
/-! The walks. -/
theorem sort1_walk (z1 c1 : ByteArray) (m1 : Int) (F1 : Option Addr) (n1 k1 : Nat) (z2 c2 : ByteArray) (m2 : Int) (F2 : Option Addr) (n2 k2 : Nat) (w : World) :
    Calls Tryz.prog 83 #[.agg #[.string z1, .string c1, .int .i64 m1, .slice F1 n1 k1], .agg #[.string z2, .string c2, .int .i64 m2, .slice F2 n2 k2]] w fun e w' => e = .returned (.int .i64 (prioI m1 m2)) ∧ Gr w w' := by
  have hb : Gr w ((w.alloc (.cells #[.string z1, .string c1, .int .i64 m1, .slice F1 n1 k1] 61)).alloc (.cells #[.string z2, .string c2, .int .i64 m2, .slice F2 n2 k2] 61)) := Gr.alloc (Gr.alloc (Gr.refl w) _) _
  unfold prioI
  by_cases h1 : m1 < m2
  · rw [if_pos h1]
    go_enter Tryz.func83, Tryz.ntmps83
    go_wp2
    go_ret
    exact ⟨rfl, hb⟩
  · rw [if_neg h1]
    by_cases h2 : m2 < m1
    · rw [if_pos h2]
      go_enter Tryz.func83, Tryz.ntmps83
      go_wp2
      go_ret
      exact ⟨rfl, hb⟩
    · rw [if_neg h2]
      go_enter Tryz.func83, Tryz.ntmps83
      go_wp2
      go_ret
      exact ⟨rfl, hb⟩
theorem stab_none (A : Option Addr) (c : Nat) (fv : Value) (w : World) :
    Calls Tryz.prog 116 #[.slice A 0 c, .int .i64 0, fv] w fun e w' => e = .returned (.tuple #[]) ∧ w' = w := by
  have hi := AnyF.insertionSortCmpFunc_none Tryz.insReq A c fv w
  change Calls Tryz.prog 143 _ _ _ at hi
  go_enter Tryz.func116, Tryz.ntmps116
  go_wp2_with fail
  go_loopg [7, 8] 0 (fun kx sa sb wr => sa = .int .i64 0 ∧ sb = .int .i64 20 ∧ w = wr)
  case atStart => exact ⟨rfl, rfl, rfl⟩
  case round =>
    obtain ⟨rfl, rfl, rfl⟩ := hrel
    go_wp2_with fail
    refine hi.mono ?_
    rintro e w2 ⟨rfl, rfl⟩
    go_wp2_with fail
    go_loopg [6] 0 (fun kx sk wr => sk = .int .i64 20 ∧ w2 = wr)
    case atStart => exact ⟨rfl, rfl⟩
    case round =>
      obtain ⟨rfl, rfl⟩ := hrel
      go_wp2_with fail
      go_end0
      exact ⟨rfl, rfl⟩
def SortedQ (ts : List TypeId) (B0 B : Nat) (A : Option Addr) (c : Nat) (l : List Req) (w : World) (e : Ending) (w' : World) : Prop :=
  e = .returned (.tuple #[]) ∧ Own kReq 61 ts B0 B w' (.slice A l.length c) (ascQ l) ∧ w.grownBy w' (Value.slice A l.length c).ownBlock
set_option maxHeartbeats 1000000 in
theorem stabQ_walk (ts : List TypeId) (B0 B : Nat) (A : Option Addr) (c : Nat) (l : List Req) (w : World) (hl : l.length ≤ 1000000000) (hB : B0 ≤ B) (hts : 61 ∉ ts) (h : Own kReq 61 ts B0 B w (.slice A l.length c) l) :
    Calls Tryz.prog 116 #[.slice A l.length c, .int .i64 l.length, .func (.func 83) #[] #[]] w fun e w' => SortedQ ts B0 B A c l w e w' := by
  obtain ⟨ps, hps, hrow, hrep⟩ := own_reqs h
  have hpl : ps.length = l.length := by rw [← hps, List.length_map]
  rcases hrow.2 with ⟨he, h0⟩ | ⟨g, cap, cur, he, hBg, hg, hn, hm, hsz, ht⟩
  · obtain rfl := List.eq_nil_of_length_eq_zero h0
    refine (stab_none A c _ w).mono fun e w' ⟨h1, h2⟩ => ⟨h1, ?_, ?_⟩
    · rw [h2]; exact h
    · rw [h2]; exact World.grownBy.refl _ _
  · injection he with h1 _ h2
    subst h1 h2
    have eg : ∀ args w, (callFunc 83 args).run Tryz.prog w = .ok (.enter 83 args) w := enters_of Tryz.func83 (by kernel_rfl) rfl
    obtain ⟨d, hd⟩ : ∃ d, ps.zipIdx = d := ⟨_, rfl⟩
    have hdl : d.length = l.length := by rw [← hd, List.length_zipIdx]; exact hpl
    have hde : d.flatMap encM = ps.flatMap encA := by
      rw [← hd]
      have : ∀ (q : List ReqA) (k : Nat), (q.zipIdx k).flatMap encM = q.flatMap encA := by
        intro q
        induction q with
        | nil => intro k; rfl
        | cons x q ih => intro k; rw [List.zipIdx_cons, List.flatMap_cons, List.flatMap_cons, ih]; rfl
      exact this ps 0
    have hfl := flatK_list encM 4 (by decide) (fun _ => rfl) d
    have hH : HoldsK encM 4 w g 0 d.toArray := by
      intro j hj
      have hj2 : j < l.length * 4 := by rw [← hdl]; simpa using hj
      refine ⟨?_, by simp [World.frozen?, hg]⟩
      have h1 : (cur.toList.take (l.length * 4))[j]? = (flatK encM 4 d.toArray).toList[j]? := by rw [ht, hfl, hde]
      rw [List.getElem?_take_of_lt hj2] at h1
      rw [Nat.zero_add, cell_of_row w g j cur _ (0, 0) hg, ← Array.getElem?_toList, h1, Array.getElem?_toList, Array.getElem?_eq_getElem hj, getElem!_pos _ j hj]
      rfl
    have hR : RowK encM 4 w g 0 d.toArray := ⟨fun _ => rfl, fun x v hv => by simp [encM, encA] at hv; rcases hv with rfl | rfl | rfl | rfl <;> rfl, hH, blk_lt hg⟩
    have hcon := stab_walk 4 Tryz.isAgg61 Tryz.sizeOf61 encM cfM 83 #[] g 0 c d.toArray w eg (fun m os dk _ x y => (sort1_walk x.1.1.1 x.1.1.2.1 x.1.1.2.2.1 x.1.2.1 x.1.1.2.2.2.length x.1.2.2 y.1.1.1 y.1.1.2.1 y.1.1.2.2.1 y.1.2.1 y.1.1.2.2.2.length y.1.2.2 _).mono fun e w' ⟨he, hgr⟩ => ⟨he, hgr.grown⟩) hR swoM d.toArray w rfl (SWK.start hH) (by rw [List.size_toArray, hdl]; omega)
    rw [List.size_toArray, hdl] at hcon
    refine hcon.mono ?_
    rintro e w' ⟨h1, n, os, rfl⟩
    have hso := stable_ascG swoPr zReqA ps
    rw [hd, hpl, ← ltM] at hso
    obtain ⟨m, hm'⟩ : ∃ m : List (ReqA × Nat), stable (ltOf cfM) l.length d.toArray = m.toArray := ⟨(stable (ltOf cfM) l.length d.toArray).toList, by simp⟩
    rw [hm'] at hso ⊢
    have hso : m.map Prod.fst = ascG lessP zReqA ps := hso
    have hml : m.length = l.length := by have := congrArg List.length hso; rw [List.length_map, ascG_len, hpl] at this; exact this
    have hfm := flatK_list encM 4 (by decide) (fun _ => rfl) m
    have hmm : m.flatMap encM = (m.map Prod.fst).flatMap encA := by rw [List.flatMap_map]; rfl
    have hF : (flatK encM 4 m.toArray).size = l.length * 4 := by rw [size_flatK, List.size_toArray, hml]
    have hb : (sortWorldK encM 4 w g 0 n m.toArray os).heap[g]? = some (.cells (putCells id 0 (flatK encM 4 m.toArray) cur) 61 (0, 0)) := heap_putQ hg
    have hgr : w.grownBy (sortWorldK encM 4 w g 0 n m.toArray os) (some g) := grownBy_putQ _
    refine ⟨h1, ?_, hgr⟩
    have hfin : (m.map Prod.fst).map Prod.fst = ascQ l := by rw [hso, ascG_fst, hps]
    rw [← hfin]
    refine reqs_own (n := l.length) (by rw [List.length_map, hml]) ?_ ?_
    · refine ⟨?_, .inr ⟨g, c, _, rfl, hBg, hb, hn, hm, by simp [putCells, hsz], ?_⟩⟩
      · rw [← hmm]
        have := congrArg List.length hfm
        rw [Array.length_toList, hF] at this
        exact this.symm
      · rw [← hmm, ← hfm, ← hF]
        exact take_putQ cur _ (by rw [hF, hsz]; exact Nat.mul_le_mul_right _ hn)
    · intro p hp
      have hp' : p ∈ ps := by
        rw [hso] at hp
        exact (ascG_perm ps).mem_iff.1 hp
      refine (kSlice kStr).kept (hrep p hp') fun b hs hlt => ?_
      have hbk : (sortWorldK encM 4 w g 0 n m.toArray os).heap[b]? = w.heap[b]? := hgr.block b hlt fun e => by
        injection e with e
        subst e
        rcases hs with hs | ⟨-, cs, t', hc, ht'⟩
        · omega
        · rw [hg] at hc
          injection hc with hc
          injection hc with _ hc _
          exact hts (hc ▸ ht')
      refine ⟨?_, Nat.lt_of_lt_of_le hlt hgr.size, hbk⟩
      rcases hs with hs | ⟨hs, cs, t', hc, ht'⟩
      · exact .inl hs
      · exact .inr ⟨hs, cs, t', hbk.trans hc, ht'⟩
theorem prios_walk (ts : List TypeId) (B0 B : Nat) (A : Option Addr) (c : Nat) (l : List Req) (w : World) (hl : l.length ≤ 1000000000) (hB : B0 ≤ B) (hts : 61 ∉ ts) (h : Own kReq 61 ts B0 B w (.slice A l.length c) l) :
    Calls Tryz.prog 49 #[.slice A l.length c] w fun e w' => SortedQ ts B0 B A c l w e w' := by
  have hcall := stabQ_walk ts B0 B A c l w hl hB hts h
  have hst : Calls Tryz.prog 82 #[.slice A l.length c, .func (.func 83) #[] #[]] w fun e w' => SortedQ ts B0 B A c l w e w' := by
    unfold SortedQ at hcall ⊢
    obtain ⟨S, hS⟩ : ∃ S, ascQ l = S := ⟨_, rfl⟩
    rw [hS] at hcall ⊢
    obtain ⟨n, hn⟩ : ∃ n, l.length = n := ⟨_, rfl⟩
    rw [hn] at hcall ⊢
    clear h hn hS
    go_enter Tryz.func82, Tryz.ntmps82
    go_wp2_with fail
    refine hcall.mono ?_
    clear hcall
    rintro e w2 ⟨rfl, hr⟩
    go_wp2_with fail
    go_end0
    exact ⟨rfl, hr⟩
  clear hcall
  unfold SortedQ at hst ⊢
  obtain ⟨S, hS⟩ : ∃ S, ascQ l = S := ⟨_, rfl⟩
  rw [hS] at hst ⊢
  obtain ⟨n, hn⟩ : ∃ n, l.length = n := ⟨_, rfl⟩
  rw [hn] at hst ⊢
  clear h hn hS
  go_enter Tryz.func49, Tryz.ntmps49
  go_wp2_with fail
  refine hst.mono ?_
  clear hst
  rintro e w2 ⟨rfl, hr⟩
  go_wp2_with fail
  go_end0
  exact ⟨rfl, hr⟩
end Go.Proofs.YtpojkgfckepoeaaGreatDoor

namespace Go.Proofs.YtpojkgfckepoeaaGreatDoor
open Go.RowKit
set_option maxRecDepth 100000

theorem apd_prios : Apd Tryz.prog 80 61 4 64 := apd Tryz.underlying80 (z := .agg #[.string ⟨#[]⟩, .string ⟨#[]⟩, .int .i64 0, .slice none 0 0]) (by kernel_rfl) rfl
theorem own_ofStrsQ {B : Nat} {w : World} {v : Value} {zs : List ByteArray} (h : w.ownsRow B 9 1 v zs.length (zs.map Value.string)) : Own kStr 9 [] 0 B w v zs := by
  have hf : ∀ zs : List ByteArray, (zs.map fun z => [Value.string z]).flatten = zs.map Value.string := fun zs => by
    induction zs with
    | nil => rfl
    | cons z zs ih => rw [List.map_cons, List.flatten_cons, List.map_cons, ih]; rfl
  refine ⟨zs.map fun z => [.string z], by simp, by rw [hf]; exact h, fun j x vs hj hv => ?_⟩
  rw [List.getElem?_map, hj] at hv
  exact (Option.some.inj hv).symm
theorem clone_strsQ (D : Option Addr) (bs : List ByteArray) (d : Nat) (w : World) (hl : bs.length ≤ 1000000000) (h : At kStr AnyB w D bs) :
    Calls Tryz.prog 48 #[.slice D bs.length d] w fun e w' => ∃ v', e = .returned v' ∧ Own kStr 9 [] 0 w.heap.size w' v' bs ∧ Below w.heap.size w w' := by
  by_cases hn : 0 < bs.length
  · obtain ⟨b, off, rfl, -, hb, hc⟩ := h hn
    refine (Tryz.slices_Clone_string b off bs.length d bs w (Nat.le_refl _) (by omega) (fun j hj => ?_)).mono ?_
    · have hz : bs[j]? = some bs[j] := List.getElem?_eq_getElem hj
      obtain ⟨vs, hr, hcell⟩ := hc j _ hz
      rw [rep_str] at hr
      subst hr
      have := hcell 0 _ rfl
      rw [show bs.getD j ByteArray.empty = bs[j] from by rw [List.getD_eq_getElem?_getD, hz]; rfl]
      simpa [kStr] using this
    · rintro e w' ⟨v', rfl, ho, -, hb'⟩
      rw [List.take_length] at ho
      exact ⟨v', rfl, own_ofStrsQ ho, hb'⟩
  · obtain rfl : bs = [] := List.eq_nil_of_length_eq_zero (by omega)
    cases D with
    | none =>
      refine (Tryz.slices_Clone_string_nil 0 d w).mono ?_
      rintro e w' ⟨rfl, rfl⟩
      exact ⟨_, rfl, Own.nil, Below.refl _ _⟩
    | some a =>
      refine (Tryz.slices_Clone_string_zero a d w).mono ?_
      rintro e w' ⟨v', rfl, ho, -, hb'⟩
      exact ⟨v', rfl, own_ofStrsQ ho, hb'⟩
theorem ofS_take {l : List Req} {i : Nat} {x : Req} (s : ByteArray) (hx : l[i]? = some x) : ofS s (l.take (i + 1)) = if x.1 = s then ofS s (l.take i) ++ [x] else ofS s (l.take i) := by
  unfold ofS
  rw [List.take_add_one, hx]
  by_cases e : x.1 = s
  · simp [e]
  · simp [e]
theorem ofS_len (s : ByteArray) (l : List Req) : (ofS s l).length ≤ l.length := List.length_filter_le _ _
set_option maxHeartbeats 4000000 in
theorem wantQ_walk (A : Option Addr) (l : List Req) (c : Nat) (st : ByteArray) (w : World) (hn : l.length ≤ 1000000000) (hm : ∀ x ∈ l, x.2.2.2.length ≤ 1000000000) (h : At kReq AnyB w A l) :
    Calls Tryz.prog 20 #[.slice A l.length c, .string st] w fun e w' => ∃ v, e = .returned v ∧ Own kReq 61 [9] 0 w.heap.size w' v (wantV st l) ∧ Below w.heap.size w w' := by
  obtain ⟨N, hN⟩ : ∃ N, l.length = N := ⟨_, rfl⟩
  rw [hN] at hn ⊢
  replace hN := hide hN
  replace hm := hide hm
  go_enter Tryz.func20, Tryz.ntmps20
  go_wp2_with fail
  go_loopw [5, 10] (fun v u wr => ∃ i : Nat, i ≤ N ∧ u = .int .i64 i ∧ Own kReq 61 [9] 0 w.heap.size wr v (ofS st (l.take i)) ∧ Below w.heap.size w wr) (fun _ u _ => N - (intOf u).toNat)
  case atStart => exact ⟨0, Nat.zero_le _, rfl, Own.nil, Below.refl _ _⟩
  case round =>
    obtain ⟨i, hi, rfl, hown, hb⟩ := hrel
    by_cases hlt : i < N
    · obtain ⟨x0, hx0⟩ : ∃ x, l[i]? = some x := ⟨_, List.getElem?_eq_getElem (by rw [hN.out]; exact hlt)⟩
      obtain ⟨kb, off, F, c3, rfl, -, hkb, ⟨q0, q1, q2, q3⟩, l3, a3⟩ := (h.later hb).req hx0
      have hn3 := hm.out x0 (List.mem_of_getElem? hx0)
      have hnx := ofS_take st hx0
      have hol : (ofS st (l.take i)).length ≤ 4000000000 := by
        refine Nat.le_trans (ofS_len _ _) ?_
        rw [List.length_take, hN.out]
        omega
      obtain ⟨out, hout⟩ : ∃ out, ofS st (l.take i) = out := ⟨_, rfl⟩
      rw [hout] at hown hnx hol
      obtain ⟨z, co, m, ts⟩ := x0
      dsimp only at q0 q1 q2 q3 l3 a3 hn3 hnx
      have heq := toList_eqD z st
      obtain ⟨nt, hnt⟩ : ∃ nt, ts.length = nt := ⟨_, rfl⟩
      have hbn : Below wr.heap.size wr (wr.alloc (.cells #[.string z, .string co, .int .i64 m, .slice F nt c3] 61)) := ext_alloc (Below.refl _ _) _
      have hcl := clone_strsQ F ts c3 _ hn3 (a3.any.later hbn)
      rw [hnt] at q3 hcl
      have hj0 : (0 : Int) ≤ (i : Int) := by omega
      have hj1 : (i : Int) < (N : Int) := by omega
      by_cases hzs : z = st
      · rw [if_pos hzs] at hnx
        rw [decide_eq_true hzs] at heq
        have y0 : (wr.alloc (.cells #[.string z, .string co, .int .i64 m, .slice F nt c3] 61)).cell? ⟨wr.heap.size, 0, none⟩ = some (.string z) := by simp
        have y1 : (wr.alloc (.cells #[.string z, .string co, .int .i64 m, .slice F nt c3] 61)).cell? ⟨wr.heap.size, 1, none⟩ = some (.string co) := by simp
        have y2 : (wr.alloc (.cells #[.string z, .string co, .int .i64 m, .slice F nt c3] 61)).cell? ⟨wr.heap.size, 2, none⟩ = some (.int .i64 m) := by simp
        have y3 : (wr.alloc (.cells #[.string z, .string co, .int .i64 m, .slice F nt c3] 61)).cell? ⟨wr.heap.size, 3, none⟩ = some (.slice F nt c3) := by simp
        have yh : (wr.alloc (.cells #[.string z, .string co, .int .i64 m, .slice F nt c3] 61)).heap[wr.heap.size]? = some (.cells #[.string z, .string co, .int .i64 m, .slice F nt c3] 61 (0, 0)) := heap_alloc_new _ _
        have yf : (wr.alloc (.cells #[.string z, .string co, .int .i64 m, .slice F nt c3] 61)).frozen? ⟨wr.heap.size, 3, none⟩ = false := by simp
        have hown5 := hown.later hbn
        have hbw5 := ext_trans hb hbn
        have hux : ∀ y, u5.ownBlock = some y → y < wr.heap.size := fun y e => (hown.lt y e).2
        replace hnx := hide hnx
        clear hx0 hout hown a3 l3 hnt hzs
        go_upto_region 6 with fail
        clear q0 q1 q2 q3
        obtain ⟨x, hxx⟩ : ∃ x, wr.heap.size = x := ⟨_, rfl⟩
        obtain ⟨W5, hW5⟩ : ∃ W5, wr.alloc (.cells #[.string z, .string co, .int .i64 m, .slice F nt c3] 61) = W5 := ⟨_, rfl⟩
        have hxw : w.heap.size ≤ x := by rw [← hxx]; exact hb.size
        rw [hxx] at y0 y1 y2 y3 yh yf hux ⊢
        rw [hW5] at y0 y1 y2 y3 yh yf hcl hown5 hbw5 ⊢
        clear hbn hxx hW5
        have hxl := World.block_lt_of_cell? _ _ y0
        go_wp2_with fail
        refine hcl.mono ?_
        clear hcl
        rintro e w6 ⟨v6, rfl, ho6, hb6⟩
        obtain ⟨A6, c6, rfl⟩ := ho6.form
        have hx6 : x < w6.heap.size := Nat.lt_of_lt_of_le hxl hb6.size
        have p0 := cell_later hb6 y0
        have p1 := cell_later hb6 y1
        have p2 := cell_later hb6 y2
        have p3 := cell_later hb6 y3
        have ph := (hb6.block x hxl).trans yh
        have pf := (hb6.frozen (p := ⟨x, 3, none⟩) hxl).trans yf
        have hown6 := hown5.later hb6
        have hbw6 := ext_trans hbw5 hb6
        have z0 : (w6.setCell ⟨x, 3, none⟩ (.slice A6 ts.length c6)).cell? ⟨x, 0, none⟩ = some (.string z) := (World.cell?_setCell_other _ _ _ _ (by simp)).trans p0
        have z1 : (w6.setCell ⟨x, 3, none⟩ (.slice A6 ts.length c6)).cell? ⟨x, 1, none⟩ = some (.string co) := (World.cell?_setCell_other _ _ _ _ (by simp)).trans p1
        have z2 : (w6.setCell ⟨x, 3, none⟩ (.slice A6 ts.length c6)).cell? ⟨x, 2, none⟩ = some (.int .i64 m) := (World.cell?_setCell_other _ _ _ _ (by simp)).trans p2
        have z3 : (w6.setCell ⟨x, 3, none⟩ (.slice A6 ts.length c6)).cell? ⟨x, 3, none⟩ = some (.slice A6 ts.length c6) := World.cell?_setCell_same _ _ _ p3
        have hxo : Only x w6 (w6.setCell ⟨x, 3, none⟩ (.slice A6 ts.length c6)) := only_setCell (Only.refl x w6) (p := ⟨x, 3, none⟩) (Or.inl rfl) _
        have hrep6 := (ho6.noting hxo hxl).lower (C := w.heap.size) (by have := hbw5.size; omega)
        have hown7 := hown6.kept hxo (by
          cases hu : u5.ownBlock with
          | none => exact Or.inl rfl
          | some y => exact Or.inr fun e => by injection e with e; have := hux y hu; omega) (fun g e => ⟨Nat.zero_le _, by
            injection e with e
            subst e
            rintro ⟨-, cs, t', hc, ht⟩
            rw [ph] at hc
            injection hc with hc
            injection hc with _ hc _
            exact absurd (hc ▸ ht) (by decide)⟩)
        have hbw7 : Below w.heap.size w (w6.setCell ⟨x, 3, none⟩ (.slice A6 ts.length c6)) := hbw6.setCell (p := ⟨x, 3, none⟩) hxw _
        have hz7 : (w6.setCell ⟨x, 3, none⟩ (.slice A6 ts.length c6)).heap.size = w6.heap.size := World.size_setCell _ _ _
        obtain ⟨L, hL⟩ : ∃ L, ts.length = L := ⟨_, rfl⟩
        rw [hL] at z0 z1 z2 z3 hrep6 hown7 hbw7 hz7 ⊢
        have hrepr := Own.rep hrep6
        clear y0 y1 y2 y3 yh yf hown5 hbw5 ho6 hb6 hown6 hbw6 hxo ph
        go_upto_region 7 with fail
        obtain ⟨W7, hW7⟩ : ∃ W7, w6.setCell ⟨x, 3, none⟩ (.slice A6 L c6) = W7 := ⟨_, rfl⟩
        rw [hW7] at z0 z1 z2 z3 hrepr hown7 hbw7 hz7 ⊢
        have hx7 : x < W7.heap.size := by omega
        clear p0 p1 p2 p3 pf hW7 hrep6 hz7
        have hrq := req_rep (z := z) (co := co) (m := m) hrepr
        have hrq2 := kReq.kept hrq (w' := W7.alloc (.cells #[.string z, .string co, .int .i64 m, .slice A6 L c6] 61)) (S' := Ty [9] 0 w.heap.size (W7.alloc (.cells #[.string z, .string co, .int .i64 m, .slice A6 L c6] 61))) (fun b hs hlt => by
          have hbk : (W7.alloc (.cells #[.string z, .string co, .int .i64 m, .slice A6 L c6] 61)).heap[b]? = W7.heap[b]? := (ext_alloc (Below.refl _ _) _ : Below W7.heap.size W7 _).block b hlt
          refine ⟨?_, by rw [World.size_alloc]; omega, hbk⟩
          rcases hs with hs | ⟨hs, cs, t', hc, ht'⟩
          · exact .inl hs
          · exact .inr ⟨hs, cs, t', hbk.trans hc, ht'⟩)
        go_wp2_with (at_builtin; refine wpList_own rfl _ _ rfl apd_prios (by decide) rfl (hown7.alloc _) ?c1 (by decide) ⟨W7.heap.size, 0, none⟩ 1 rfl (z, co, m, ts) [.string z, .string co, .int .i64 m, .slice A6 L c6] hrq2 (World.news_of_block (cs := #[.string z, .string co, .int .i64 m, .slice A6 L c6]) (t := 61) (fr := (0, 0)) (heap_alloc_new _ _)) (by decide) (Nat.zero_le _) ?c2 ?_)
        case c1 => exact hol
        case c2 => rw [World.size_alloc]; have := hbw7.size; omega
        intro v8 w8 hown8 hg8
        have hb8 : Below w.heap.size w w8 := (hown7.alloc (.cells #[.string z, .string co, .int .i64 m, .slice A6 L c6] 61)).below_grown (ext_alloc hbw7 _) (Nat.le_refl _) hg8
        clear hown7 hg8 hrq hrq2 hrepr
        go_wp2
        go_roundw
        case rel => exact ⟨i + 1, by omega, by go_num, by rw [hnx.out]; exact hown8, hb8⟩
        case measure => first | (simp [intOf]; done) | (simp [intOf]; omega)
      · rw [if_neg hzs, ← hout] at hnx
        rw [decide_eq_false hzs] at heq
        have hown5 := hown.later hbn
        rw [← hout] at hown5
        replace hnx := hide hnx
        clear hx0 hown hcl a3 l3 hnt hzs hout
        go_wp2_with fail
        go_roundw
        case rel => exact ⟨i + 1, by omega, by go_num, by rw [hnx.out]; exact hown5, ext_trans hb hbn⟩
        case measure => first | (simp [intOf]; done) | (simp [intOf]; omega)
    · obtain rfl : i = N := by omega
      have hall : Hid (ofS st (l.take i) = ofS st l) := hide (by rw [← hN.out, List.take_length])
      rw [hall.out] at hown
      obtain ⟨A6, c6, rfl⟩ := hown.form
      have hlen : (ofS st l).length ≤ 1000000000 := Nat.le_trans (ofS_len _ _) (by rw [hN.out]; exact hn)
      have hsort := prios_walk [9] 0 w.heap.size A6 c6 (ofS st l) wr hlen (Nat.zero_le _) (by decide) hown
      unfold SortedQ at hsort
      have hfin : Hid (ascQ (ofS st l) = wantV st l) := hide rfl
      rw [hfin.out] at hsort
      obtain ⟨n, hn'⟩ : ∃ n, (ofS st l).length = n := ⟨_, rfl⟩
      have hlt2 : ∀ y, (Value.slice A6 (ofS st l).length c6).ownBlock = some y → w.heap.size ≤ y := fun y e => (hown.lt y e).1
      rw [hn'] at hsort hlt2 ⊢
      replace hlt2 := hide hlt2
      clear hown hall hfin hn' h hlen
      go_wp2_with fail
      refine hsort.mono ?_
      clear hsort
      rintro e w5 ⟨rfl, ho5, hg5⟩
      have hb5 : Below w.heap.size w w5 := Below.grown hb hg5 hb.size hlt2.out
      go_wp2
      go_ret
      exact ⟨_, rfl, ho5, hb5⟩
end Go.Proofs.YtpojkgfckepoeaaGreatDoor

namespace Go.Proofs.YtpojkgfckepoeaaGreatDoor
open Go.RowKit
set_option maxRecDepth 100000

def s1B : ByteArray := ⟨#[115, 49]⟩
def recs12 : List (List ByteArray) := [[s1B, ⟨#[65]⟩, ⟨#[50]⟩, ⟨#[]⟩], [s1B, ⟨#[66]⟩, ⟨#[49]⟩, ⟨#[67]⟩]]
def reqs12 : List Req := [(s1B, ⟨#[65]⟩, 2, []), (s1B, ⟨#[66]⟩, 1, [⟨#[67]⟩])]
theorem read12 : (readReq (plainR 1 recs12)).ls = reqs12 ∧ (readReq (plainR 1 recs12)).ps = [] := ⟨by kernel_rfl, by kernel_rfl⟩
theorem want12 : wantV s1B reqs12 = [(s1B, ⟨#[66]⟩, 1, [⟨#[67]⟩]), (s1B, ⟨#[65]⟩, 2, [])] := by kernel_rfl
theorem lists_four {U : World} {b1 b2 b3 : Nat} {t1 t2 t3 : TypeId} {a b c d a' b' c' d' : ByteArray} (h1 : U.heap[b1]? = some (.cells #[.string a, .string b, .string c, .string d] t1 (0, 0))) (h2 : U.heap[b2]? = some (.cells #[.string a', .string b', .string c', .string d'] t2 (0, 0))) (h3 : U.heap[b3]? = some (.cells #[.slice (some ⟨b1, 0, none⟩) 4 4, .slice (some ⟨b2, 0, none⟩) 4 4] t3 (0, 0))) : ListsIn U.heap.size U (some ⟨b3, 0, none⟩) [[a, b, c, d], [a', b', c', d']] := by
  intro _
  refine ⟨b3, 0, rfl, blk_lt h3, fun j x hx => ?_⟩
  have four : ∀ (g : Nat) (t : TypeId) (p q r s : ByteArray), U.heap[g]? = some (.cells #[.string p, .string q, .string r, .string s] t (0, 0)) → StrsIn U.heap.size U (some ⟨g, 0, none⟩) [p, q, r, s] := fun g t p q r s h _ => ⟨g, 0, rfl, blk_lt h, fun k z hz => by
    match k, hz with
    | 0, hz => simp at hz; subst hz; rw [cell_of_row U g _ _ _ _ h]; rfl
    | 1, hz => simp at hz; subst hz; rw [cell_of_row U g _ _ _ _ h]; rfl
    | 2, hz => simp at hz; subst hz; rw [cell_of_row U g _ _ _ _ h]; rfl
    | 3, hz => simp at hz; subst hz; rw [cell_of_row U g _ _ _ _ h]; rfl
    | k + 4, hz => simp at hz⟩
  match j, hx with
  | 0, hx =>
    simp at hx
    subst hx
    exact ⟨some ⟨b1, 0, none⟩, 4, by rw [cell_of_row U b3 _ _ _ _ h3]; rfl, four _ _ _ _ _ _ h1⟩
  | 1, hx =>
    simp at hx
    subst hx
    exact ⟨some ⟨b2, 0, none⟩, 4, by rw [cell_of_row U b3 _ _ _ _ h3]; rfl, four _ _ _ _ _ _ h2⟩
  | j + 2, hx => simp at hx
set_option maxHeartbeats 8000000 in
theorem awake12_walk (w : World) (hS : Std w) :
    Calls Tryz.prog 7 #[] w fun e w' => e = .returned (.bool true) ∧ Below w.heap.size w w' := by
  obtain ⟨u1, u2, u3⟩ := heap3c w (.cells #[.string ⟨#[115, 49]⟩, .string ⟨#[65]⟩, .string ⟨#[50]⟩, .string ⟨#[]⟩] 9) (.cells #[.string ⟨#[115, 49]⟩, .string ⟨#[66]⟩, .string ⟨#[49]⟩, .string ⟨#[67]⟩] 9) (.cells #[.slice (some ⟨w.heap.size, 0, none⟩) 4 4, .slice (some ⟨w.heap.size + 1, 0, none⟩) 4 4] 40)
  have hb0 : Below w.heap.size w (((w.alloc (.cells #[.string ⟨#[115, 49]⟩, .string ⟨#[65]⟩, .string ⟨#[50]⟩, .string ⟨#[]⟩] 9)).alloc (.cells #[.string ⟨#[115, 49]⟩, .string ⟨#[66]⟩, .string ⟨#[49]⟩, .string ⟨#[67]⟩] 9)).alloc (.cells #[.slice (some ⟨w.heap.size, 0, none⟩) 4 4, .slice (some ⟨w.heap.size + 1, 0, none⟩) 4 4] 40)) := (by repeat (first | exact Below.refl _ _ | refine ext_alloc ?_ _ | refine ext_drewN ?_ _ | refine ext_drew ?_ | refine ext_trans ?_ (by assumption)))
  obtain ⟨U, hU⟩ : ∃ U, ((w.alloc (.cells #[.string ⟨#[115, 49]⟩, .string ⟨#[65]⟩, .string ⟨#[50]⟩, .string ⟨#[]⟩] 9)).alloc (.cells #[.string ⟨#[115, 49]⟩, .string ⟨#[66]⟩, .string ⟨#[49]⟩, .string ⟨#[67]⟩] 9)).alloc (.cells #[.slice (some ⟨w.heap.size, 0, none⟩) 4 4, .slice (some ⟨w.heap.size + 1, 0, none⟩) 4 4] 40) = U := ⟨_, rfl⟩
  rw [hU] at u1 u2 u3 hb0
  have hpl := plain_walk (some ⟨w.heap.size + 2, 0, none⟩) recs12 2 U (lists_four u1 u2 u3) (by decide) (by decide)
  have hS0 := hS.after hb0
  replace hU := hide hU
  clear u1 u2 u3 hS
  go_enter Tryz.func7, Tryz.ntmps7
  go_wp2_with fail
  rw [hU.out]
  refine hpl.mono ?_
  clear hpl
  rintro e w1 ⟨v, rfl, hR, hb1⟩
  obtain ⟨A1, c1, rfl⟩ : ∃ A1 c1, v = .slice A1 2 c1 := by obtain ⟨us, -, h, -⟩ := hR; exact owns_form h
  have hR1 := recs_at hR
  have hread := qRead_walk A1 (plainR 1 recs12) c1 w1 (hS0.after hb1) hR1 (by decide) (by decide)
  replace hb0 := ext_trans hb0 hb1
  clear hR hR1 hb1 hS0 hU
  go_wp2_with fail
  refine hread.mono ?_
  clear hread
  rintro e w2 ⟨v6, v8, rfl, hL, hP, hb2⟩
  rw [read12.1] at hL
  rw [read12.2] at hP
  obtain ⟨A6, c6, rfl⟩ : ∃ A6 c6, v6 = .slice A6 2 c6 := hL.form
  obtain ⟨A8, c8, rfl⟩ : ∃ A8 c8, v8 = .slice A8 0 c8 := owns_form hP
  have hwant := wantQ_walk A6 reqs12 c6 s1B w2 (by decide) (by decide) hL.any'.any
  rw [want12] at hwant
  replace hb0 := ext_trans hb0 hb2
  clear hL hP hb2
  go_wp2_with fail
  refine hwant.mono ?_
  clear hwant
  rintro e w3 ⟨v3, rfl, hO, hb3⟩
  obtain ⟨A3, c3, rfl⟩ : ∃ A3 c3, v3 = .slice A3 2 c3 := hO.form
  obtain ⟨b, off, F, cF, rfl, -, hbl, ⟨-, k1, -, -⟩, -, -⟩ := hO.any'.req (j := 0) rfl
  dsimp only at k1
  rw [Nat.zero_mul, Nat.add_zero] at k1
  replace hb0 := ext_trans hb0 hb3
  clear hO hb3
  go_wp2_with fail
  go_ret
  exact ⟨rfl, hb0⟩
end Go.Proofs.YtpojkgfckepoeaaGreatDoor
