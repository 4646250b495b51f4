/- From a walk to a statement: what the listed variables give, and the step from 'the call returns true and lays new blocks at most' to the row. A variable that is a slice of strings: what it holds, and what keeps it. No condition. -/
import Derived.Test.YthejgholpkeldaaGreatDoorRows
import Derived.WalkKit
import Derived.WalkSpells
import Derived.WalkLawsBesides
import Derived.BigGuardPart
import Derived.Lib.Hide
import Derived.Laws.BitsAllLaws
import Derived.Laws.BitsLemmas
import Derived.Lib.LaidTab
import Derived.Test.YthejgholpkeldaaGreatDoorShelf
import Derived.Lib.ConvBytes
import Derived.Deep.QuietTactic
import Derived.BigQuiet
import Derived.Test.YthejgholpkeldaaGreatDoorCards
import Derived.Test.YthejgholpkeldaaGreatDoorTie
import Derived.ProofKit
import Derived.OpenShut
import Derived.LaidMore
import Derived.Lay
import Derived.SevenTiedAt
import Derived.Stop.Joined
import Derived.Stop.LaidErr
import Derived.Deep.DeepHandedRow
import Derived.Lib.LaidU8
import Derived.LaidSub
import Derived.Test.YthejgholpkeldaaGreatDoorZEnds
import Derived.Deep.Slices
import Derived.Test.YthejgholpkeldaaGreatDoorZSameL
namespace Go.Proofs.YthejgholpkeldaaGreatDoor
open Go.ChangeShapes Go.WideShapes Go.ChangeAt Go.RowKit
set_option maxRecDepth 100000

theorem own : ownKnob Tryz.prog.godebug = none := by kernel_rfl
theorem laidOut : laidOutB Tryz.prog = true := by kernel_rfl

/-- The post of a law, where of the world behind the call 'Below' is known. -/
theorem post_of_below {H : Type} {enc : TypeId × Value → H} {P : Program} {f : Func} {s : ChangeSpec} {apart fresh handsOn again : Bool} {W W' : World} {args : Array Value} {v : Value} {ds gs : List (DataW H)} {before pa pv : List MemPlace}
    (hW : DataW.Whole enc P f.params.toList s.vars apart W args.toList ds gs before)
    (hres : ∀ (b : Nat) (sp : Nat → Bool) (hd : Bool), DataW.TrodAll enc P W' b sp hd f.resultTypes.toList (v.resultList f.resultTypes.size) (s.fn H (ds ++ gs)).results [])
    (hargs : ∀ sp : Nat → Bool, (∀ p ∈ before, sp p.block = true) → DataW.TrodAll enc P W' 0 sp true f.params.toList args.toList (s.fn H (ds ++ gs)).args pa)
    (hvars : ∀ sp : Nat → Bool, (∀ p ∈ before, sp p.block = true) → DataW.TrodVars enc P W' sp s.vars (s.fn H (ds ++ gs)).vars pv)
    (hps : before = pa ++ pv) (hb : Below W.heap.size W W')
    (hok : ∀ (j : Nat) (t : TypeId) (r : Value), f.resultTypes[j]? = some t → (v.resultList f.resultTypes.size)[j]? = some r → Value.okWide P W' .any 0 t r) :
    s.post enc P f apart fresh handsOn again W args v W' := by
  have hlt : ∀ p ∈ before, p.block < W.heap.size := fun p hp => hW.lt p hp
  have hold : ∀ p ∈ before, (fun b => decide (b < W.heap.size)) p.block = true := fun p hp => by simpa using hlt p hp
  refine ⟨ds, gs, before, [], pa, pv, hW, hres _ _ _, hargs _ hold, hvars _ hold, World.keptBut_mono (fun p hp => ⟨hp, ?_⟩) (hb.frame (· ∈ before)), fun _ => ?_⟩
  · rw [hps, List.mem_append] at hp
    exact Or.inr hp
  · obtain ⟨_, _, _, _, _, hz, hn⟩ := hW
    refine ⟨hok, _, _, ([] ++ pa) ++ pv, ⟨[] ++ pa, pv, trodAll_append (hargs _ (fun _ _ => rfl)) (hres _ _ _), hvars _ (fun _ _ => rfl), rfl, ?_, ?_⟩, ?_⟩
    · intro b off hp
      have hin : MemPlace.cell b off ∈ before := by rw [hps]; simpa using hp
      rw [hb.frozen (hlt _ hin)]
      exact hz b off hin
    · intro ha
      have := hn ha
      rw [hps] at this
      simpa using this
    · intro p hp _
      rw [hps]
      simpa using hp

/-- Arguments that are not touched read as they did. -/
theorem trodAll_stays {H : Type} {enc : TypeId × Value → H} {W W' : World} {sp : Nat → Bool} (hb : Below W.heap.size W W') :
    ∀ (ts : List TypeId) (vs : List Value) (ds : List (DataW H)) (ps : List MemPlace), (∀ t ∈ ts, Tryz.prog.readableRec t = true ∧ t < Tryz.prog.types.size) → (∀ p ∈ ps, p.block < W.heap.size) → (∀ p ∈ ps, sp p.block = true) →
      DataW.TrodAll enc Tryz.prog W 0 (fun _ => true) true ts vs ds ps → DataW.TrodAll enc Tryz.prog W' 0 sp true ts vs ds ps
  | [], vs, ds, ps, _, _, _, h => by
    cases vs <;> cases ds <;> simp [DataW.TrodAll] at h ⊢
    exact h
  | t :: ts, vs, ds, ps, hr, hlt, hsp, h => by
    obtain ⟨v, vs', d, ds', p, q, rfl, rfl, rfl, h1, h2⟩ := trodAll_cons h
    have ht := hr t (by simp)
    exact ⟨p, q, WideElems.Trod_stays laidOut ht.1 ht.2 h1 (fun x hx => hb.same (hlt x (by simp [hx]))) (fun x hx => hsp x (by simp [hx])),
      trodAll_stays hb ts vs' ds' q (fun u hu => hr u (by simp [hu])) (fun x hx => hlt x (by simp [hx])) (fun x hx => hsp x (by simp [hx])) h2, rfl⟩


set_option maxRecDepth 100000 in
theorem law_lifted {k : FuncId} {fn : Func} {s : OpenSpec} {c : ChangeSpec} {F : Stop.Interp} {L : List (String × DataW Unit)} {H : Type} {enc : TypeId × Value → H} {os : Os} (started : os.Started)
    (hs : s.at F = c) (hvars : s.vars = []) (hcv : c.vars = []) (hni : Tryz.checked.prog.inits.idxOf? k = none) (hfn : Tryz.prog.funcs[k]? = some fn) (hres : fn.resultTypes = #[4])
    (hread : ∀ t ∈ fn.params.toList, Tryz.prog.readableRec t = true ∧ t < Tryz.prog.types.size)
    (hfun : ∀ ds : List (DataW H), ds.length = fn.params.size → (c.fn H ds).results = [.lit (.bool true)] ∧ (c.fn H ds).args = ds ∧ (c.fn H ds).vars = [])
    (witness : ∃ (w : World) (tape : Tape) (i : Input), w.os = os ∧ (w.forCall tape i).Shaped Tryz.checked.prog ∧ i.vars = [] ∧ Input.okWide Tryz.checked.prog (w.forCall tape i) .any w.heap.size k i ∧
      s.preRow enc Tryz.checked.prog fn [] false L (w.forCall tape i).memory i.args ∧ ({} : Assume).holds Tryz.checked.prog (lone (Frame.enter Tryz.checked.prog k i.args .normal) [] (w.forCall tape i)))
    (walk : ∀ (W : World) (base : Nat) (args : Array Value) (ds : List (DataW H)) (ps : List MemPlace), (∀ (j : Nat) t v, fn.params[j]? = some t → args[j]? = some v → Value.okWide Tryz.prog W .any base t v) →
      DataW.TrodAll enc Tryz.prog W 0 (fun _ => true) true fn.params.toList args.toList ds ps → (∀ p ∈ ps, p.block < W.heap.size) → (∀ q, s.cond = some q → q H ds = true) →
      laidMetH Tryz.prog L W → W.ShapedOpen Tryz.prog → Calls Tryz.prog k args W fun e W' => e = .returned (.bool true) ∧ Below W.heap.size W W') :
    ReturnsInHanded {} Tryz.checked os k .any (s.preRow enc Tryz.prog fn [] false L) ((s.at F).post enc Tryz.prog fn false true false false) := by
  refine returnsInHanded_of_row (C := Tryz.checked) (s := s) own started hni hfn witness ?_
  intro W base args ds gs before hval hW _ hcond _ hL hsh _
  have hW' := hW
  obtain ⟨p, q, hA0, hV, rfl, hfz, hnd⟩ := hW
  have hA : DataW.TrodAll enc Tryz.prog W 0 (fun _ => true) true fn.params.toList args.toList ds p := hA0
  rw [hvars] at hV
  obtain ⟨rfl, rfl⟩ := trodVars_none hV
  have hlt : ∀ x ∈ p, x.block < W.heap.size := fun x hx => hW'.lt x (by simp [hx])
  have hlen : ds.length = fn.params.size := by
    have : ∀ (ts : List TypeId) (vs : List Value) (es : List (DataW H)) (ps : List MemPlace), DataW.TrodAll enc Tryz.prog W 0 (fun _ => true) true ts vs es ps → es.length = ts.length := by
      intro ts
      induction ts with
      | nil => intro vs es ps h; cases vs <;> cases es <;> simp [DataW.TrodAll] at h ⊢
      | cons t ts ih =>
        intro vs es ps h
        obtain ⟨v, vs', d, ds', p', q', rfl, rfl, rfl, _, h2⟩ := trodAll_cons h
        simp [ih _ _ _ h2]
    have := this _ _ _ _ hA
    simpa using this
  obtain ⟨f1, f2, f3⟩ := hfun ds hlen
  refine (walk W base args ds p hval hA hlt (fun q hq => by have := hcond q hq; simpa using this) hL hsh).mono fun e W' ⟨he, hb⟩ => ?_
  subst he
  refine ⟨_, rfl, ?_⟩
  rw [hs]
  refine post_of_below (pa := p) (pv := []) (gs := []) (ds := ds) (before := p ++ []) (by rw [hcv]; rw [hvars] at hW'; exact hW') ?_ ?_ ?_ rfl hb ?_
  · intro b sp hd
    rw [List.append_nil, f1, hres]
    exact trodAll_mk1 (shut_bool Tryz.underlying4 _)
  · intro sp hsp
    rw [List.append_nil, f2]
    exact trodAll_stays hb _ _ _ _ hread hlt (fun x hx => hsp x (by simp [hx])) hA
  · intro sp hsp
    rw [List.append_nil, f3, hcv]
    rfl
  · exact ok_one hres rfl (okWide_bool_mk Tryz.underlying4 _)

/-- What the walks want of the world, out of the row's list and the world's shape. -/
theorem std_of {L : List (String × DataW Unit)} {W : World} (hL : laidMetH Tryz.prog L W) (hsh : W.ShapedOpen Tryz.prog) (hplain : (L.all fun x => x.2.handleName?.isNone) = true)
    (hp : (L.filter fun x => x.1 == "internal/strconv.uint64pow10") = [("internal/strconv.uint64pow10", Rows.laid_internal_strconv_uint64pow10)])
    (he : (L.filter fun x => x.1 == "strconv.ErrSyntax") = [("strconv.ErrSyntax", Rows.laid_strconv_ErrSyntax)])
    (hr : (L.filter fun x => x.1 == "strconv.ErrRange") = [("strconv.ErrRange", Rows.laid_strconv_ErrRange)]) : Std W := by
  rw [MakeChecks.laidMetH_plain _ _ _ hplain] at hL
  -- function 127
  have hmax := Tryz.laysM145.s1_3 W hsh
  have h10 := laidMet.filter (fun x => x.1 == "internal/strconv.uint64pow10") hL
  rw [hp] at h10
  have hes := laidMet.filter (fun x => x.1 == "strconv.ErrSyntax") hL
  rw [he] at hes
  have her := laidMet.filter (fun x => x.1 == "strconv.ErrRange") hL
  rw [hr] at her
  have hrow : ∀ u, Tryz.prog.typeName? 3 u = some "*errors.errorString" → u = 240 := fun u hu =>
    typeName_ptr_named (P := Tryz.prog) (nm := "errors.errorString") (by kernel_rfl) (by kernel_rfl) (by decide) u hu
  have hpow : Lib.TabIs Tryz.prog W "internal/strconv.uint64pow10" .u64 Lib.pow10Tab :=
    Lib.tabIs_of_head (rest := []) (g := 1) (t := 187) (e := 145) (n := 20) (by kernel_rfl) (by kernel_rfl) Tryz.underlying187 Tryz.underlying145 (by kernel_rfl) (by kernel_rfl) h10
  obtain ⟨a1, s1, hv1, -, -, -⟩ := laid_sentinel (P := Tryz.prog) (g := 5) (ti := 162) hes (by kernel_rfl) (by kernel_rfl) Tryz.underlying162 hrow Tryz.underlying240 Tryz.underlying242 rfl rfl Tryz.underlying9 (by kernel_rfl) (by kernel_rfl)
  obtain ⟨a2, s2, hv2, -, -, -⟩ := laid_sentinel (P := Tryz.prog) (g := 6) (ti := 162) her (by kernel_rfl) (by kernel_rfl) Tryz.underlying162 hrow Tryz.underlying240 Tryz.underlying242 rfl rfl Tryz.underlying9 (by kernel_rfl) (by kernel_rfl)
  have hg1 : Tryz.prog.globalNamed "strconv.ErrSyntax" = some 5 := by kernel_rfl
  have hg2 : Tryz.prog.globalNamed "strconv.ErrRange" = some 6 := by kernel_rfl
  have hbig : 9 ≤ W.heap.size := by
    obtain ⟨o, o₀, ho, -, -⟩ := hsh.2 9 (Nat.le_of_eq (by kernel_rfl)) (of_decide_eq_true (by kernel_rfl))
    have := (Array.getElem?_eq_some_iff.1 ho).1
    omega
  exact { big := hbig, maxLen := hmax, pow10 := hpow, errSyntax := ⟨_, _, World.var?_cell hg1 hv1 0⟩, errRange := ⟨_, _, World.var?_cell hg2 hv2 0⟩ }

/-- A slice of numbers that came in. -/
theorem open_ints_any {H : Type} {enc : TypeId × Value → H} {W : World} {base : Nat} {v : Value} {d : DataW H} {ps : List MemPlace} (hval : Value.okWide Tryz.prog W .any base 22 v)
    (hd : DataW.Trod enc Tryz.prog W 0 (fun _ => true) true 22 v d ps) :
    ∃ A n c, v = .slice A n c ∧ (0 < n → ∃ b off, A = some ⟨b, off, none⟩ ∧ ∀ j, j < n → ∃ x : Int, W.cell? ⟨b, off + j, none⟩ = some (.int .i64 x)) := by
  obtain ⟨a0, len, cap, rfl⟩ := okWide_slice Tryz.underlying22 hval
  obtain ⟨fuel, hf⟩ := hd
  have hc1 : Tryz.prog.cellsOf 3 = 1 := by kernel_rfl
  refine ⟨a0, len, cap, rfl, fun hn => ?_⟩
  rcases open_ints Tryz.underlying22 Tryz.underlying3 hc1 hf with ⟨hcs, hx⟩ | ⟨a, len', cap', zs, hcs, _, hl, hm, hz, hx, hcell, hwz⟩
  · simp [Value.cells] at hcs
    omega
  · simp [Value.cells] at hcs
    obtain ⟨rfl, rfl, rfl⟩ := hcs
    simp only [if_true] at hz
    obtain ⟨b, off, spot⟩ := a
    have hspot : spot = none := by simpa [Addr.add] using World.cell?_spot (hcell 0 (by omega))
    subst hspot
    exact ⟨b, off, rfl, fun j hj => ⟨_, by rw [← add_plain]; exact hcell j (by omega)⟩⟩
end Go.Proofs.YthejgholpkeldaaGreatDoor

namespace Go.Proofs.YthejgholpkeldaaGreatDoor
open Go.ChangeShapes Go.WideShapes Go.Deep Go.RowKit
set_option maxRecDepth 100000

/-- Variable g is a slice of these strings, in blocks below B. -/
def StrsVar (B g : Nat) (zs : List ByteArray) (W : World) : Prop :=
  ∃ b off c, W.cell? ⟨g, 0, none⟩ = some (.slice (some ⟨b, off, none⟩) zs.length c) ∧ b < B ∧ g < B ∧ ∀ j z, zs[j]? = some z → W.cell? ⟨b, off + j, none⟩ = some (.string z)
theorem StrsVar.below {B g : Nat} {zs : List ByteArray} {W W' : World} (h : StrsVar B g zs W) (hb : Below B W W') : StrsVar B g zs W' := by
  obtain ⟨b, off, c, h1, h2, h3, h4⟩ := h
  exact ⟨b, off, c, (hb.cell (p := ⟨g, 0, none⟩) h3).trans h1, h2, h3, fun j z hz => (hb.cell (p := ⟨b, off + j, none⟩) h2).trans (h4 j z hz)⟩
theorem bytes_inj {x y : ByteArray} (h : x.data.toList = y.data.toList) : x = y := by
  cases x; cases y
  simp only [ByteArray.mk.injEq]
  exact Array.toList_inj.1 h
theorem strsVar_of_head {P : Program} {W : World} {name : String} {zs : List ByteArray} {rest : List (String × DataW Unit)} {g : Nat} {t e : TypeId} (hz : zs ≠ [])
    (hg : P.globalNamed name = some g) (hty : (P.globals[g]?).map (·.type) = some t) (ht : P.underlying t = some (.slice e)) (he : P.underlying e = some .string) (hce : P.cellsOf e = 1)
    (h : laidMet P ((name, .slice (zs.map fun z => .lit (.string z.data.toList)) []) :: rest) W) : StrsVar W.heap.size g zs W := by
  obtain ⟨ps, ⟨g', t', cs, fuel, p, q, hg', ht', hvar, hd, _, _⟩, _⟩ := h
  obtain rfl := Option.some.inj (hg.symm.trans hg')
  obtain rfl := Option.some.inj (hty.symm.trans ht')
  unfold World.var? at hvar
  rw [hg, Option.bind_some] at hvar
  split at hvar
  · rename_i c t' r ho
    obtain rfl := Option.some.inj hvar
    rcases open_slice1 ht hce hd with ⟨-, hx⟩ | ⟨a, len, cap, m, n, V, D, Pl, hcs, -, hl, -, hmm, hx, hcell⟩
    · simp at hx
    · simp only [Prod.mk.injEq, DataW.slice.injEq] at hx
      obtain ⟨⟨hx1, -⟩, -⟩ := hx
      have hlen : zs.length = len := by have := congrArg List.length hx1; simpa using this
      have hlm : len ≤ m := by rw [hmm]; split <;> omega
      have hz0 : 0 < len := by rw [← hlen]; exact List.length_pos_iff.2 hz
      obtain ⟨b, off, spot⟩ := a
      have hspot : spot = none := by simpa [Addr.add] using World.cell?_spot (hcell 0 (by omega)).1
      subst hspot
      have hall : ∀ j z, zs[j]? = some z → W.cell? ⟨b, off + j, none⟩ = some (.string z) := by
        intro j z hj
        have hjl : j < len := by rw [← hlen]; exact (List.getElem?_eq_some_iff.1 hj).1
        obtain ⟨hc, htr⟩ := hcell j (by omega)
        obtain ⟨s, hs, hd2, -⟩ := DataW.trod_string he htr
        simp only [Prod.mk.injEq] at hd2
        have hDj : D j = .lit (.string z.data.toList) := by
          have := congrArg (·[j]?) hx1
          simp only [List.getElem?_map, hj, List.getElem?_range hjl, Option.map_some, Option.some.injEq] at this
          exact this.symm
        rw [hDj] at hd2
        obtain ⟨hd2, -⟩ := hd2
        injection hd2 with hd3
        injection hd3 with hd4
        obtain rfl := bytes_inj hd4
        simp only [List.cons.injEq, and_true] at hs
        rw [hs] at hc
        rw [add_plain] at hc
        exact hc
      refine ⟨b, off, cap, ?_, ?_, (Array.getElem?_eq_some_iff.1 ho).1, hall⟩
      · rw [cell_of_row _ _ _ _ _ _ ho, hlen]
        have : c[0]? = c.toList[0]? := by simp
        rw [this, hcs]; rfl
      · exact World.block_lt_of_cell? _ _ (hall 0 _ (List.getElem?_eq_getElem (List.length_pos_iff.2 hz)))
  · cases hvar
end Go.Proofs.YthejgholpkeldaaGreatDoor
