/- From a walk to a statement: what the listed variables give, and the step from 'the call returns true and lays new blocks at most' to the row. The argument []api.Record opened to cells, where its bulk is bounded. -/
import Derived.Test.YtimcdikeajbabaaGreatDoorRows
import Derived.WalkKit
import Derived.WalkSpells
import Derived.WalkLawsBesides
import Derived.BigGuardPart
import Derived.Lib.Hide
import Derived.Laws.BitsAllLaws
import Derived.Laws.BitsLemmas
import Derived.Lib.LaidTab
import Derived.Test.YtimcdikeajbabaaGreatDoorShelf
import Derived.Lib.ConvBytes
import Derived.Deep.QuietTactic
import Derived.BigQuiet
import Derived.Test.YtimcdikeajbabaaGreatDoorCards
import Derived.Test.YtimcdikeajbabaaGreatDoorTie
import Derived.ProofKit
import Derived.OpenShut
import Derived.LaidMore
import Derived.Lay
import Derived.SevenTiedAt
import Derived.Stop.Joined
import Derived.Stop.LaidErr
import Derived.Deep.DeepHandedRow
import Derived.Lib.LaidU8
import Derived.LaidSub
import Derived.Test.YtimcdikeajbabaaGreatDoorZEnds
import Derived.Laws.ResultCell
import Derived.RegionTactic
import Derived.BigRegion
import Derived.Deep.RegionHeld3
import Derived.Deep.DeepCutAuto
import Derived.Lib.SmallJoins
import Derived.Lib.SplitLaws
import Derived.Lib.CountLaws
import Derived.Lib.IndexMore
import Derived.Lib.Split
import Derived.Lib.Join
import Derived.Lib.ItoaNum
import Derived.Laws.AppendOwn
import Derived.Deep.AppendLies
import Derived.Deep.Slices
import Derived.Deep.Fields
import Derived.ChangeSame
import Derived.Test.YtimcdikeajbabaaGreatDoorZStaffB
namespace Go.Proofs.YtimcdikeajbabaaGreatDoor
open Go.ChangeShapes Go.WideShapes Go.ChangeAt Go.RowKit
set_option maxRecDepth 100000

theorem own : ownKnob Tryz.prog.godebug = none := by kernel_rfl
theorem laidOut : laidOutB Tryz.prog = true := by kernel_rfl

/-- The post of a law, where of the world behind the call 'Below' is known. -/
theorem post_of_below {H : Type} {enc : TypeId × Value → H} {P : Program} {f : Func} {s : ChangeSpec} {apart fresh handsOn again : Bool} {W W' : World} {args : Array Value} {v : Value} {ds gs : List (DataW H)} {before pa pv : List MemPlace}
    (hW : DataW.Whole enc P f.params.toList s.vars apart W args.toList ds gs before)
    (hres : ∀ (b : Nat) (sp : Nat → Bool) (hd : Bool), DataW.TrodAll enc P W' b sp hd f.resultTypes.toList (v.resultList f.resultTypes.size) (s.fn H (ds ++ gs)).results [])
    (hargs : ∀ sp : Nat → Bool, (∀ p ∈ before, sp p.block = true) → DataW.TrodAll enc P W' 0 sp true f.params.toList args.toList (s.fn H (ds ++ gs)).args pa)
    (hvars : ∀ sp : Nat → Bool, (∀ p ∈ before, sp p.block = true) → DataW.TrodVars enc P W' sp s.vars (s.fn H (ds ++ gs)).vars pv)
    (hps : before = pa ++ pv) (hb : Below W.heap.size W W')
    (hok : ∀ (j : Nat) (t : TypeId) (r : Value), f.resultTypes[j]? = some t → (v.resultList f.resultTypes.size)[j]? = some r → Value.okWide P W' .any 0 t r) :
    s.post enc P f apart fresh handsOn again W args v W' := by
  have hlt : ∀ p ∈ before, p.block < W.heap.size := fun p hp => hW.lt p hp
  have hold : ∀ p ∈ before, (fun b => decide (b < W.heap.size)) p.block = true := fun p hp => by simpa using hlt p hp
  refine ⟨ds, gs, before, [], pa, pv, hW, hres _ _ _, hargs _ hold, hvars _ hold, World.keptBut_mono (fun p hp => ⟨hp, ?_⟩) (hb.frame (· ∈ before)), fun _ => ?_⟩
  · rw [hps, List.mem_append] at hp
    exact Or.inr hp
  · obtain ⟨_, _, _, _, _, hz, hn⟩ := hW
    refine ⟨hok, _, _, ([] ++ pa) ++ pv, ⟨[] ++ pa, pv, trodAll_append (hargs _ (fun _ _ => rfl)) (hres _ _ _), hvars _ (fun _ _ => rfl), rfl, ?_, ?_⟩, ?_⟩
    · intro b off hp
      have hin : MemPlace.cell b off ∈ before := by rw [hps]; simpa using hp
      rw [hb.frozen (hlt _ hin)]
      exact hz b off hin
    · intro ha
      have := hn ha
      rw [hps] at this
      simpa using this
    · intro p hp _
      rw [hps]
      simpa using hp

/-- Arguments that are not touched read as they did. -/
theorem trodAll_stays {H : Type} {enc : TypeId × Value → H} {W W' : World} {sp : Nat → Bool} (hb : Below W.heap.size W W') :
    ∀ (ts : List TypeId) (vs : List Value) (ds : List (DataW H)) (ps : List MemPlace), (∀ t ∈ ts, Tryz.prog.readableRec t = true ∧ t < Tryz.prog.types.size) → (∀ p ∈ ps, p.block < W.heap.size) → (∀ p ∈ ps, sp p.block = true) →
      DataW.TrodAll enc Tryz.prog W 0 (fun _ => true) true ts vs ds ps → DataW.TrodAll enc Tryz.prog W' 0 sp true ts vs ds ps
  | [], vs, ds, ps, _, _, _, h => by
    cases vs <;> cases ds <;> simp [DataW.TrodAll] at h ⊢
    exact h
  | t :: ts, vs, ds, ps, hr, hlt, hsp, h => by
    obtain ⟨v, vs', d, ds', p, q, rfl, rfl, rfl, h1, h2⟩ := trodAll_cons h
    have ht := hr t (by simp)
    exact ⟨p, q, WideElems.Trod_stays laidOut ht.1 ht.2 h1 (fun x hx => hb.same (hlt x (by simp [hx]))) (fun x hx => hsp x (by simp [hx])),
      trodAll_stays hb ts vs' ds' q (fun u hu => hr u (by simp [hu])) (fun x hx => hlt x (by simp [hx])) (fun x hx => hsp x (by simp [hx])) h2, rfl⟩


set_option maxRecDepth 100000 in
theorem law_lifted {k : FuncId} {fn : Func} {s : OpenSpec} {c : ChangeSpec} {F : Stop.Interp} {L : List (String × DataW Unit)} {H : Type} {enc : TypeId × Value → H} {os : Os} (started : os.Started)
    (hs : s.at F = c) (hvars : s.vars = []) (hcv : c.vars = []) (hni : Tryz.checked.prog.inits.idxOf? k = none) (hfn : Tryz.prog.funcs[k]? = some fn) (hres : fn.resultTypes = #[4])
    (hread : ∀ t ∈ fn.params.toList, Tryz.prog.readableRec t = true ∧ t < Tryz.prog.types.size)
    (hfun : ∀ ds : List (DataW H), ds.length = fn.params.size → (c.fn H ds).results = [.lit (.bool true)] ∧ (c.fn H ds).args = ds ∧ (c.fn H ds).vars = [])
    (witness : ∃ (w : World) (tape : Tape) (i : Input), w.os = os ∧ (w.forCall tape i).Shaped Tryz.checked.prog ∧ i.vars = [] ∧ Input.okWide Tryz.checked.prog (w.forCall tape i) .any w.heap.size k i ∧
      s.preRow enc Tryz.checked.prog fn [] false L (w.forCall tape i).memory i.args ∧ ({} : Assume).holds Tryz.checked.prog (lone (Frame.enter Tryz.checked.prog k i.args .normal) [] (w.forCall tape i)))
    (walk : ∀ (W : World) (base : Nat) (args : Array Value) (ds : List (DataW H)) (ps : List MemPlace), (∀ (j : Nat) t v, fn.params[j]? = some t → args[j]? = some v → Value.okWide Tryz.prog W .any base t v) →
      DataW.TrodAll enc Tryz.prog W 0 (fun _ => true) true fn.params.toList args.toList ds ps → (∀ p ∈ ps, p.block < W.heap.size) → (∀ q, s.cond = some q → q H ds = true) →
      laidMetH Tryz.prog L W → W.ShapedOpen Tryz.prog → Calls Tryz.prog k args W fun e W' => e = .returned (.bool true) ∧ Below W.heap.size W W') :
    ReturnsInHanded {} Tryz.checked os k .any (s.preRow enc Tryz.prog fn [] false L) ((s.at F).post enc Tryz.prog fn false true false false) := by
  refine returnsInHanded_of_row (C := Tryz.checked) (s := s) own started hni hfn witness ?_
  intro W base args ds gs before hval hW _ hcond _ hL hsh _
  have hW' := hW
  obtain ⟨p, q, hA0, hV, rfl, hfz, hnd⟩ := hW
  have hA : DataW.TrodAll enc Tryz.prog W 0 (fun _ => true) true fn.params.toList args.toList ds p := hA0
  rw [hvars] at hV
  obtain ⟨rfl, rfl⟩ := trodVars_none hV
  have hlt : ∀ x ∈ p, x.block < W.heap.size := fun x hx => hW'.lt x (by simp [hx])
  have hlen : ds.length = fn.params.size := by
    have : ∀ (ts : List TypeId) (vs : List Value) (es : List (DataW H)) (ps : List MemPlace), DataW.TrodAll enc Tryz.prog W 0 (fun _ => true) true ts vs es ps → es.length = ts.length := by
      intro ts
      induction ts with
      | nil => intro vs es ps h; cases vs <;> cases es <;> simp [DataW.TrodAll] at h ⊢
      | cons t ts ih =>
        intro vs es ps h
        obtain ⟨v, vs', d, ds', p', q', rfl, rfl, rfl, _, h2⟩ := trodAll_cons h
        simp [ih _ _ _ h2]
    have := this _ _ _ _ hA
    simpa using this
  obtain ⟨f1, f2, f3⟩ := hfun ds hlen
  refine (walk W base args ds p hval hA hlt (fun q hq => by have := hcond q hq; simpa using this) hL hsh).mono fun e W' ⟨he, hb⟩ => ?_
  subst he
  refine ⟨_, rfl, ?_⟩
  rw [hs]
  refine post_of_below (pa := p) (pv := []) (gs := []) (ds := ds) (before := p ++ []) (by rw [hcv]; rw [hvars] at hW'; exact hW') ?_ ?_ ?_ rfl hb ?_
  · intro b sp hd
    rw [List.append_nil, f1, hres]
    exact trodAll_mk1 (shut_bool Tryz.underlying4 _)
  · intro sp hsp
    rw [List.append_nil, f2]
    exact trodAll_stays hb _ _ _ _ hread hlt (fun x hx => hsp x (by simp [hx])) hA
  · intro sp hsp
    rw [List.append_nil, f3, hcv]
    rfl
  · exact ok_one hres rfl (okWide_bool_mk Tryz.underlying4 _)

/-- An aggregate whose cells are all of type int. -/
theorem agg_ints {W : World} {t : TypeId} {v : Value} {n : Nat} (hv : Value.okWide Tryz.prog W .any 0 t v ∨ ∃ b, Value.okWide Tryz.prog W .any b t v)
    (hk : (∃ fs, Tryz.prog.underlying t = some (.struct fs)) ∨ ∃ m e, Tryz.prog.underlying t = some (.array m e)) (hn : Tryz.prog.cellsOf t = n) (hc : Tryz.prog.cellTypes Tryz.prog.depth t = some (List.replicate n 3)) :
    ∃ xs : List Int, xs.length = n ∧ v = .agg (xs.map (Value.int .i64)).toArray := by
  have hv' : ∃ b, Value.okWide Tryz.prog W .any b t v := hv.elim (fun h => ⟨0, h⟩) id
  obtain ⟨b, hv⟩ := hv'
  have : ∃ cs, v = .agg cs ∧ cs.size = Tryz.prog.cellsOf t ∧ Row.okWide Tryz.prog W .any b t cs := by
    rcases hk with ⟨fs, h⟩ | ⟨m, e, h⟩ <;> simpa only [Value.okWide, h] using hv
  obtain ⟨cs, rfl, hsz, ts, hts, -, hcell⟩ := this
  rw [hc] at hts
  obtain rfl := Option.some.inj hts
  have hall : ∀ i (hi : i < cs.size), ∃ x : Int, cs[i] = .int .i64 x := by
    intro i hi
    obtain ⟨u, hu, hok⟩ := hcell i cs[i] (Array.getElem?_eq_getElem hi)
    have hu' : u = 3 := by
      rw [List.getElem?_replicate] at hu
      split at hu
      · exact (Option.some.inj hu).symm
      · cases hu
    subst hu'
    have hint : Value.okWide Tryz.prog W .any b 3 cs[i] := by
      simp only [Value.okWide, Tryz.underlying3]; exact hok
    exact okWide_int Tryz.underlying3 hint
  refine ⟨cs.toList.map intOf, by simp [hsz, hn], ?_⟩
  congr 1
  apply Array.ext
  · simp
  · intro i h1 h2
    obtain ⟨x, hx⟩ := hall i h1
    simp [hx, intOf]
/-- What the walks want of the world, out of the row's list and the world's shape. -/
theorem std_of {L : List (String × DataW Unit)} {W : World} (hL : laidMetH Tryz.prog L W) (hsh : W.ShapedOpen Tryz.prog) (hplain : (L.all fun x => x.2.handleName?.isNone) = true)
    (hp : (L.filter fun x => x.1 == "internal/strconv.uint64pow10") = [("internal/strconv.uint64pow10", Rows.laid_internal_strconv_uint64pow10)])
    (he : (L.filter fun x => x.1 == "strconv.ErrSyntax") = [("strconv.ErrSyntax", Rows.laid_strconv_ErrSyntax)])
    (hr : (L.filter fun x => x.1 == "strconv.ErrRange") = [("strconv.ErrRange", Rows.laid_strconv_ErrRange)]) : Std W := by
  rw [MakeChecks.laidMetH_plain _ _ _ hplain] at hL
  -- function 103
  have hmax := Tryz.laysM145.s1_3 W hsh
  have h10 := laidMet.filter (fun x => x.1 == "internal/strconv.uint64pow10") hL
  rw [hp] at h10
  have hes := laidMet.filter (fun x => x.1 == "strconv.ErrSyntax") hL
  rw [he] at hes
  have her := laidMet.filter (fun x => x.1 == "strconv.ErrRange") hL
  rw [hr] at her
  have hrow : ∀ u, Tryz.prog.typeName? 3 u = some "*errors.errorString" → u = 279 := fun u hu =>
    typeName_ptr_named (P := Tryz.prog) (nm := "errors.errorString") (by kernel_rfl) (by kernel_rfl) (by decide) u hu
  have hpow : Lib.TabIs Tryz.prog W "internal/strconv.uint64pow10" .u64 Lib.pow10Tab :=
    Lib.tabIs_of_head (rest := []) (g := 4) (t := 229) (e := 193) (n := 20) (by kernel_rfl) (by kernel_rfl) Tryz.underlying229 Tryz.underlying193 (by kernel_rfl) (by kernel_rfl) h10
  obtain ⟨a1, s1, hv1, -, -, -⟩ := laid_sentinel (P := Tryz.prog) (g := 6) (ti := 129) hes (by kernel_rfl) (by kernel_rfl) Tryz.underlying129 hrow Tryz.underlying279 Tryz.underlying281 rfl rfl Tryz.underlying9 (by kernel_rfl) (by kernel_rfl)
  obtain ⟨a2, s2, hv2, -, -, -⟩ := laid_sentinel (P := Tryz.prog) (g := 7) (ti := 129) her (by kernel_rfl) (by kernel_rfl) Tryz.underlying129 hrow Tryz.underlying279 Tryz.underlying281 rfl rfl Tryz.underlying9 (by kernel_rfl) (by kernel_rfl)
  have hg1 : Tryz.prog.globalNamed "strconv.ErrSyntax" = some 6 := by kernel_rfl
  have hg2 : Tryz.prog.globalNamed "strconv.ErrRange" = some 7 := by kernel_rfl
  have hbig : 12 ≤ W.heap.size := by
    obtain ⟨o, o₀, ho, -, -⟩ := hsh.2 12 (Nat.le_of_eq (by kernel_rfl)) (of_decide_eq_true (by kernel_rfl))
    have := (Array.getElem?_eq_some_iff.1 ho).1
    omega
  exact { big := hbig, maxLen := hmax, pow10 := hpow, errSyntax := ⟨_, _, World.var?_cell hg1 hv1 0⟩, errRange := ⟨_, _, World.var?_cell hg2 hv2 0⟩ }

/-- An array of strings that reads as a list of texts holds these. -/
theorem cells_of_strs {H : Type} {enc : TypeId × Value → H} {P : Program} {w : World} {base : Nat} {sp : Nat → Bool} {held : Bool} {fuel : Nat} {t e : TypeId} {n : Nat} {cs : List Value} {zs : List ByteArray} {p : List MemPlace}
    (ht : P.underlying t = some (.array n e)) (he : P.underlying e = some .string) (hce : P.cellsOf e = 1) (hct : P.cellsOf t = n)
    (h : DataW.trod enc P w base sp held fuel t cs = some (.agg (zs.map fun z => .lit (.string z.data.toList)), p)) : cs = zs.map Value.string := by
  cases fuel with
  | zero => simp [DataW.trod] at h
  | succ fuel =>
    simp only [DataW.trod, ht, hce, hct, Nat.mul_one] at h
    split at h
    · rename_i hl
      obtain ⟨xs, hm, hx⟩ := Option.map_eq_some_iff.1 h
      have hxs : xs.map (·.1) = zs.map fun z => (DataW.lit (.string z.data.toList) : DataW H) := by
        have := congrArg Prod.fst hx
        simpa using this
      have hxl : xs.length = n := by simpa using Lib.mapM_length hm
      have hzl : zs.length = n := by
        have := congrArg List.length hxs
        simp at this
        omega
      apply List.ext_getElem?
      intro i
      by_cases hi : i < n
      · obtain ⟨b, hb, hf⟩ := Lib.mapM_at hm i i (by simp [hi])
        obtain ⟨z, hc, hz, _⟩ := DataW.trod_string he hf
        have h1 : cs[i]? = some (.string z) := by
          have := congrArg (·[0]?) hc
          simpa [List.getElem?_take, List.getElem?_drop] using this
        have h2 : (xs.map (·.1))[i]? = some (DataW.lit (.string z.data.toList) : DataW H) := by simp [hb, hz]
        rw [hxs] at h2
        simp only [List.getElem?_map, Option.map_eq_some_iff, DataW.lit.injEq, Lit.string.injEq] at h2
        obtain ⟨z', hz', hzz⟩ := h2
        have hzz : z' = z := by
          apply ByteArray.ext
          exact Array.toList_inj.1 hzz
        subst hzz
        simp [h1, hz']
      · rw [List.getElem?_eq_none (by omega), List.getElem?_eq_none (by simp; omega)]
    · cases h
theorem strs_of_head {P : Program} {W : World} {name : String} {zs : List ByteArray} {rest : List (String × DataW Unit)} {g : Nat} {t e : TypeId} {n : Nat}
    (hg : P.globalNamed name = some g) (hty : (P.globals[g]?).map (·.type) = some t) (ht : P.underlying t = some (.array n e)) (he : P.underlying e = some .string) (hce : P.cellsOf e = 1) (hct : P.cellsOf t = n)
    (h : laidMet P ((name, .agg (zs.map fun z => .lit (.string z.data.toList))) :: rest) W) : ∃ t r, W.heap[g]? = some (.cells (zs.map Value.string).toArray t r) := by
  obtain ⟨ps, ⟨g', t', cs, fuel, p, q, hg', ht', hvar, hd, _, _⟩, _⟩ := h
  obtain rfl := Option.some.inj (hg.symm.trans hg')
  obtain rfl := Option.some.inj (hty.symm.trans ht')
  rw [← cells_of_strs ht he hce hct hd]
  unfold World.var? at hvar
  rw [hg, Option.bind_some] at hvar
  split at hvar
  · rename_i c t' r ho
    obtain rfl := Option.some.inj hvar
    exact ⟨t', r, ho⟩
  · cases hvar
theorem wds_of {L : List (String × DataW Unit)} {W : World} (hL : laidMetH Tryz.prog L W) (hplain : (L.all fun x => x.2.handleName?.isNone) = true) (hw : (L.filter fun x => x.1 == "timetable/timetableref05.words") = [("timetable/timetableref05.words", Rows.laid_timetable_timetableref05_words)]) : Wds W := by
  rw [MakeChecks.laidMetH_plain _ _ _ hplain] at hL
  have h := laidMet.filter (fun x => x.1 == "timetable/timetableref05.words") hL
  rw [hw] at h
  exact strs_of_head (zs := [⟨#[97, 108, 108]⟩, ⟨#[111, 100, 100]⟩, ⟨#[101, 118, 101, 110]⟩, ⟨#[102, 105, 114, 115, 116]⟩, ⟨#[115, 101, 99, 111, 110, 100]⟩]) (rest := []) (g := 2) (t := 133) (e := 9) (n := 5) (by kernel_rfl) (by kernel_rfl) Tryz.underlying133 Tryz.underlying9 (by kernel_rfl) (by kernel_rfl) h
theorem dys_of {L : List (String × DataW Unit)} {W : World} (hL : laidMetH Tryz.prog L W) (hplain : (L.all fun x => x.2.handleName?.isNone) = true) (hw : (L.filter fun x => x.1 == "timetable/timetableref06.days") = [("timetable/timetableref06.days", Rows.laid_timetable_timetableref06_days)]) : Dys W := by
  rw [MakeChecks.laidMetH_plain _ _ _ hplain] at hL
  have h := laidMet.filter (fun x => x.1 == "timetable/timetableref06.days") hL
  rw [hw] at h
  exact strs_of_head (zs := [⟨#[77, 111]⟩, ⟨#[84, 117]⟩, ⟨#[87, 101]⟩, ⟨#[84, 104]⟩, ⟨#[70, 114]⟩, ⟨#[83, 97]⟩, ⟨#[83, 117]⟩]) (rest := []) (g := 3) (t := 134) (e := 9) (n := 7) (by kernel_rfl) (by kernel_rfl) Tryz.underlying134 Tryz.underlying9 (by kernel_rfl) (by kernel_rfl) h
end Go.Proofs.YtimcdikeajbabaaGreatDoor

namespace Go.Proofs.YtimcdikeajbabaaGreatDoor
open Go.ChangeShapes Go.WideShapes Go.Deep Go.RowKit
set_option maxRecDepth 100000

section
variable {H : Type} {enc : TypeId × Value → H} {P : Program} {w : World} {base : Nat} {spare : Nat → Bool} {held : Bool}
theorem slice_fields {t e : TypeId} {fs : Array Field} {fuel : Nat} {cs : List Value} {x : DataW H × List MemPlace} (ht : P.underlying t = some (.slice e)) (he : P.underlying e = some (.struct fs))
    (hone : oneCellFields P fs = true) (hC : P.cellsOf e = fs.size) (h : DataW.trod enc P w base spare held fuel t cs = some x) :
    (cs = [.slice none 0 0] ∧ x = (.nil, [])) ∨
    ∃ (a : Addr) (len cap : Nat) (D : Nat → DataW H) (r : List (DataW H)), cs = [.slice (some a) len cap] ∧ x.1 = .slice ((List.range len).map D) r ∧
      ∀ i, i < len → ∃ (ys : List (DataW H × List MemPlace)) (n : Nat), D i = .agg (ys.map (·.1)) ∧
        ∀ (j : Nat) (f : Field), fs[j]? = some f → ∃ (v : Value) (y : DataW H × List MemPlace), w.cell? (a.add (i * fs.size + j)) = some v ∧ ys[j]? = some y ∧ DataW.trod enc P w base spare held n f.type [v] = some y := by
  rcases open_slice ht h with h0 | ⟨a, len, cap, m, n, D, Pl, hcs, -, hl, -, hmm, hx, hi⟩
  · exact .inl h0
  · refine .inr ⟨a, len, cap, D, (List.range (m - len)).map fun j => D (len + j), hcs, by rw [hx], fun i him => ?_⟩
    have hlm : len ≤ m := by rw [hmm]; split <;> omega
    obtain ⟨cs', hc, ht'⟩ := hi i (by omega)
    rw [hC] at hc
    obtain ⟨ys, n', -, hy, hlen, hyl, hf⟩ := DataW.trod_struct he ht'
    obtain ⟨_, hcl, hat⟩ := World.cells?_some hc
    simp only [Prod.mk.injEq] at hy
    refine ⟨ys, n', hy.1, fun j f hj => ?_⟩
    obtain ⟨ho, hk⟩ := hone_of hone j f hj
    have hjl : j < fs.size := (Array.getElem?_eq_some_iff.1 hj).1
    have hcell := hat j hjl
    have hv : cs'[j]? = some (cs'[j]'(by omega)) := List.getElem?_eq_getElem (by omega)
    have h1 := hf j f hj
    rw [ho, hk] at h1
    have hone' : (cs'.drop j).take 1 = [cs'[j]'(by omega)] := by
      rw [List.drop_eq_getElem_cons (by omega)]
      rfl
    rw [hone'] at h1
    have hys : ys[j]? = some (ys[j]'(by omega)) := List.getElem?_eq_getElem (by omega)
    refine ⟨_, _, ?_, hys, h1.trans hys⟩
    rw [← Go.Deep.add_add, hcell, hv]
end
section
variable {H : Type} {enc : TypeId × Value → H} {W : World} {base : Nat} {sp : Nat → Bool} {held : Bool}
theorem bulk_pos (d : DataW H) : 1 ≤ Rows.uptoBulk d := by
  cases d with
  | lit l => cases l <;> simp [Rows.uptoBulk]
  | _ => simp [Rows.uptoBulk]
theorem bulk_mem {d : DataW H} : ∀ {ds : List (DataW H)}, d ∈ ds → Rows.uptoBulk d ≤ Rows.uptoBulkAll ds
  | e :: ds, h => by
    rw [Rows.uptoBulkAll]
    rcases List.mem_cons.1 h with rfl | h
    · omega
    · have := bulk_mem h; omega
theorem bulk_len : ∀ (ds : List (DataW H)), ds.length ≤ Rows.uptoBulkAll ds
  | [] => by simp
  | d :: ds => by
    rw [Rows.uptoBulkAll, List.length_cons]
    have := bulk_len ds
    have := bulk_pos d
    omega
theorem open_flds {fuel : Nat} {v : Value} {x : DataW H × List MemPlace} (h : DataW.trod enc Tryz.prog W base sp held fuel 25 [v] = some x) (hk : Rows.uptoBulk x.1 ≤ 1048576) :
    ∃ F fs c, v = .slice F fs.length c ∧ FieldsAt W.heap.size W F fs ∧ ∀ f ∈ fs, f.1.size < 1073741824 := by
  rcases slice_fields Tryz.underlying25 Tryz.underlying91 (by kernel_rfl) (by kernel_rfl) h with ⟨hcs, rfl⟩ | ⟨a, len, cap, D, r, hcs, hx, hi⟩
  · simp only [List.cons.injEq, and_true] at hcs
    subst hcs
    exact ⟨none, [], 0, rfl, fun h => absurd h (by decide), by simp⟩
  · simp only [List.cons.injEq, and_true] at hcs
    subst hcs
    rw [hx, Rows.uptoBulk] at hk
    have hall : ∀ i, ∃ f : Fld, i < len → W.cell? (a.add (i * 3 + 0)) = some (.string f.1) ∧ W.cell? (a.add (i * 3 + 1)) = some (.int .i64 f.2.1) ∧ W.cell? (a.add (i * 3 + 2)) = some (.bool f.2.2) ∧ f.1.size < 1073741824 := by
      intro i
      by_cases hil : i < len
      · obtain ⟨ys, n, hD, hf⟩ := hi i hil
        obtain ⟨v0, y0, c0, hy0, t0⟩ := hf 0 _ rfl
        obtain ⟨v1, y1, c1, hy1, t1⟩ := hf 1 _ rfl
        obtain ⟨v2, y2, c2, hy2, t2⟩ := hf 2 _ rfl
        obtain ⟨s, e0, rfl, -⟩ := DataW.trod_string Tryz.underlying9 t0
        obtain ⟨k, e1, rfl, -⟩ := DataW.trod_int Tryz.underlying3 t1
        obtain ⟨b, e2, rfl⟩ := DataW.trod_bool Tryz.underlying4 t2
        simp only [List.cons.injEq, and_true] at e0 e1 e2
        subst e0 e1 e2
        refine ⟨(s, k, b), fun _ => ⟨c0, c1, c2, ?_⟩⟩
        have h1 := bulk_mem (ds := (List.range len).map D) (d := D i) (List.mem_map.2 ⟨i, by simpa using hil, rfl⟩)
        rw [hD, Rows.uptoBulk] at h1
        have h2 := bulk_mem (ds := ys.map (·.1)) (List.mem_map.2 ⟨_, List.mem_of_getElem? hy0, rfl⟩)
        dsimp only at h2
        rw [Rows.uptoBulk, ba_len] at h2
        show s.size < 1073741824
        omega
      · exact ⟨(⟨#[]⟩, 0, false), fun h => absurd h hil⟩
    obtain ⟨g, hg⟩ := Classical.axiomOfChoice hall
    refine ⟨some a, (List.range len).map g, cap, by simp, fun hn => ?_, fun f hf => ?_⟩
    · have hn0 : 0 < len := by simpa using hn
      obtain ⟨b, off, spot⟩ := a
      have hspot : spot = none := by simpa [Addr.add] using World.cell?_spot (hg 0 hn0).1
      subst hspot
      refine ⟨b, off, rfl, World.block_lt_of_cell? _ _ (hg 0 hn0).1, fun j hj => ?_⟩
      have hjl : j < len := by simpa using hj
      obtain ⟨c0, c1, c2, -⟩ := hg j hjl
      rw [add_plain] at c0 c1 c2
      simpa [List.getElem_map, List.getElem_range, Nat.add_assoc] using And.intro c0 (And.intro c1 c2)
    · obtain ⟨i, hi2, rfl⟩ := List.mem_map.1 hf
      exact (hg i (by simpa using hi2)).2.2.2
theorem open_recs {v : Value} {d : DataW H} {ps : List MemPlace} (hval : Value.okWide Tryz.prog W .any base 22 v)
    (hd : DataW.Trod enc Tryz.prog W 0 (fun _ => true) true 22 v d ps) (hk : Rows.uptoBulk d ≤ 1048576) :
    ∃ A rs c, v = .slice A rs.length c ∧ RecsAt W.heap.size W A rs ∧ rs.length ≤ 1048576 ∧ ∀ r ∈ rs, ∀ f ∈ r.2, f.1.size < 1073741824 := by
  obtain ⟨a0, len0, cap0, rfl⟩ := okWide_slice Tryz.underlying22 hval
  obtain ⟨fuel, hf⟩ := hd
  rcases slice_fields Tryz.underlying22 Tryz.underlying27 (by kernel_rfl) (by kernel_rfl) hf with ⟨hcs, hx⟩ | ⟨a, len, cap, D, r, hcs, hx, hi⟩
  · simp [Value.cells] at hcs
    obtain ⟨rfl, rfl, rfl⟩ := hcs
    exact ⟨none, [], 0, rfl, fun h => absurd h (by decide), by simp, by simp⟩
  · simp [Value.cells] at hcs
    obtain ⟨rfl, rfl, rfl⟩ := hcs
    dsimp only at hx
    rw [hx, Rows.uptoBulk] at hk
    have hln := bulk_len ((List.range len0).map D)
    rw [List.length_map, List.length_range] at hln
    have hall : ∀ i, ∃ x : Rec × (Option Addr × Nat), i < len0 → W.cell? (a.add (i * 2 + 0)) = some (.int .i64 x.1.1) ∧ W.cell? (a.add (i * 2 + 1)) = some (.slice x.2.1 x.1.2.length x.2.2) ∧ FieldsAt W.heap.size W x.2.1 x.1.2 ∧ ∀ f ∈ x.1.2, f.1.size < 1073741824 := by
      intro i
      by_cases hil : i < len0
      · obtain ⟨ys, n, hD, hf2⟩ := hi i hil
        obtain ⟨v0, y0, c0, hy0, t0⟩ := hf2 0 _ rfl
        obtain ⟨v1, y1, c1, hy1, t1⟩ := hf2 1 _ rfl
        obtain ⟨k, e0, rfl, -⟩ := DataW.trod_int Tryz.underlying3 t0
        simp only [List.cons.injEq, and_true] at e0
        subst e0
        have h1 := bulk_mem (ds := (List.range len0).map D) (d := D i) (List.mem_map.2 ⟨i, by simpa using hil, rfl⟩)
        rw [hD, Rows.uptoBulk] at h1
        have h2 := bulk_mem (ds := ys.map (·.1)) (List.mem_map.2 ⟨_, List.mem_of_getElem? hy1, rfl⟩)
        obtain ⟨F, fs, c, rfl, hF, hs⟩ := open_flds t1 (by omega)
        exact ⟨((k, fs), (F, c)), fun _ => ⟨c0, c1, hF, hs⟩⟩
      · exact ⟨((0, []), (none, 0)), fun h => absurd h hil⟩
    obtain ⟨g, hg⟩ := Classical.axiomOfChoice hall
    refine ⟨some a, (List.range len0).map fun i => (g i).1, cap0, by simp, fun hn => ?_, by simp; omega, fun r hr => ?_⟩
    · have hn0 : 0 < len0 := by simpa using hn
      obtain ⟨b, off, spot⟩ := a
      have hspot : spot = none := by simpa [Addr.add] using World.cell?_spot (hg 0 hn0).1
      subst hspot
      refine ⟨b, off, rfl, World.block_lt_of_cell? _ _ (hg 0 hn0).1, fun j r hr => ?_⟩
      rw [List.getElem?_map] at hr
      obtain ⟨i, hi1, rfl⟩ := Option.map_eq_some_iff.1 hr
      obtain ⟨hjl, hij⟩ := List.getElem?_eq_some_iff.1 hi1
      have hjl : j < len0 := by simpa using hjl
      obtain rfl : j = i := by simpa using hij
      obtain ⟨c0, c1, hF, -⟩ := hg j hjl
      rw [add_plain] at c0 c1
      exact ⟨_, _, c0, c1, hF⟩
    · obtain ⟨i, hi2, rfl⟩ := List.mem_map.1 hr
      exact (hg i (by simpa using hi2)).2.2.2
end
end Go.Proofs.YtimcdikeajbabaaGreatDoor
