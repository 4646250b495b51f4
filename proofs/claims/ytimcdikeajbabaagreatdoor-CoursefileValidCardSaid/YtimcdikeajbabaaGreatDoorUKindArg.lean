/- From a walk to a statement: what the listed variables give, and the step from 'the call returns true and lays new blocks at most' to the row. Arguments opened to data of kinds. No condition. -/
import Derived.Test.YtimcdikeajbabaaGreatDoorRows
import Derived.WalkKit
import Derived.WalkSpells
import Derived.WalkLawsBesides
import Derived.BigGuardPart
import Derived.Lib.Hide
import Derived.Laws.BitsAllLaws
import Derived.Laws.BitsLemmas
import Derived.Lib.LaidTab
import Derived.Test.YtimcdikeajbabaaGreatDoorShelf
import Derived.Lib.ConvBytes
import Derived.Deep.QuietTactic
import Derived.BigQuiet
import Derived.Test.YtimcdikeajbabaaGreatDoorCards
import Derived.Test.YtimcdikeajbabaaGreatDoorTie
import Derived.ProofKit
import Derived.OpenShut
import Derived.LaidMore
import Derived.Lay
import Derived.SevenTiedAt
import Derived.Stop.Joined
import Derived.Stop.LaidErr
import Derived.Deep.DeepHandedRow
import Derived.Lib.LaidU8
import Derived.LaidSub
import Derived.Test.YtimcdikeajbabaaGreatDoorUEnds
import Derived.Laws.ResultCell
import Derived.RegionTactic
import Derived.BigRegion
import Derived.Deep.RegionHeld3
import Derived.Deep.DeepCutAuto
import Derived.Lib.SmallJoins
import Derived.Lib.SplitLaws
import Derived.Lib.CountLaws
import Derived.Lib.IndexMore
import Derived.Lib.Split
import Derived.Lib.Join
import Derived.Lib.ItoaNum
import Derived.Laws.AppendOwn
import Derived.Deep.Slices
import Derived.Deep.Fields
import Derived.ChangeSame
import Derived.Test.YtimcdikeajbabaaGreatDoorUSameL
namespace Go.Proofs.YtimcdikeajbabaaGreatDoor
open Go.ChangeShapes Go.WideShapes Go.ChangeAt Go.RowKit
set_option maxRecDepth 100000

theorem own : ownKnob Tryz.prog.godebug = none := by kernel_rfl
theorem laidOut : laidOutB Tryz.prog = true := by kernel_rfl

/-- The post of a law, where of the world behind the call 'Below' is known. -/
theorem post_of_below {H : Type} {enc : TypeId × Value → H} {P : Program} {f : Func} {s : ChangeSpec} {apart fresh handsOn again : Bool} {W W' : World} {args : Array Value} {v : Value} {ds gs : List (DataW H)} {before pa pv : List MemPlace}
    (hW : DataW.Whole enc P f.params.toList s.vars apart W args.toList ds gs before)
    (hres : ∀ (b : Nat) (sp : Nat → Bool) (hd : Bool), DataW.TrodAll enc P W' b sp hd f.resultTypes.toList (v.resultList f.resultTypes.size) (s.fn H (ds ++ gs)).results [])
    (hargs : ∀ sp : Nat → Bool, (∀ p ∈ before, sp p.block = true) → DataW.TrodAll enc P W' 0 sp true f.params.toList args.toList (s.fn H (ds ++ gs)).args pa)
    (hvars : ∀ sp : Nat → Bool, (∀ p ∈ before, sp p.block = true) → DataW.TrodVars enc P W' sp s.vars (s.fn H (ds ++ gs)).vars pv)
    (hps : before = pa ++ pv) (hb : Below W.heap.size W W')
    (hok : ∀ (j : Nat) (t : TypeId) (r : Value), f.resultTypes[j]? = some t → (v.resultList f.resultTypes.size)[j]? = some r → Value.okWide P W' .any 0 t r) :
    s.post enc P f apart fresh handsOn again W args v W' := by
  have hlt : ∀ p ∈ before, p.block < W.heap.size := fun p hp => hW.lt p hp
  have hold : ∀ p ∈ before, (fun b => decide (b < W.heap.size)) p.block = true := fun p hp => by simpa using hlt p hp
  refine ⟨ds, gs, before, [], pa, pv, hW, hres _ _ _, hargs _ hold, hvars _ hold, World.keptBut_mono (fun p hp => ⟨hp, ?_⟩) (hb.frame (· ∈ before)), fun _ => ?_⟩
  · rw [hps, List.mem_append] at hp
    exact Or.inr hp
  · obtain ⟨_, _, _, _, _, hz, hn⟩ := hW
    refine ⟨hok, _, _, ([] ++ pa) ++ pv, ⟨[] ++ pa, pv, trodAll_append (hargs _ (fun _ _ => rfl)) (hres _ _ _), hvars _ (fun _ _ => rfl), rfl, ?_, ?_⟩, ?_⟩
    · intro b off hp
      have hin : MemPlace.cell b off ∈ before := by rw [hps]; simpa using hp
      rw [hb.frozen (hlt _ hin)]
      exact hz b off hin
    · intro ha
      have := hn ha
      rw [hps] at this
      simpa using this
    · intro p hp _
      rw [hps]
      simpa using hp

/-- Arguments that are not touched read as they did. -/
theorem trodAll_stays {H : Type} {enc : TypeId × Value → H} {W W' : World} {sp : Nat → Bool} (hb : Below W.heap.size W W') :
    ∀ (ts : List TypeId) (vs : List Value) (ds : List (DataW H)) (ps : List MemPlace), (∀ t ∈ ts, Tryz.prog.readableRec t = true ∧ t < Tryz.prog.types.size) → (∀ p ∈ ps, p.block < W.heap.size) → (∀ p ∈ ps, sp p.block = true) →
      DataW.TrodAll enc Tryz.prog W 0 (fun _ => true) true ts vs ds ps → DataW.TrodAll enc Tryz.prog W' 0 sp true ts vs ds ps
  | [], vs, ds, ps, _, _, _, h => by
    cases vs <;> cases ds <;> simp [DataW.TrodAll] at h ⊢
    exact h
  | t :: ts, vs, ds, ps, hr, hlt, hsp, h => by
    obtain ⟨v, vs', d, ds', p, q, rfl, rfl, rfl, h1, h2⟩ := trodAll_cons h
    have ht := hr t (by simp)
    exact ⟨p, q, WideElems.Trod_stays laidOut ht.1 ht.2 h1 (fun x hx => hb.same (hlt x (by simp [hx]))) (fun x hx => hsp x (by simp [hx])),
      trodAll_stays hb ts vs' ds' q (fun u hu => hr u (by simp [hu])) (fun x hx => hlt x (by simp [hx])) (fun x hx => hsp x (by simp [hx])) h2, rfl⟩


set_option maxRecDepth 100000 in
theorem law_lifted {k : FuncId} {fn : Func} {s : OpenSpec} {c : ChangeSpec} {F : Stop.Interp} {L : List (String × DataW Unit)} {H : Type} {enc : TypeId × Value → H} {os : Os} (started : os.Started)
    (hs : s.at F = c) (hvars : s.vars = []) (hcv : c.vars = []) (hni : Tryz.checked.prog.inits.idxOf? k = none) (hfn : Tryz.prog.funcs[k]? = some fn) (hres : fn.resultTypes = #[4])
    (hread : ∀ t ∈ fn.params.toList, Tryz.prog.readableRec t = true ∧ t < Tryz.prog.types.size)
    (hfun : ∀ ds : List (DataW H), ds.length = fn.params.size → (c.fn H ds).results = [.lit (.bool true)] ∧ (c.fn H ds).args = ds ∧ (c.fn H ds).vars = [])
    (witness : ∃ (w : World) (tape : Tape) (i : Input), w.os = os ∧ (w.forCall tape i).Shaped Tryz.checked.prog ∧ i.vars = [] ∧ Input.okWide Tryz.checked.prog (w.forCall tape i) .any w.heap.size k i ∧
      s.preRow enc Tryz.checked.prog fn [] false L (w.forCall tape i).memory i.args ∧ ({} : Assume).holds Tryz.checked.prog (lone (Frame.enter Tryz.checked.prog k i.args .normal) [] (w.forCall tape i)))
    (walk : ∀ (W : World) (base : Nat) (args : Array Value) (ds : List (DataW H)) (ps : List MemPlace), (∀ (j : Nat) t v, fn.params[j]? = some t → args[j]? = some v → Value.okWide Tryz.prog W .any base t v) →
      DataW.TrodAll enc Tryz.prog W 0 (fun _ => true) true fn.params.toList args.toList ds ps → (∀ p ∈ ps, p.block < W.heap.size) → (∀ q, s.cond = some q → q H ds = true) →
      laidMetH Tryz.prog L W → W.ShapedOpen Tryz.prog → Calls Tryz.prog k args W fun e W' => e = .returned (.bool true) ∧ Below W.heap.size W W') :
    ReturnsInHanded {} Tryz.checked os k .any (s.preRow enc Tryz.prog fn [] false L) ((s.at F).post enc Tryz.prog fn false true false false) := by
  refine returnsInHanded_of_row (C := Tryz.checked) (s := s) own started hni hfn witness ?_
  intro W base args ds gs before hval hW _ hcond _ hL hsh _
  have hW' := hW
  obtain ⟨p, q, hA0, hV, rfl, hfz, hnd⟩ := hW
  have hA : DataW.TrodAll enc Tryz.prog W 0 (fun _ => true) true fn.params.toList args.toList ds p := hA0
  rw [hvars] at hV
  obtain ⟨rfl, rfl⟩ := trodVars_none hV
  have hlt : ∀ x ∈ p, x.block < W.heap.size := fun x hx => hW'.lt x (by simp [hx])
  have hlen : ds.length = fn.params.size := by
    have : ∀ (ts : List TypeId) (vs : List Value) (es : List (DataW H)) (ps : List MemPlace), DataW.TrodAll enc Tryz.prog W 0 (fun _ => true) true ts vs es ps → es.length = ts.length := by
      intro ts
      induction ts with
      | nil => intro vs es ps h; cases vs <;> cases es <;> simp [DataW.TrodAll] at h ⊢
      | cons t ts ih =>
        intro vs es ps h
        obtain ⟨v, vs', d, ds', p', q', rfl, rfl, rfl, _, h2⟩ := trodAll_cons h
        simp [ih _ _ _ h2]
    have := this _ _ _ _ hA
    simpa using this
  obtain ⟨f1, f2, f3⟩ := hfun ds hlen
  refine (walk W base args ds p hval hA hlt (fun q hq => by have := hcond q hq; simpa using this) hL hsh).mono fun e W' ⟨he, hb⟩ => ?_
  subst he
  refine ⟨_, rfl, ?_⟩
  rw [hs]
  refine post_of_below (pa := p) (pv := []) (gs := []) (ds := ds) (before := p ++ []) (by rw [hcv]; rw [hvars] at hW'; exact hW') ?_ ?_ ?_ rfl hb ?_
  · intro b sp hd
    rw [List.append_nil, f1, hres]
    exact trodAll_mk1 (shut_bool Tryz.underlying4 _)
  · intro sp hsp
    rw [List.append_nil, f2]
    exact trodAll_stays hb _ _ _ _ hread hlt (fun x hx => hsp x (by simp [hx])) hA
  · intro sp hsp
    rw [List.append_nil, f3, hcv]
    rfl
  · exact ok_one hres rfl (okWide_bool_mk Tryz.underlying4 _)

/-- An aggregate whose cells are all of type int. -/
theorem agg_ints {W : World} {t : TypeId} {v : Value} {n : Nat} (hv : Value.okWide Tryz.prog W .any 0 t v ∨ ∃ b, Value.okWide Tryz.prog W .any b t v)
    (hk : (∃ fs, Tryz.prog.underlying t = some (.struct fs)) ∨ ∃ m e, Tryz.prog.underlying t = some (.array m e)) (hn : Tryz.prog.cellsOf t = n) (hc : Tryz.prog.cellTypes Tryz.prog.depth t = some (List.replicate n 3)) :
    ∃ xs : List Int, xs.length = n ∧ v = .agg (xs.map (Value.int .i64)).toArray := by
  have hv' : ∃ b, Value.okWide Tryz.prog W .any b t v := hv.elim (fun h => ⟨0, h⟩) id
  obtain ⟨b, hv⟩ := hv'
  have : ∃ cs, v = .agg cs ∧ cs.size = Tryz.prog.cellsOf t ∧ Row.okWide Tryz.prog W .any b t cs := by
    rcases hk with ⟨fs, h⟩ | ⟨m, e, h⟩ <;> simpa only [Value.okWide, h] using hv
  obtain ⟨cs, rfl, hsz, ts, hts, -, hcell⟩ := this
  rw [hc] at hts
  obtain rfl := Option.some.inj hts
  have hall : ∀ i (hi : i < cs.size), ∃ x : Int, cs[i] = .int .i64 x := by
    intro i hi
    obtain ⟨u, hu, hok⟩ := hcell i cs[i] (Array.getElem?_eq_getElem hi)
    have hu' : u = 3 := by
      rw [List.getElem?_replicate] at hu
      split at hu
      · exact (Option.some.inj hu).symm
      · cases hu
    subst hu'
    have hint : Value.okWide Tryz.prog W .any b 3 cs[i] := by
      simp only [Value.okWide, Tryz.underlying3]; exact hok
    exact okWide_int Tryz.underlying3 hint
  refine ⟨cs.toList.map intOf, by simp [hsz, hn], ?_⟩
  congr 1
  apply Array.ext
  · simp
  · intro i h1 h2
    obtain ⟨x, hx⟩ := hall i h1
    simp [hx, intOf]
/-- What the walks want of the world, out of the row's list and the world's shape. -/
theorem std_of {L : List (String × DataW Unit)} {W : World} (hL : laidMetH Tryz.prog L W) (hsh : W.ShapedOpen Tryz.prog) (hplain : (L.all fun x => x.2.handleName?.isNone) = true)
    (hp : (L.filter fun x => x.1 == "internal/strconv.uint64pow10") = [("internal/strconv.uint64pow10", Rows.laid_internal_strconv_uint64pow10)])
    (he : (L.filter fun x => x.1 == "strconv.ErrSyntax") = [("strconv.ErrSyntax", Rows.laid_strconv_ErrSyntax)])
    (hr : (L.filter fun x => x.1 == "strconv.ErrRange") = [("strconv.ErrRange", Rows.laid_strconv_ErrRange)]) : Std W := by
  rw [MakeChecks.laidMetH_plain _ _ _ hplain] at hL
  -- function 103
  have hmax := Tryz.laysM145.s1_3 W hsh
  have h10 := laidMet.filter (fun x => x.1 == "internal/strconv.uint64pow10") hL
  rw [hp] at h10
  have hes := laidMet.filter (fun x => x.1 == "strconv.ErrSyntax") hL
  rw [he] at hes
  have her := laidMet.filter (fun x => x.1 == "strconv.ErrRange") hL
  rw [hr] at her
  have hrow : ∀ u, Tryz.prog.typeName? 3 u = some "*errors.errorString" → u = 279 := fun u hu =>
    typeName_ptr_named (P := Tryz.prog) (nm := "errors.errorString") (by kernel_rfl) (by kernel_rfl) (by decide) u hu
  have hpow : Lib.TabIs Tryz.prog W "internal/strconv.uint64pow10" .u64 Lib.pow10Tab :=
    Lib.tabIs_of_head (rest := []) (g := 4) (t := 229) (e := 193) (n := 20) (by kernel_rfl) (by kernel_rfl) Tryz.underlying229 Tryz.underlying193 (by kernel_rfl) (by kernel_rfl) h10
  obtain ⟨a1, s1, hv1, -, -, -⟩ := laid_sentinel (P := Tryz.prog) (g := 6) (ti := 129) hes (by kernel_rfl) (by kernel_rfl) Tryz.underlying129 hrow Tryz.underlying279 Tryz.underlying281 rfl rfl Tryz.underlying9 (by kernel_rfl) (by kernel_rfl)
  obtain ⟨a2, s2, hv2, -, -, -⟩ := laid_sentinel (P := Tryz.prog) (g := 7) (ti := 129) her (by kernel_rfl) (by kernel_rfl) Tryz.underlying129 hrow Tryz.underlying279 Tryz.underlying281 rfl rfl Tryz.underlying9 (by kernel_rfl) (by kernel_rfl)
  have hg1 : Tryz.prog.globalNamed "strconv.ErrSyntax" = some 6 := by kernel_rfl
  have hg2 : Tryz.prog.globalNamed "strconv.ErrRange" = some 7 := by kernel_rfl
  have hbig : 12 ≤ W.heap.size := by
    obtain ⟨o, o₀, ho, -, -⟩ := hsh.2 12 (Nat.le_of_eq (by kernel_rfl)) (of_decide_eq_true (by kernel_rfl))
    have := (Array.getElem?_eq_some_iff.1 ho).1
    omega
  exact { big := hbig, maxLen := hmax, pow10 := hpow, errSyntax := ⟨_, _, World.var?_cell hg1 hv1 0⟩, errRange := ⟨_, _, World.var?_cell hg2 hv2 0⟩ }

/-- An array of strings that reads as a list of texts holds these. -/
theorem cells_of_strs {H : Type} {enc : TypeId × Value → H} {P : Program} {w : World} {base : Nat} {sp : Nat → Bool} {held : Bool} {fuel : Nat} {t e : TypeId} {n : Nat} {cs : List Value} {zs : List ByteArray} {p : List MemPlace}
    (ht : P.underlying t = some (.array n e)) (he : P.underlying e = some .string) (hce : P.cellsOf e = 1) (hct : P.cellsOf t = n)
    (h : DataW.trod enc P w base sp held fuel t cs = some (.agg (zs.map fun z => .lit (.string z.data.toList)), p)) : cs = zs.map Value.string := by
  cases fuel with
  | zero => simp [DataW.trod] at h
  | succ fuel =>
    simp only [DataW.trod, ht, hce, hct, Nat.mul_one] at h
    split at h
    · rename_i hl
      obtain ⟨xs, hm, hx⟩ := Option.map_eq_some_iff.1 h
      have hxs : xs.map (·.1) = zs.map fun z => (DataW.lit (.string z.data.toList) : DataW H) := by
        have := congrArg Prod.fst hx
        simpa using this
      have hxl : xs.length = n := by simpa using Lib.mapM_length hm
      have hzl : zs.length = n := by
        have := congrArg List.length hxs
        simp at this
        omega
      apply List.ext_getElem?
      intro i
      by_cases hi : i < n
      · obtain ⟨b, hb, hf⟩ := Lib.mapM_at hm i i (by simp [hi])
        obtain ⟨z, hc, hz, _⟩ := DataW.trod_string he hf
        have h1 : cs[i]? = some (.string z) := by
          have := congrArg (·[0]?) hc
          simpa [List.getElem?_take, List.getElem?_drop] using this
        have h2 : (xs.map (·.1))[i]? = some (DataW.lit (.string z.data.toList) : DataW H) := by simp [hb, hz]
        rw [hxs] at h2
        simp only [List.getElem?_map, Option.map_eq_some_iff, DataW.lit.injEq, Lit.string.injEq] at h2
        obtain ⟨z', hz', hzz⟩ := h2
        have hzz : z' = z := by
          apply ByteArray.ext
          exact Array.toList_inj.1 hzz
        subst hzz
        simp [h1, hz']
      · rw [List.getElem?_eq_none (by omega), List.getElem?_eq_none (by simp; omega)]
    · cases h
theorem strs_of_head {P : Program} {W : World} {name : String} {zs : List ByteArray} {rest : List (String × DataW Unit)} {g : Nat} {t e : TypeId} {n : Nat}
    (hg : P.globalNamed name = some g) (hty : (P.globals[g]?).map (·.type) = some t) (ht : P.underlying t = some (.array n e)) (he : P.underlying e = some .string) (hce : P.cellsOf e = 1) (hct : P.cellsOf t = n)
    (h : laidMet P ((name, .agg (zs.map fun z => .lit (.string z.data.toList))) :: rest) W) : ∃ t r, W.heap[g]? = some (.cells (zs.map Value.string).toArray t r) := by
  obtain ⟨ps, ⟨g', t', cs, fuel, p, q, hg', ht', hvar, hd, _, _⟩, _⟩ := h
  obtain rfl := Option.some.inj (hg.symm.trans hg')
  obtain rfl := Option.some.inj (hty.symm.trans ht')
  rw [← cells_of_strs ht he hce hct hd]
  unfold World.var? at hvar
  rw [hg, Option.bind_some] at hvar
  split at hvar
  · rename_i c t' r ho
    obtain rfl := Option.some.inj hvar
    exact ⟨t', r, ho⟩
  · cases hvar
theorem wds_of {L : List (String × DataW Unit)} {W : World} (hL : laidMetH Tryz.prog L W) (hplain : (L.all fun x => x.2.handleName?.isNone) = true) (hw : (L.filter fun x => x.1 == "timetable/timetableref05.words") = [("timetable/timetableref05.words", Rows.laid_timetable_timetableref05_words)]) : Wds W := by
  rw [MakeChecks.laidMetH_plain _ _ _ hplain] at hL
  have h := laidMet.filter (fun x => x.1 == "timetable/timetableref05.words") hL
  rw [hw] at h
  exact strs_of_head (zs := [⟨#[97, 108, 108]⟩, ⟨#[111, 100, 100]⟩, ⟨#[101, 118, 101, 110]⟩, ⟨#[102, 105, 114, 115, 116]⟩, ⟨#[115, 101, 99, 111, 110, 100]⟩]) (rest := []) (g := 2) (t := 133) (e := 9) (n := 5) (by kernel_rfl) (by kernel_rfl) Tryz.underlying133 Tryz.underlying9 (by kernel_rfl) (by kernel_rfl) h
theorem dys_of {L : List (String × DataW Unit)} {W : World} (hL : laidMetH Tryz.prog L W) (hplain : (L.all fun x => x.2.handleName?.isNone) = true) (hw : (L.filter fun x => x.1 == "timetable/timetableref06.days") = [("timetable/timetableref06.days", Rows.laid_timetable_timetableref06_days)]) : Dys W := by
  rw [MakeChecks.laidMetH_plain _ _ _ hplain] at hL
  have h := laidMet.filter (fun x => x.1 == "timetable/timetableref06.days") hL
  rw [hw] at h
  exact strs_of_head (zs := [⟨#[77, 111]⟩, ⟨#[84, 117]⟩, ⟨#[87, 101]⟩, ⟨#[84, 104]⟩, ⟨#[70, 114]⟩, ⟨#[83, 97]⟩, ⟨#[83, 117]⟩]) (rest := []) (g := 3) (t := 134) (e := 9) (n := 7) (by kernel_rfl) (by kernel_rfl) Tryz.underlying134 Tryz.underlying9 (by kernel_rfl) (by kernel_rfl) h
end Go.Proofs.YtimcdikeajbabaaGreatDoor

namespace Go.Proofs.YtimcdikeajbabaaGreatDoor
open Go.ChangeShapes Go.WideShapes Go.Deep Go.RowKit
set_option maxRecDepth 100000

/-- What is known of a reading's size, part by part. -/
structure Good where
  ok : ∀ {H : Type}, DataW H → Prop
  str : ByteArray → Prop
  len : Nat → Prop
  ok_str : ∀ {H : Type} {s : ByteArray}, ok (DataW.lit (H := H) (.string s.data.toList)) → str s
  ok_len : ∀ {H : Type} {ds r : List (DataW H)}, ok (.slice ds r) → len ds.length
  ok_slice : ∀ {H : Type} {ds r : List (DataW H)}, ok (.slice ds r) → ∀ d ∈ ds, ok d
  ok_agg : ∀ {H : Type} {ds : List (DataW H)}, ok (.agg ds) → ∀ d ∈ ds, ok d
  len0 : len 0
/-- Nothing is known. -/
def noGood : Good := ⟨fun _ => True, fun _ => True, fun _ => True, fun _ => trivial, fun _ => trivial, fun _ _ _ => trivial, fun _ _ _ => trivial, trivial⟩
/-- The cells of a type, where they can be read, are data of a kind, of a size Z. -/
def Opens {α : Type} (G : Good) (P : Program) (t : TypeId) (K : Kind α) (Z : α → Prop) : Prop :=
  P.cellsOf t = K.k ∧ ∀ (H : Type) (enc : TypeId × Value → H) (W : World) (base : Nat) (sp : Nat → Bool) (held : Bool) (fuel : Nat) (cs : List Value) (x : DataW H × List MemPlace),
    DataW.trod enc P W base sp held fuel t cs = some x → G.ok x.1 → ∃ a, K.rep AnyB W a cs ∧ Z a
section
variable {α β : Type} {G : Good} {P : Program} {t e : TypeId} {K : Kind α} {L : Kind β} {Z : α → Prop} {Y : β → Prop}
theorem opens_str (ht : P.underlying t = some .string) (hc : P.cellsOf t = 1) : (Opens G P t kStr fun s => G.str s ∧ s.size ≤ maxLen) :=
  ⟨hc, fun H enc W base sp held fuel cs x h hg => by obtain ⟨s, e, rfl, hm⟩ := DataW.trod_string ht h; exact ⟨s, e, G.ok_str hg, hm⟩⟩
theorem opens_int (ht : P.underlying t = some (.int .i64)) (hc : P.cellsOf t = 1) : Opens G P t kInt fun _ => True :=
  ⟨hc, fun H enc W base sp held fuel cs x h _ => by obtain ⟨s, e, -, -⟩ := DataW.trod_int ht h; exact ⟨s, e, trivial⟩⟩
theorem add_at (b off i : Nat) : (⟨b, off, none⟩ : Addr).add i = ⟨b, off + i, none⟩ := by unfold Addr.add; split <;> simp_all
theorem opens_slice (ht : P.underlying t = some (.slice e)) (hc : P.cellsOf t = 1) (hk : 0 < K.k) (h : Opens G P e K Z) : Opens G P t (kSlice K) fun l => G.len l.length ∧ l.length ≤ maxLen ∧ ∀ x ∈ l, Z x := by
  refine ⟨hc, fun H enc W base sp held fuel cs x hx hg => ?_⟩
  rcases open_slice ht hx with ⟨rfl, -⟩ | ⟨a, len, cap, m, n, D, Pl, rfl, -, hl, hcm, hmm, rfl, hi⟩
  · exact ⟨[], ⟨none, 0, rfl, Nat.le_refl _, fun h0 => absurd h0 (Nat.lt_irrefl 0)⟩, G.len0, Nat.zero_le _, fun x hx => by simp at hx⟩
  · have hlm : len ≤ m := by rw [hmm]; split <;> omega
    have hlen := G.ok_len hg
    rw [List.length_map, List.length_range] at hlen
    have hall : ∀ i, i < len → ∃ (y : α) (vs : List Value), Z y ∧ K.rep AnyB W y vs ∧ ∀ q u, vs[q]? = some u → W.cell? ((a.add (i * K.k)).add q) = some u := by
      intro i hil
      obtain ⟨cs', hc', ht'⟩ := hi i (by omega)
      rw [h.1] at hc'
      obtain ⟨y, hy, hz⟩ := h.2 H enc W base sp held n cs' _ ht' (G.ok_slice hg _ (List.mem_map.2 ⟨i, by simpa using hil, rfl⟩))
      obtain ⟨_, hcl, hat⟩ := World.cells?_some hc'
      refine ⟨y, cs', hz, hy, fun q u hu => ?_⟩
      have hq : q < K.k := by have := (List.getElem?_eq_some_iff.1 hu).1; omega
      rw [hat q hq]; exact hu
    have hlist : ∀ n, n ≤ len → ∃ l : List α, l.length = n ∧ (∀ x ∈ l, Z x) ∧ ∀ j x, l[j]? = some x → ∃ vs, K.rep AnyB W x vs ∧ ∀ q u, vs[q]? = some u → W.cell? ((a.add (j * K.k)).add q) = some u := by
      intro n
      induction n with
      | zero => exact fun _ => ⟨[], rfl, fun x hx => by simp at hx, fun j x hx => by simp at hx⟩
      | succ n ih =>
        intro hn
        obtain ⟨l, h1, h2, h3⟩ := ih (by omega)
        obtain ⟨y, vs, hz, hy, hcell⟩ := hall n (by omega)
        refine ⟨l ++ [y], by simp [h1], fun x hx => ?_, fun j x hx => ?_⟩
        · rcases List.mem_append.1 hx with hx | hx
          · exact h2 x hx
          · simp at hx; subst hx; exact hz
        · by_cases hj : j < l.length
          · rw [List.getElem?_append_left hj] at hx
            exact h3 j x hx
          · have hj2 : j = n := by
              have := (List.getElem?_eq_some_iff.1 hx).1
              simp at this
              omega
            subst hj2
            rw [List.getElem?_append_right (by omega)] at hx
            simp [h1] at hx
            subst hx
            exact ⟨vs, hy, hcell⟩
    obtain ⟨l, h1, h2, h3⟩ := hlist len (Nat.le_refl _)
    refine ⟨l, ⟨some a, cap, by rw [h1], by omega, fun hn => ?_⟩, by rw [h1]; exact hlen, by rw [h1]; exact Nat.le_trans hl hcm, h2⟩
    have h00 : l[0]? = some (l[0]'hn) := List.getElem?_eq_getElem hn
    obtain ⟨vs0, hr0, hc0⟩ := h3 0 _ h00
    have hv0 : 0 < vs0.length := by rw [K.len hr0]; exact hk
    have hcell0 := hc0 0 _ (List.getElem?_eq_getElem hv0)
    obtain ⟨b, off, spot⟩ := a
    have hspot : spot = none := by simpa [Addr.add] using World.cell?_spot hcell0
    subst hspot
    refine ⟨b, off, rfl, trivial, by have := World.block_lt_of_cell? _ _ hcell0; rw [add_at, add_at] at this; exact this, fun j x hx => ?_⟩
    obtain ⟨vs, hr, hc⟩ := h3 j x hx
    refine ⟨vs, hr, fun i u hu => ?_⟩
    have := hc i u hu
    rw [add_at, add_at] at this
    exact this
/-- The same for the fields of a struct, from cell o on. -/
def OpensF {α : Type} (G : Good) (P : Program) (fs : List Field) (o : Nat) (K : Kind α) (Z : α → Prop) : Prop :=
  ∀ (H : Type) (enc : TypeId × Value → H) (W : World) (base : Nat) (sp : Nat → Bool) (held : Bool) (n : Nat) (cs : List Value) (ys : List (DataW H × List MemPlace)),
    cs.length = o + K.k → (∀ y ∈ ys, G.ok y.1) → (∀ (j : Nat) (f : Field), fs[j]? = some f → ∃ y, ys[j]? = some y ∧ DataW.trod enc P W base sp held n f.type ((cs.drop f.offset).take (P.cellsOf f.type)) = some y) → ∃ a, K.rep AnyB W a (cs.drop o) ∧ Z a
theorem opensF_one {f : Field} {o : Nat} (ho : f.offset = o) (h : Opens G P f.type K Z) : OpensF G P [f] o K Z := by
  intro H enc W base sp held n cs ys hl hg hf
  obtain ⟨y, hy, ht⟩ := hf 0 f rfl
  rw [ho, h.1, List.take_of_length_le (by rw [List.length_drop]; omega)] at ht
  exact h.2 H enc W base sp held n _ y ht (hg y (List.mem_of_getElem? hy))
theorem opensF_cons {f : Field} {fs : List Field} {o : Nat} (ho : f.offset = o) (h : Opens G P f.type K Z) (hr : OpensF G P fs (o + K.k) L Y) : OpensF G P (f :: fs) o (kPair K L) fun a => Z a.1 ∧ Y a.2 := by
  intro H enc W base sp held n cs ys hl hg hf
  have hkk : (kPair K L).k = K.k + L.k := rfl
  obtain ⟨y, hy, ht⟩ := hf 0 f rfl
  rw [ho, h.1] at ht
  obtain ⟨a, ha, hz⟩ := h.2 H enc W base sp held n _ y ht (hg y (List.mem_of_getElem? hy))
  obtain ⟨b, hb, hyy⟩ := hr H enc W base sp held n cs (ys.drop 1) (by omega) (fun y hy => hg y (List.mem_of_mem_drop hy)) (fun j f hj => by
    obtain ⟨y, hy, ht⟩ := hf (j + 1) f (by simpa using hj)
    exact ⟨y, by rw [List.getElem?_drop, Nat.add_comm]; exact hy, ht⟩)
  refine ⟨(a, b), ⟨_, _, ?_, ha, hb⟩, hz, hyy⟩
  rw [← List.drop_drop]
  exact (List.take_append_drop K.k (cs.drop o)).symm
theorem opens_struct {fs : Array Field} (ht : P.underlying t = some (.struct fs)) (hc : P.cellsOf t = K.k) (h : OpensF G P fs.toList 0 K Z) : Opens G P t K Z := by
  refine ⟨hc, fun H enc W base sp held fuel cs x hx hg => ?_⟩
  obtain ⟨ys, n, -, hy, hlen, hyl, hf⟩ := DataW.trod_struct ht hx
  subst hy
  have hlc : cs.length = K.k := hlen.trans hc
  obtain ⟨a, ha, hz⟩ := h H enc W base sp held n cs ys (by omega) (fun y hy => G.ok_agg hg _ (List.mem_map.2 ⟨y, hy, rfl⟩)) (fun j f hj => by
    have hj' : fs[j]? = some f := by rw [← Array.getElem?_toList]; exact hj
    have hjl : j < fs.size := (Array.getElem?_eq_some_iff.1 hj').1
    have h1 := hf j f hj'
    have hys : ys[j]? = some (ys[j]'(by omega)) := List.getElem?_eq_getElem (by omega)
    exact ⟨_, hys, h1.trans hys⟩)
  exact ⟨a, ha, hz⟩
/-- An argument that is a slice. -/
theorem Opens.slice {H : Type} {enc : TypeId × Value → H} {W : World} {base : Nat} {Z : List α → Prop} (h : Opens G P t (kSlice K) Z) (ht : P.underlying t = some (.slice e)) {v : Value} {d : DataW H} {ps : List MemPlace}
    (hval : Value.okWide P W .any base t v) (hd : DataW.Trod enc P W 0 (fun _ => true) true t v d ps) (hg : G.ok d) : ∃ (A : Option Addr) (l : List α) (c : Nat), v = .slice A l.length c ∧ l.length ≤ c ∧ At K (· < W.heap.size) W A l ∧ Z l := by
  obtain ⟨a0, len0, cap0, rfl⟩ := okWide_slice ht hval
  obtain ⟨fuel, hf⟩ := hd
  obtain ⟨l, ⟨A, c, hv, hc, hA⟩, hz⟩ := h.2 _ _ _ _ _ _ _ _ _ hf hg
  simp [Value.cells] at hv
  obtain ⟨rfl, rfl, rfl⟩ := hv
  exact ⟨_, l, _, rfl, hc, hA.lo, hz⟩
end
end Go.Proofs.YtimcdikeajbabaaGreatDoor
