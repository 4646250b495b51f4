/- From a walk to a statement: what the listed variables give, and the step from 'the call returns true and lays new blocks at most' to the row. Walks of weekset.Weeks and timetableref05.Weeks, and of SameInts: the weeks of a set. No condition. Walk of weekset.Format. No condition. Walks of fields.Digits, Scanner.Number, timetableref03.number, Digits: texts of digits. Conditions: at most 18 of them. -/
import Derived.Test.YtdnnahdafhddlaaGreatDoorCards
import Derived.Test.YtdnnahdafhddlaaGreatDoorTie
import Derived.LaidMore
import Derived.Lay
import Derived.Stop.LaidErr
import Derived.Deep.DeepHandedRow
import Derived.Lib.LaidU8
import Derived.Test.YtdnnahdafhddlaaGreatDoorYSameL
namespace Go.Proofs.YtdnnahdafhddlaaGreatDoor
open Go.ChangeShapes Go.WideShapes Go.ChangeAt Go.RowKit
set_option maxRecDepth 100000

theorem own : ownKnob Tryz.prog.godebug = none := by kernel_rfl
theorem laidOut : laidOutB Tryz.prog = true := by kernel_rfl

/-- The post of a law, where of the world behind the call 'Below' is known. -/
theorem post_of_below {H : Type} {enc : TypeId × Value → H} {P : Program} {f : Func} {s : ChangeSpec} {apart fresh handsOn again : Bool} {W W' : World} {args : Array Value} {v : Value} {ds gs : List (DataW H)} {before pa pv : List MemPlace}
    (hW : DataW.Whole enc P f.params.toList s.vars apart W args.toList ds gs before)
    (hres : ∀ (b : Nat) (sp : Nat → Bool) (hd : Bool), DataW.TrodAll enc P W' b sp hd f.resultTypes.toList (v.resultList f.resultTypes.size) (s.fn H (ds ++ gs)).results [])
    (hargs : ∀ sp : Nat → Bool, (∀ p ∈ before, sp p.block = true) → DataW.TrodAll enc P W' 0 sp true f.params.toList args.toList (s.fn H (ds ++ gs)).args pa)
    (hvars : ∀ sp : Nat → Bool, (∀ p ∈ before, sp p.block = true) → DataW.TrodVars enc P W' sp s.vars (s.fn H (ds ++ gs)).vars pv)
    (hps : before = pa ++ pv) (hb : Below W.heap.size W W')
    (hok : ∀ (j : Nat) (t : TypeId) (r : Value), f.resultTypes[j]? = some t → (v.resultList f.resultTypes.size)[j]? = some r → Value.okWide P W' .any 0 t r) :
    s.post enc P f apart fresh handsOn again W args v W' := by
  have hlt : ∀ p ∈ before, p.block < W.heap.size := fun p hp => hW.lt p hp
  have hold : ∀ p ∈ before, (fun b => decide (b < W.heap.size)) p.block = true := fun p hp => by simpa using hlt p hp
  refine ⟨ds, gs, before, [], pa, pv, hW, hres _ _ _, hargs _ hold, hvars _ hold, World.keptBut_mono (fun p hp => ⟨hp, ?_⟩) (hb.frame (· ∈ before)), fun _ => ?_⟩
  · rw [hps, List.mem_append] at hp
    exact Or.inr hp
  · obtain ⟨_, _, _, _, _, hz, hn⟩ := hW
    refine ⟨hok, _, _, ([] ++ pa) ++ pv, ⟨[] ++ pa, pv, trodAll_append (hargs _ (fun _ _ => rfl)) (hres _ _ _), hvars _ (fun _ _ => rfl), rfl, ?_, ?_⟩, ?_⟩
    · intro b off hp
      have hin : MemPlace.cell b off ∈ before := by rw [hps]; simpa using hp
      rw [hb.frozen (hlt _ hin)]
      exact hz b off hin
    · intro ha
      have := hn ha
      rw [hps] at this
      simpa using this
    · intro p hp _
      rw [hps]
      simpa using hp

/-- Arguments that are not touched read as they did. -/
theorem trodAll_stays {H : Type} {enc : TypeId × Value → H} {W W' : World} {sp : Nat → Bool} (hb : Below W.heap.size W W') :
    ∀ (ts : List TypeId) (vs : List Value) (ds : List (DataW H)) (ps : List MemPlace), (∀ t ∈ ts, Tryz.prog.readableRec t = true ∧ t < Tryz.prog.types.size) → (∀ p ∈ ps, p.block < W.heap.size) → (∀ p ∈ ps, sp p.block = true) →
      DataW.TrodAll enc Tryz.prog W 0 (fun _ => true) true ts vs ds ps → DataW.TrodAll enc Tryz.prog W' 0 sp true ts vs ds ps
  | [], vs, ds, ps, _, _, _, h => by
    cases vs <;> cases ds <;> simp [DataW.TrodAll] at h ⊢
    exact h
  | t :: ts, vs, ds, ps, hr, hlt, hsp, h => by
    obtain ⟨v, vs', d, ds', p, q, rfl, rfl, rfl, h1, h2⟩ := trodAll_cons h
    have ht := hr t (by simp)
    exact ⟨p, q, WideElems.Trod_stays laidOut ht.1 ht.2 h1 (fun x hx => hb.same (hlt x (by simp [hx]))) (fun x hx => hsp x (by simp [hx])),
      trodAll_stays hb ts vs' ds' q (fun u hu => hr u (by simp [hu])) (fun x hx => hlt x (by simp [hx])) (fun x hx => hsp x (by simp [hx])) h2, rfl⟩


set_option maxRecDepth 100000 in
theorem law_lifted {k : FuncId} {fn : Func} {s : OpenSpec} {c : ChangeSpec} {F : Stop.Interp} {L : List (String × DataW Unit)} {H : Type} {enc : TypeId × Value → H} {os : Os} (started : os.Started)
    (hs : s.at F = c) (hvars : s.vars = []) (hcv : c.vars = []) (hni : Tryz.checked.prog.inits.idxOf? k = none) (hfn : Tryz.prog.funcs[k]? = some fn) (hres : fn.resultTypes = #[4])
    (hread : ∀ t ∈ fn.params.toList, Tryz.prog.readableRec t = true ∧ t < Tryz.prog.types.size)
    (hfun : ∀ ds : List (DataW H), ds.length = fn.params.size → (c.fn H ds).results = [.lit (.bool true)] ∧ (c.fn H ds).args = ds ∧ (c.fn H ds).vars = [])
    (witness : ∃ (w : World) (tape : Tape) (i : Input), w.os = os ∧ (w.forCall tape i).Shaped Tryz.checked.prog ∧ i.vars = [] ∧ Input.okWide Tryz.checked.prog (w.forCall tape i) .any w.heap.size k i ∧
      s.preRow enc Tryz.checked.prog fn [] false L (w.forCall tape i).memory i.args ∧ ({} : Assume).holds Tryz.checked.prog (lone (Frame.enter Tryz.checked.prog k i.args .normal) [] (w.forCall tape i)))
    (walk : ∀ (W : World) (base : Nat) (args : Array Value) (ds : List (DataW H)) (ps : List MemPlace), (∀ (j : Nat) t v, fn.params[j]? = some t → args[j]? = some v → Value.okWide Tryz.prog W .any base t v) →
      DataW.TrodAll enc Tryz.prog W 0 (fun _ => true) true fn.params.toList args.toList ds ps → (∀ p ∈ ps, p.block < W.heap.size) → (∀ q, s.cond = some q → q H ds = true) →
      laidMetH Tryz.prog L W → W.ShapedOpen Tryz.prog → Calls Tryz.prog k args W fun e W' => e = .returned (.bool true) ∧ Below W.heap.size W W') :
    ReturnsInHanded {} Tryz.checked os k .any (s.preRow enc Tryz.prog fn [] false L) ((s.at F).post enc Tryz.prog fn false true false false) := by
  refine returnsInHanded_of_row (C := Tryz.checked) (s := s) own started hni hfn witness ?_
  intro W base args ds gs before hval hW _ hcond _ hL hsh _
  have hW' := hW
  obtain ⟨p, q, hA0, hV, rfl, hfz, hnd⟩ := hW
  have hA : DataW.TrodAll enc Tryz.prog W 0 (fun _ => true) true fn.params.toList args.toList ds p := hA0
  rw [hvars] at hV
  obtain ⟨rfl, rfl⟩ := trodVars_none hV
  have hlt : ∀ x ∈ p, x.block < W.heap.size := fun x hx => hW'.lt x (by simp [hx])
  have hlen : ds.length = fn.params.size := by
    have : ∀ (ts : List TypeId) (vs : List Value) (es : List (DataW H)) (ps : List MemPlace), DataW.TrodAll enc Tryz.prog W 0 (fun _ => true) true ts vs es ps → es.length = ts.length := by
      intro ts
      induction ts with
      | nil => intro vs es ps h; cases vs <;> cases es <;> simp [DataW.TrodAll] at h ⊢
      | cons t ts ih =>
        intro vs es ps h
        obtain ⟨v, vs', d, ds', p', q', rfl, rfl, rfl, _, h2⟩ := trodAll_cons h
        simp [ih _ _ _ h2]
    have := this _ _ _ _ hA
    simpa using this
  obtain ⟨f1, f2, f3⟩ := hfun ds hlen
  refine (walk W base args ds p hval hA hlt (fun q hq => by have := hcond q hq; simpa using this) hL hsh).mono fun e W' ⟨he, hb⟩ => ?_
  subst he
  refine ⟨_, rfl, ?_⟩
  rw [hs]
  refine post_of_below (pa := p) (pv := []) (gs := []) (ds := ds) (before := p ++ []) (by rw [hcv]; rw [hvars] at hW'; exact hW') ?_ ?_ ?_ rfl hb ?_
  · intro b sp hd
    rw [List.append_nil, f1, hres]
    exact trodAll_mk1 (shut_bool Tryz.underlying4 _)
  · intro sp hsp
    rw [List.append_nil, f2]
    exact trodAll_stays hb _ _ _ _ hread hlt (fun x hx => hsp x (by simp [hx])) hA
  · intro sp hsp
    rw [List.append_nil, f3, hcv]
    rfl
  · exact ok_one hres rfl (okWide_bool_mk Tryz.underlying4 _)

/-- What the walks want of the world, out of the row's list and the world's shape. -/
theorem std_of {L : List (String × DataW Unit)} {W : World} (hL : laidMetH Tryz.prog L W) (hsh : W.ShapedOpen Tryz.prog) (hplain : (L.all fun x => x.2.handleName?.isNone) = true)
    (hp : (L.filter fun x => x.1 == "internal/strconv.uint64pow10") = [("internal/strconv.uint64pow10", Rows.laid_internal_strconv_uint64pow10)])
    (he : (L.filter fun x => x.1 == "strconv.ErrSyntax") = [("strconv.ErrSyntax", Rows.laid_strconv_ErrSyntax)])
    (hr : (L.filter fun x => x.1 == "strconv.ErrRange") = [("strconv.ErrRange", Rows.laid_strconv_ErrRange)]) : Std W := by
  rw [MakeChecks.laidMetH_plain _ _ _ hplain] at hL
  -- function 50
  have hmax := Tryz.laysM145.s1_3 W hsh
  have h10 := laidMet.filter (fun x => x.1 == "internal/strconv.uint64pow10") hL
  rw [hp] at h10
  have hes := laidMet.filter (fun x => x.1 == "strconv.ErrSyntax") hL
  rw [he] at hes
  have her := laidMet.filter (fun x => x.1 == "strconv.ErrRange") hL
  rw [hr] at her
  have hrow : ∀ u, Tryz.prog.typeName? 3 u = some "*errors.errorString" → u = 258 := fun u hu =>
    typeName_ptr_named (P := Tryz.prog) (nm := "errors.errorString") (by kernel_rfl) (by kernel_rfl) (by decide) u hu
  have hpow : Lib.TabIs Tryz.prog W "internal/strconv.uint64pow10" .u64 Lib.pow10Tab :=
    Lib.tabIs_of_head (rest := []) (g := 7) (t := 219) (e := 199) (n := 20) (by kernel_rfl) (by kernel_rfl) Tryz.underlying219 Tryz.underlying199 (by kernel_rfl) (by kernel_rfl) h10
  obtain ⟨a1, s1, hv1, -, -, -⟩ := laid_sentinel (P := Tryz.prog) (g := 10) (ti := 74) hes (by kernel_rfl) (by kernel_rfl) Tryz.underlying74 hrow Tryz.underlying258 Tryz.underlying260 rfl rfl Tryz.underlying9 (by kernel_rfl) (by kernel_rfl)
  obtain ⟨a2, s2, hv2, -, -, -⟩ := laid_sentinel (P := Tryz.prog) (g := 11) (ti := 74) her (by kernel_rfl) (by kernel_rfl) Tryz.underlying74 hrow Tryz.underlying258 Tryz.underlying260 rfl rfl Tryz.underlying9 (by kernel_rfl) (by kernel_rfl)
  have hg1 : Tryz.prog.globalNamed "strconv.ErrSyntax" = some 10 := by kernel_rfl
  have hg2 : Tryz.prog.globalNamed "strconv.ErrRange" = some 11 := by kernel_rfl
  have hbig : 12 ≤ W.heap.size := by
    obtain ⟨o, o₀, ho, -, -⟩ := hsh.2 12 (Nat.le_of_eq (by kernel_rfl)) (of_decide_eq_true (by kernel_rfl))
    have := (Array.getElem?_eq_some_iff.1 ho).1
    omega
  exact { big := hbig, maxLen := hmax, pow10 := hpow, errSyntax := ⟨_, _, World.var?_cell hg1 hv1 0⟩, errRange := ⟨_, _, World.var?_cell hg2 hv2 0⟩ }

/-- An array of strings that reads as a list of texts holds these. -/
theorem cells_of_strs {H : Type} {enc : TypeId × Value → H} {P : Program} {w : World} {base : Nat} {sp : Nat → Bool} {held : Bool} {fuel : Nat} {t e : TypeId} {n : Nat} {cs : List Value} {zs : List ByteArray} {p : List MemPlace}
    (ht : P.underlying t = some (.array n e)) (he : P.underlying e = some .string) (hce : P.cellsOf e = 1) (hct : P.cellsOf t = n)
    (h : DataW.trod enc P w base sp held fuel t cs = some (.agg (zs.map fun z => .lit (.string z.data.toList)), p)) : cs = zs.map Value.string := by
  cases fuel with
  | zero => simp [DataW.trod] at h
  | succ fuel =>
    simp only [DataW.trod, ht, hce, hct, Nat.mul_one] at h
    split at h
    · rename_i hl
      obtain ⟨xs, hm, hx⟩ := Option.map_eq_some_iff.1 h
      have hxs : xs.map (·.1) = zs.map fun z => (DataW.lit (.string z.data.toList) : DataW H) := by
        have := congrArg Prod.fst hx
        simpa using this
      have hxl : xs.length = n := by simpa using Lib.mapM_length hm
      have hzl : zs.length = n := by
        have := congrArg List.length hxs
        simp at this
        omega
      apply List.ext_getElem?
      intro i
      by_cases hi : i < n
      · obtain ⟨b, hb, hf⟩ := Lib.mapM_at hm i i (by simp [hi])
        obtain ⟨z, hc, hz, _⟩ := DataW.trod_string he hf
        have h1 : cs[i]? = some (.string z) := by
          have := congrArg (·[0]?) hc
          simpa [List.getElem?_take, List.getElem?_drop] using this
        have h2 : (xs.map (·.1))[i]? = some (DataW.lit (.string z.data.toList) : DataW H) := by simp [hb, hz]
        rw [hxs] at h2
        simp only [List.getElem?_map, Option.map_eq_some_iff, DataW.lit.injEq, Lit.string.injEq] at h2
        obtain ⟨z', hz', hzz⟩ := h2
        have hzz : z' = z := by
          apply ByteArray.ext
          exact Array.toList_inj.1 hzz
        subst hzz
        simp [h1, hz']
      · rw [List.getElem?_eq_none (by omega), List.getElem?_eq_none (by simp; omega)]
    · cases h
theorem strs_of_head {P : Program} {W : World} {name : String} {zs : List ByteArray} {rest : List (String × DataW Unit)} {g : Nat} {t e : TypeId} {n : Nat}
    (hg : P.globalNamed name = some g) (hty : (P.globals[g]?).map (·.type) = some t) (ht : P.underlying t = some (.array n e)) (he : P.underlying e = some .string) (hce : P.cellsOf e = 1) (hct : P.cellsOf t = n)
    (h : laidMet P ((name, .agg (zs.map fun z => .lit (.string z.data.toList))) :: rest) W) : ∃ t r, W.heap[g]? = some (.cells (zs.map Value.string).toArray t r) := by
  obtain ⟨ps, ⟨g', t', cs, fuel, p, q, hg', ht', hvar, hd, _, _⟩, _⟩ := h
  obtain rfl := Option.some.inj (hg.symm.trans hg')
  obtain rfl := Option.some.inj (hty.symm.trans ht')
  rw [← cells_of_strs ht he hce hct hd]
  unfold World.var? at hvar
  rw [hg, Option.bind_some] at hvar
  split at hvar
  · rename_i c t' r ho
    obtain rfl := Option.some.inj hvar
    exact ⟨t', r, ho⟩
  · cases hvar
theorem wds_of {L : List (String × DataW Unit)} {W : World} (hL : laidMetH Tryz.prog L W) (hplain : (L.all fun x => x.2.handleName?.isNone) = true) (hw : (L.filter fun x => x.1 == "timetable/timetableref05.words") = [("timetable/timetableref05.words", Rows.laid_timetable_timetableref05_words)]) : Wds W := by
  rw [MakeChecks.laidMetH_plain _ _ _ hplain] at hL
  have h := laidMet.filter (fun x => x.1 == "timetable/timetableref05.words") hL
  rw [hw] at h
  exact strs_of_head (zs := [⟨#[97, 108, 108]⟩, ⟨#[111, 100, 100]⟩, ⟨#[101, 118, 101, 110]⟩, ⟨#[102, 105, 114, 115, 116]⟩, ⟨#[115, 101, 99, 111, 110, 100]⟩]) (rest := []) (g := 3) (t := 156) (e := 9) (n := 5) (by kernel_rfl) (by kernel_rfl) Tryz.underlying156 Tryz.underlying9 (by kernel_rfl) (by kernel_rfl) h
theorem dys_of {L : List (String × DataW Unit)} {W : World} (hL : laidMetH Tryz.prog L W) (hplain : (L.all fun x => x.2.handleName?.isNone) = true) (hw : (L.filter fun x => x.1 == "timetable/timetableref06.days") = [("timetable/timetableref06.days", Rows.laid_timetable_timetableref06_days)]) : Dys W := by
  rw [MakeChecks.laidMetH_plain _ _ _ hplain] at hL
  have h := laidMet.filter (fun x => x.1 == "timetable/timetableref06.days") hL
  rw [hw] at h
  exact strs_of_head (zs := [⟨#[77, 111]⟩, ⟨#[84, 117]⟩, ⟨#[87, 101]⟩, ⟨#[84, 104]⟩, ⟨#[70, 114]⟩, ⟨#[83, 97]⟩, ⟨#[83, 117]⟩]) (rest := []) (g := 2) (t := 121) (e := 9) (n := 7) (by kernel_rfl) (by kernel_rfl) Tryz.underlying121 Tryz.underlying9 (by kernel_rfl) (by kernel_rfl) h
/-- A slice of numbers that came in. -/
theorem open_ints_any {H : Type} {enc : TypeId × Value → H} {W : World} {base : Nat} {v : Value} {d : DataW H} {ps : List MemPlace} (hval : Value.okWide Tryz.prog W .any base 27 v)
    (hd : DataW.Trod enc Tryz.prog W 0 (fun _ => true) true 27 v d ps) :
    ∃ A n c, v = .slice A n c ∧ (0 < n → ∃ b off, A = some ⟨b, off, none⟩ ∧ ∀ j, j < n → ∃ x : Int, W.cell? ⟨b, off + j, none⟩ = some (.int .i64 x)) := by
  obtain ⟨a0, len, cap, rfl⟩ := okWide_slice Tryz.underlying27 hval
  obtain ⟨fuel, hf⟩ := hd
  have hc1 : Tryz.prog.cellsOf 3 = 1 := by kernel_rfl
  refine ⟨a0, len, cap, rfl, fun hn => ?_⟩
  rcases open_ints Tryz.underlying27 Tryz.underlying3 hc1 hf with ⟨hcs, hx⟩ | ⟨a, len', cap', zs, hcs, _, hl, hm, hz, hx, hcell, hwz⟩
  · simp [Value.cells] at hcs
    omega
  · simp [Value.cells] at hcs
    obtain ⟨rfl, rfl, rfl⟩ := hcs
    simp only [if_true] at hz
    obtain ⟨b, off, spot⟩ := a
    have hspot : spot = none := by simpa [Addr.add] using World.cell?_spot (hcell 0 (by omega))
    subst hspot
    exact ⟨b, off, rfl, fun j hj => ⟨_, by rw [← add_plain]; exact hcell j (by omega)⟩⟩
end Go.Proofs.YtdnnahdafhddlaaGreatDoor

namespace Go.Proofs.YtdnnahdafhddlaaGreatDoor
open Go.RowKit

theorem new_one (w : World) (x : Value) (t : TypeId) : ∀ (j : Nat) (u : Value), [x][j]? = some u → (w.alloc (.cells #[x] t)).cell? ((⟨w.heap.size, 0, none⟩ : Addr).add j) = some u := by
  intro j u hu
  match j, hu with
  | 0, hu => simp at hu; subst hu; simp [Addr.add]
theorem one_str {x : ByteArray} : ∀ u ∈ [Value.string x], u.oneCell' = true := by
  intro u hu; simp at hu; subst hu; rfl
end Go.Proofs.YtdnnahdafhddlaaGreatDoor

namespace Go.Proofs.YtdnnahdafhddlaaGreatDoor
open Go.RowKit
set_option maxRecDepth 100000

theorem infoStr : (Tryz.prog.info? 9).map (fun i => (i.zero, i.size, i.bytes)) = some (some (.string ⟨#[]⟩), 1, 16) := by kernel_rfl
/-- The texts of a list, in memory of their own. -/
def StrsAt (B : Nat) (W : World) (v : Value) (xs : List (List UInt8)) : Prop := W.ownsRow B 9 1 v xs.length (xs.map fun x => Value.string ⟨x.toArray⟩)
theorem StrsAt.nil (B : Nat) (W : World) : StrsAt B W (.slice none 0 0) [] := World.ownsRow_nil _ _ _ _
end Go.Proofs.YtdnnahdafhddlaaGreatDoor

namespace Go.Proofs.YtdnnahdafhddlaaGreatDoor
open Go.RowKit
set_option maxRecDepth 100000

def cutDigits : ByteArray := ⟨#[48, 49, 50, 51, 52, 53, 54, 55, 56, 57]⟩
theorem trim_walk (s : ByteArray) (w : World) (hs : s.size ≤ 9223372036854775807) :
    Calls Tryz.prog 52 #[.string s, .string cutDigits] w fun e w' => e = .returned (.string ⟨(Lib.trimS s.data.toList cutDigits.data.toList).toArray⟩) ∧ Below w.heap.size w w' :=
  Any.strings_Trim_laid Tryz.lays160 (by kernel_rfl) s cutDigits w hs (by decide) (ascii_of_all (by decide))
/-- All bytes are digits. -/
def digS (s : ByteArray) : Bool := s.data.toList.all fun b => digN b.toNat
theorem cut_has (b : UInt8) : cutDigits.data.toList.contains b = digN b.toNat := by
  have h : ∀ n : Fin 256, cutDigits.data.toList.contains (UInt8.ofNat n.val) = digN n.val := by decide
  have := h ⟨b.toNat, b.toNat_lt⟩
  simpa using this
theorem drop_all {p : UInt8 → Bool} : ∀ {l : List UInt8}, l.all p = true → l.dropWhile p = []
  | [], _ => rfl
  | b :: l, h => by
    rw [List.all_cons, Bool.and_eq_true] at h
    rw [List.dropWhile_cons, if_pos h.1]
    exact drop_all h.2
theorem all_drop {p : UInt8 → Bool} : ∀ {l : List UInt8}, l.dropWhile p = [] → l.all p = true
  | [], _ => rfl
  | b :: l, h => by
    rw [List.dropWhile_cons] at h
    split at h
    · rename_i hb; rw [List.all_cons, hb, all_drop h]; rfl
    · cases h
theorem trim_all (s : ByteArray) : Lib.trimS s.data.toList cutDigits.data.toList = [] ↔ digS s = true := by
  have hf : (fun b => cutDigits.data.toList.contains b) = fun b : UInt8 => digN b.toNat := funext cut_has
  unfold Lib.trimS Lib.trimLeftS Lib.trimRightS digS
  rw [hf]
  constructor
  · intro h
    have h1 := all_drop h
    rw [List.all_reverse] at h1
    cases hd : List.dropWhile (fun b : UInt8 => digN b.toNat) s.data.toList.reverse with
    | nil => have := all_drop hd; rwa [List.all_reverse] at this
    | cons a t =>
      rw [hd, List.all_cons, Bool.and_eq_true] at h1
      have : ∀ {l : List UInt8}, List.dropWhile (fun b : UInt8 => digN b.toNat) l = a :: t → digN a.toNat = false := by
        intro l
        induction l with
        | nil => intro h; cases h
        | cons b l ih =>
          intro h
          rw [List.dropWhile_cons] at h
          split at h
          · exact ih h
          · rename_i hb; injection h with h2; subst h2; simpa using hb
      rw [this hd] at h1
      cases h1.1
  · intro h
    rw [drop_all (l := s.data.toList.reverse) (by rw [List.all_reverse]; exact h)]
    rfl
/-- The number that digits spell. -/
def valS (s : ByteArray) : Nat := (Lib.decFrom 0 s.data.toList).getD 0
def valTo (s : ByteArray) (k : Nat) : Nat := (Lib.decFrom 0 (s.data.toList.take k)).getD 0
theorem dec_some : ∀ {l : List UInt8} (a : Nat), (l.all fun b => digN b.toNat) = true → ∃ n, Lib.decFrom a l = some n ∧ n + 1 ≤ (a + 1) * 10 ^ l.length
  | [], a, _ => ⟨a, rfl, by simp⟩
  | b :: l, a, h => by
    rw [List.all_cons, Bool.and_eq_true] at h
    obtain ⟨h1, h2⟩ := h
    have h1 : 48 ≤ b.toNat ∧ b.toNat ≤ 57 := of_decide_eq_true h1
    obtain ⟨n, hn, hb⟩ := dec_some (a * 10 + (b.toNat - 48)) h2
    refine ⟨n, by simp only [Lib.decFrom, Lib.digitVal, if_pos h1]; exact hn, ?_⟩
    rw [List.length_cons, Nat.pow_succ, Nat.mul_comm (10 ^ _) 10, ← Nat.mul_assoc]
    exact Nat.le_trans hb (Nat.mul_le_mul_right _ (by omega))
theorem dig_val {s : ByteArray} (h : digS s = true) : Lib.decFrom 0 s.data.toList = some (valS s) ∧ valS s + 1 ≤ 10 ^ s.size := by
  obtain ⟨n, hn, hb⟩ := dec_some 0 h
  have e : valS s = n := by unfold valS; rw [hn]; rfl
  rw [e]
  rw [ba_len] at hb
  exact ⟨hn, by omega⟩
theorem dig_first {s : ByteArray} (h : digS s = true) (h0 : 0 < s.size) : 48 ≤ s[0].toNat ∧ s[0].toNat ≤ 57 := by
  have := List.all_eq_true.1 h s[0] (List.mem_of_getElem? (ba_at0 s h0))
  exact of_decide_eq_true this
theorem dig_atoi {s : ByteArray} (h : digS s = true) (h0 : 0 < s.size) : Lib.atoi s.data.toList = some (valS s : Int) := by
  obtain ⟨f1, f2⟩ := dig_first h h0
  have h1 := (dig_val h).1
  have ha := ba_at0 s h0
  obtain ⟨c, hc⟩ : ∃ c, s[0] = c := ⟨_, rfl⟩
  rw [hc] at f1 f2 ha
  cases hl : s.data.toList with
  | nil => rw [hl] at ha; cases ha
  | cons b r =>
    rw [hl] at ha h1
    obtain rfl : b = c := by simpa using ha
    have h43 : ¬ b = 43 := by rintro rfl; revert f1; decide
    have h45 : ¬ b = 45 := by rintro rfl; revert f1; decide
    simp [Lib.atoi, h43, h45, Lib.decNat, h1]
/-- The number of a text of at most so many digits. -/
def numE (most : Nat) (s : ByteArray) : Option Nat := if 1 ≤ s.size ∧ s.size ≤ most ∧ digS s = true then some (valS s) else none
def digV (o : Option Nat) : Value := .tuple #[.int .i64 ((o.getD 0 : Nat) : Int), .bool o.isSome]
end Go.Proofs.YtdnnahdafhddlaaGreatDoor
