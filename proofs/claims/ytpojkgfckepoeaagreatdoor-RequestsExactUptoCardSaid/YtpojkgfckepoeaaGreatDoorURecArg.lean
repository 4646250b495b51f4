/- From a walk to a statement: what the listed variables give, and the step from 'the call returns true and lays new blocks at most' to the row. Arguments opened to data of kinds. No condition. The argument []api.Record opened to cells, where its bulk is bounded. -/
import Derived.Test.YtpojkgfckepoeaaGreatDoorRows
import Derived.WalkKit
import Derived.WalkSpells
import Derived.WalkLawsBesides
import Derived.BigGuardPart
import Derived.Lib.Hide
import Derived.Laws.BitsAllLaws
import Derived.Laws.BitsLemmas
import Derived.Lib.LaidTab
import Derived.Test.YtpojkgfckepoeaaGreatDoorShelf
import Derived.Lib.ConvBytes
import Derived.Deep.QuietTactic
import Derived.BigQuiet
import Derived.Test.YtpojkgfckepoeaaGreatDoorCards
import Derived.Test.YtpojkgfckepoeaaGreatDoorTie
import Derived.ProofKit
import Derived.OpenShut
import Derived.LaidMore
import Derived.Lay
import Derived.SevenTiedAt
import Derived.Stop.Joined
import Derived.Stop.LaidErr
import Derived.Deep.DeepHandedRow
import Derived.Lib.LaidU8
import Derived.LaidSub
import Derived.Test.YtpojkgfckepoeaaGreatDoorUEnds
import Derived.Laws.ResultCell
import Derived.RegionTactic
import Derived.BigRegion
import Derived.Deep.RegionHeld3
import Derived.Deep.DeepCutAuto
import Derived.Lib.SmallJoins
import Derived.Lib.SplitLaws
import Derived.Lib.CountLaws
import Derived.Lib.IndexMore
import Derived.Lib.Split
import Derived.Lib.Join
import Derived.Lib.ItoaNum
import Derived.Laws.AppendOwn
import Derived.Deep.Slices
import Derived.Deep.Fields
import Derived.ChangeSame
import Derived.Test.YtpojkgfckepoeaaGreatDoorUSameL
import Derived.Deep.AppendLies
import Derived.Test.YtpojkgfckepoeaaGreatDoorUStaffB
namespace Go.Proofs.YtpojkgfckepoeaaGreatDoor
open Go.ChangeShapes Go.WideShapes Go.ChangeAt Go.RowKit
set_option maxRecDepth 100000

theorem own : ownKnob Tryz.prog.godebug = none := by kernel_rfl
theorem laidOut : laidOutB Tryz.prog = true := by kernel_rfl

/-- The post of a law, where of the world behind the call 'Below' is known. -/
theorem post_of_below {H : Type} {enc : TypeId × Value → H} {P : Program} {f : Func} {s : ChangeSpec} {apart fresh handsOn again : Bool} {W W' : World} {args : Array Value} {v : Value} {ds gs : List (DataW H)} {before pa pv : List MemPlace}
    (hW : DataW.Whole enc P f.params.toList s.vars apart W args.toList ds gs before)
    (hres : ∀ (b : Nat) (sp : Nat → Bool) (hd : Bool), DataW.TrodAll enc P W' b sp hd f.resultTypes.toList (v.resultList f.resultTypes.size) (s.fn H (ds ++ gs)).results [])
    (hargs : ∀ sp : Nat → Bool, (∀ p ∈ before, sp p.block = true) → DataW.TrodAll enc P W' 0 sp true f.params.toList args.toList (s.fn H (ds ++ gs)).args pa)
    (hvars : ∀ sp : Nat → Bool, (∀ p ∈ before, sp p.block = true) → DataW.TrodVars enc P W' sp s.vars (s.fn H (ds ++ gs)).vars pv)
    (hps : before = pa ++ pv) (hb : Below W.heap.size W W')
    (hok : ∀ (j : Nat) (t : TypeId) (r : Value), f.resultTypes[j]? = some t → (v.resultList f.resultTypes.size)[j]? = some r → Value.okWide P W' .any 0 t r) :
    s.post enc P f apart fresh handsOn again W args v W' := by
  have hlt : ∀ p ∈ before, p.block < W.heap.size := fun p hp => hW.lt p hp
  have hold : ∀ p ∈ before, (fun b => decide (b < W.heap.size)) p.block = true := fun p hp => by simpa using hlt p hp
  refine ⟨ds, gs, before, [], pa, pv, hW, hres _ _ _, hargs _ hold, hvars _ hold, World.keptBut_mono (fun p hp => ⟨hp, ?_⟩) (hb.frame (· ∈ before)), fun _ => ?_⟩
  · rw [hps, List.mem_append] at hp
    exact Or.inr hp
  · obtain ⟨_, _, _, _, _, hz, hn⟩ := hW
    refine ⟨hok, _, _, ([] ++ pa) ++ pv, ⟨[] ++ pa, pv, trodAll_append (hargs _ (fun _ _ => rfl)) (hres _ _ _), hvars _ (fun _ _ => rfl), rfl, ?_, ?_⟩, ?_⟩
    · intro b off hp
      have hin : MemPlace.cell b off ∈ before := by rw [hps]; simpa using hp
      rw [hb.frozen (hlt _ hin)]
      exact hz b off hin
    · intro ha
      have := hn ha
      rw [hps] at this
      simpa using this
    · intro p hp _
      rw [hps]
      simpa using hp

/-- Arguments that are not touched read as they did. -/
theorem trodAll_stays {H : Type} {enc : TypeId × Value → H} {W W' : World} {sp : Nat → Bool} (hb : Below W.heap.size W W') :
    ∀ (ts : List TypeId) (vs : List Value) (ds : List (DataW H)) (ps : List MemPlace), (∀ t ∈ ts, Tryz.prog.readableRec t = true ∧ t < Tryz.prog.types.size) → (∀ p ∈ ps, p.block < W.heap.size) → (∀ p ∈ ps, sp p.block = true) →
      DataW.TrodAll enc Tryz.prog W 0 (fun _ => true) true ts vs ds ps → DataW.TrodAll enc Tryz.prog W' 0 sp true ts vs ds ps
  | [], vs, ds, ps, _, _, _, h => by
    cases vs <;> cases ds <;> simp [DataW.TrodAll] at h ⊢
    exact h
  | t :: ts, vs, ds, ps, hr, hlt, hsp, h => by
    obtain ⟨v, vs', d, ds', p, q, rfl, rfl, rfl, h1, h2⟩ := trodAll_cons h
    have ht := hr t (by simp)
    exact ⟨p, q, WideElems.Trod_stays laidOut ht.1 ht.2 h1 (fun x hx => hb.same (hlt x (by simp [hx]))) (fun x hx => hsp x (by simp [hx])),
      trodAll_stays hb ts vs' ds' q (fun u hu => hr u (by simp [hu])) (fun x hx => hlt x (by simp [hx])) (fun x hx => hsp x (by simp [hx])) h2, rfl⟩


set_option maxRecDepth 100000 in
theorem law_lifted {k : FuncId} {fn : Func} {s : OpenSpec} {c : ChangeSpec} {F : Stop.Interp} {L : List (String × DataW Unit)} {H : Type} {enc : TypeId × Value → H} {os : Os} (started : os.Started)
    (hs : s.at F = c) (hvars : s.vars = []) (hcv : c.vars = []) (hni : Tryz.checked.prog.inits.idxOf? k = none) (hfn : Tryz.prog.funcs[k]? = some fn) (hres : fn.resultTypes = #[4])
    (hread : ∀ t ∈ fn.params.toList, Tryz.prog.readableRec t = true ∧ t < Tryz.prog.types.size)
    (hfun : ∀ ds : List (DataW H), ds.length = fn.params.size → (c.fn H ds).results = [.lit (.bool true)] ∧ (c.fn H ds).args = ds ∧ (c.fn H ds).vars = [])
    (witness : ∃ (w : World) (tape : Tape) (i : Input), w.os = os ∧ (w.forCall tape i).Shaped Tryz.checked.prog ∧ i.vars = [] ∧ Input.okWide Tryz.checked.prog (w.forCall tape i) .any w.heap.size k i ∧
      s.preRow enc Tryz.checked.prog fn [] false L (w.forCall tape i).memory i.args ∧ ({} : Assume).holds Tryz.checked.prog (lone (Frame.enter Tryz.checked.prog k i.args .normal) [] (w.forCall tape i)))
    (walk : ∀ (W : World) (base : Nat) (args : Array Value) (ds : List (DataW H)) (ps : List MemPlace), (∀ (j : Nat) t v, fn.params[j]? = some t → args[j]? = some v → Value.okWide Tryz.prog W .any base t v) →
      DataW.TrodAll enc Tryz.prog W 0 (fun _ => true) true fn.params.toList args.toList ds ps → (∀ p ∈ ps, p.block < W.heap.size) → (∀ q, s.cond = some q → q H ds = true) →
      laidMetH Tryz.prog L W → W.ShapedOpen Tryz.prog → Calls Tryz.prog k args W fun e W' => e = .returned (.bool true) ∧ Below W.heap.size W W') :
    ReturnsInHanded {} Tryz.checked os k .any (s.preRow enc Tryz.prog fn [] false L) ((s.at F).post enc Tryz.prog fn false true false false) := by
  refine returnsInHanded_of_row (C := Tryz.checked) (s := s) own started hni hfn witness ?_
  intro W base args ds gs before hval hW _ hcond _ hL hsh _
  have hW' := hW
  obtain ⟨p, q, hA0, hV, rfl, hfz, hnd⟩ := hW
  have hA : DataW.TrodAll enc Tryz.prog W 0 (fun _ => true) true fn.params.toList args.toList ds p := hA0
  rw [hvars] at hV
  obtain ⟨rfl, rfl⟩ := trodVars_none hV
  have hlt : ∀ x ∈ p, x.block < W.heap.size := fun x hx => hW'.lt x (by simp [hx])
  have hlen : ds.length = fn.params.size := by
    have : ∀ (ts : List TypeId) (vs : List Value) (es : List (DataW H)) (ps : List MemPlace), DataW.TrodAll enc Tryz.prog W 0 (fun _ => true) true ts vs es ps → es.length = ts.length := by
      intro ts
      induction ts with
      | nil => intro vs es ps h; cases vs <;> cases es <;> simp [DataW.TrodAll] at h ⊢
      | cons t ts ih =>
        intro vs es ps h
        obtain ⟨v, vs', d, ds', p', q', rfl, rfl, rfl, _, h2⟩ := trodAll_cons h
        simp [ih _ _ _ h2]
    have := this _ _ _ _ hA
    simpa using this
  obtain ⟨f1, f2, f3⟩ := hfun ds hlen
  refine (walk W base args ds p hval hA hlt (fun q hq => by have := hcond q hq; simpa using this) hL hsh).mono fun e W' ⟨he, hb⟩ => ?_
  subst he
  refine ⟨_, rfl, ?_⟩
  rw [hs]
  refine post_of_below (pa := p) (pv := []) (gs := []) (ds := ds) (before := p ++ []) (by rw [hcv]; rw [hvars] at hW'; exact hW') ?_ ?_ ?_ rfl hb ?_
  · intro b sp hd
    rw [List.append_nil, f1, hres]
    exact trodAll_mk1 (shut_bool Tryz.underlying4 _)
  · intro sp hsp
    rw [List.append_nil, f2]
    exact trodAll_stays hb _ _ _ _ hread hlt (fun x hx => hsp x (by simp [hx])) hA
  · intro sp hsp
    rw [List.append_nil, f3, hcv]
    rfl
  · exact ok_one hres rfl (okWide_bool_mk Tryz.underlying4 _)

/-- What the walks want of the world, out of the row's list and the world's shape. -/
theorem std_of {L : List (String × DataW Unit)} {W : World} (hL : laidMetH Tryz.prog L W) (hsh : W.ShapedOpen Tryz.prog) (hplain : (L.all fun x => x.2.handleName?.isNone) = true)
    (hp : (L.filter fun x => x.1 == "internal/strconv.uint64pow10") = [("internal/strconv.uint64pow10", Rows.laid_internal_strconv_uint64pow10)])
    (he : (L.filter fun x => x.1 == "strconv.ErrSyntax") = [("strconv.ErrSyntax", Rows.laid_strconv_ErrSyntax)])
    (hr : (L.filter fun x => x.1 == "strconv.ErrRange") = [("strconv.ErrRange", Rows.laid_strconv_ErrRange)]) : Std W := by
  rw [MakeChecks.laidMetH_plain _ _ _ hplain] at hL
  -- function 128
  have hmax := Tryz.laysM145.s1_3 W hsh
  have h10 := laidMet.filter (fun x => x.1 == "internal/strconv.uint64pow10") hL
  rw [hp] at h10
  have hes := laidMet.filter (fun x => x.1 == "strconv.ErrSyntax") hL
  rw [he] at hes
  have her := laidMet.filter (fun x => x.1 == "strconv.ErrRange") hL
  rw [hr] at her
  have hrow : ∀ u, Tryz.prog.typeName? 3 u = some "*errors.errorString" → u = 240 := fun u hu =>
    typeName_ptr_named (P := Tryz.prog) (nm := "errors.errorString") (by kernel_rfl) (by kernel_rfl) (by decide) u hu
  have hpow : Lib.TabIs Tryz.prog W "internal/strconv.uint64pow10" .u64 Lib.pow10Tab :=
    Lib.tabIs_of_head (rest := []) (g := 1) (t := 187) (e := 148) (n := 20) (by kernel_rfl) (by kernel_rfl) Tryz.underlying187 Tryz.underlying148 (by kernel_rfl) (by kernel_rfl) h10
  obtain ⟨a1, s1, hv1, -, -, -⟩ := laid_sentinel (P := Tryz.prog) (g := 5) (ti := 162) hes (by kernel_rfl) (by kernel_rfl) Tryz.underlying162 hrow Tryz.underlying240 Tryz.underlying242 rfl rfl Tryz.underlying9 (by kernel_rfl) (by kernel_rfl)
  obtain ⟨a2, s2, hv2, -, -, -⟩ := laid_sentinel (P := Tryz.prog) (g := 6) (ti := 162) her (by kernel_rfl) (by kernel_rfl) Tryz.underlying162 hrow Tryz.underlying240 Tryz.underlying242 rfl rfl Tryz.underlying9 (by kernel_rfl) (by kernel_rfl)
  have hg1 : Tryz.prog.globalNamed "strconv.ErrSyntax" = some 5 := by kernel_rfl
  have hg2 : Tryz.prog.globalNamed "strconv.ErrRange" = some 6 := by kernel_rfl
  have hbig : 9 ≤ W.heap.size := by
    obtain ⟨o, o₀, ho, -, -⟩ := hsh.2 9 (Nat.le_of_eq (by kernel_rfl)) (of_decide_eq_true (by kernel_rfl))
    have := (Array.getElem?_eq_some_iff.1 ho).1
    omega
  exact { big := hbig, maxLen := hmax, pow10 := hpow, errSyntax := ⟨_, _, World.var?_cell hg1 hv1 0⟩, errRange := ⟨_, _, World.var?_cell hg2 hv2 0⟩ }

end Go.Proofs.YtpojkgfckepoeaaGreatDoor

namespace Go.Proofs.YtpojkgfckepoeaaGreatDoor
open Go.ChangeShapes Go.WideShapes Go.Deep Go.RowKit
set_option maxRecDepth 100000

/-- What is known of a reading's size, part by part. -/
structure Good where
  ok : ∀ {H : Type}, DataW H → Prop
  str : ByteArray → Prop
  len : Nat → Prop
  ok_str : ∀ {H : Type} {s : ByteArray}, ok (DataW.lit (H := H) (.string s.data.toList)) → str s
  ok_len : ∀ {H : Type} {ds r : List (DataW H)}, ok (.slice ds r) → len ds.length
  ok_slice : ∀ {H : Type} {ds r : List (DataW H)}, ok (.slice ds r) → ∀ d ∈ ds, ok d
  ok_agg : ∀ {H : Type} {ds : List (DataW H)}, ok (.agg ds) → ∀ d ∈ ds, ok d
  len0 : len 0
/-- The cells of a type, where they can be read, are data of a kind, of a size Z. -/
def Opens {α : Type} (G : Good) (P : Program) (t : TypeId) (K : Kind α) (Z : α → Prop) : Prop :=
  P.cellsOf t = K.k ∧ ∀ (H : Type) (enc : TypeId × Value → H) (W : World) (base : Nat) (sp : Nat → Bool) (held : Bool) (fuel : Nat) (cs : List Value) (x : DataW H × List MemPlace),
    DataW.trod enc P W base sp held fuel t cs = some x → G.ok x.1 → ∃ a, K.rep AnyB W a cs ∧ Z a
section
variable {α β : Type} {G : Good} {P : Program} {t e : TypeId} {K : Kind α} {L : Kind β} {Z : α → Prop} {Y : β → Prop}
theorem opens_str (ht : P.underlying t = some .string) (hc : P.cellsOf t = 1) : (Opens G P t kStr fun s => G.str s ∧ s.size ≤ maxLen) :=
  ⟨hc, fun H enc W base sp held fuel cs x h hg => by obtain ⟨s, e, rfl, hm⟩ := DataW.trod_string ht h; exact ⟨s, e, G.ok_str hg, hm⟩⟩
theorem opens_int (ht : P.underlying t = some (.int .i64)) (hc : P.cellsOf t = 1) : Opens G P t kInt fun _ => True :=
  ⟨hc, fun H enc W base sp held fuel cs x h _ => by obtain ⟨s, e, -, -⟩ := DataW.trod_int ht h; exact ⟨s, e, trivial⟩⟩
theorem add_at (b off i : Nat) : (⟨b, off, none⟩ : Addr).add i = ⟨b, off + i, none⟩ := by unfold Addr.add; split <;> simp_all
theorem opens_slice (ht : P.underlying t = some (.slice e)) (hc : P.cellsOf t = 1) (hk : 0 < K.k) (h : Opens G P e K Z) : Opens G P t (kSlice K) fun l => G.len l.length ∧ l.length ≤ maxLen ∧ ∀ x ∈ l, Z x := by
  refine ⟨hc, fun H enc W base sp held fuel cs x hx hg => ?_⟩
  rcases open_slice ht hx with ⟨rfl, -⟩ | ⟨a, len, cap, m, n, D, Pl, rfl, -, hl, hcm, hmm, rfl, hi⟩
  · exact ⟨[], ⟨none, 0, rfl, Nat.le_refl _, fun h0 => absurd h0 (Nat.lt_irrefl 0)⟩, G.len0, Nat.zero_le _, fun x hx => by simp at hx⟩
  · have hlm : len ≤ m := by rw [hmm]; split <;> omega
    have hlen := G.ok_len hg
    rw [List.length_map, List.length_range] at hlen
    have hall : ∀ i, i < len → ∃ (y : α) (vs : List Value), Z y ∧ K.rep AnyB W y vs ∧ ∀ q u, vs[q]? = some u → W.cell? ((a.add (i * K.k)).add q) = some u := by
      intro i hil
      obtain ⟨cs', hc', ht'⟩ := hi i (by omega)
      rw [h.1] at hc'
      obtain ⟨y, hy, hz⟩ := h.2 H enc W base sp held n cs' _ ht' (G.ok_slice hg _ (List.mem_map.2 ⟨i, by simpa using hil, rfl⟩))
      obtain ⟨_, hcl, hat⟩ := World.cells?_some hc'
      refine ⟨y, cs', hz, hy, fun q u hu => ?_⟩
      have hq : q < K.k := by have := (List.getElem?_eq_some_iff.1 hu).1; omega
      rw [hat q hq]; exact hu
    have hlist : ∀ n, n ≤ len → ∃ l : List α, l.length = n ∧ (∀ x ∈ l, Z x) ∧ ∀ j x, l[j]? = some x → ∃ vs, K.rep AnyB W x vs ∧ ∀ q u, vs[q]? = some u → W.cell? ((a.add (j * K.k)).add q) = some u := by
      intro n
      induction n with
      | zero => exact fun _ => ⟨[], rfl, fun x hx => by simp at hx, fun j x hx => by simp at hx⟩
      | succ n ih =>
        intro hn
        obtain ⟨l, h1, h2, h3⟩ := ih (by omega)
        obtain ⟨y, vs, hz, hy, hcell⟩ := hall n (by omega)
        refine ⟨l ++ [y], by simp [h1], fun x hx => ?_, fun j x hx => ?_⟩
        · rcases List.mem_append.1 hx with hx | hx
          · exact h2 x hx
          · simp at hx; subst hx; exact hz
        · by_cases hj : j < l.length
          · rw [List.getElem?_append_left hj] at hx
            exact h3 j x hx
          · have hj2 : j = n := by
              have := (List.getElem?_eq_some_iff.1 hx).1
              simp at this
              omega
            subst hj2
            rw [List.getElem?_append_right (by omega)] at hx
            simp [h1] at hx
            subst hx
            exact ⟨vs, hy, hcell⟩
    obtain ⟨l, h1, h2, h3⟩ := hlist len (Nat.le_refl _)
    refine ⟨l, ⟨some a, cap, by rw [h1], by omega, fun hn => ?_⟩, by rw [h1]; exact hlen, by rw [h1]; exact Nat.le_trans hl hcm, h2⟩
    have h00 : l[0]? = some (l[0]'hn) := List.getElem?_eq_getElem hn
    obtain ⟨vs0, hr0, hc0⟩ := h3 0 _ h00
    have hv0 : 0 < vs0.length := by rw [K.len hr0]; exact hk
    have hcell0 := hc0 0 _ (List.getElem?_eq_getElem hv0)
    obtain ⟨b, off, spot⟩ := a
    have hspot : spot = none := by simpa [Addr.add] using World.cell?_spot hcell0
    subst hspot
    refine ⟨b, off, rfl, trivial, by have := World.block_lt_of_cell? _ _ hcell0; rw [add_at, add_at] at this; exact this, fun j x hx => ?_⟩
    obtain ⟨vs, hr, hc⟩ := h3 j x hx
    refine ⟨vs, hr, fun i u hu => ?_⟩
    have := hc i u hu
    rw [add_at, add_at] at this
    exact this
/-- The same for the fields of a struct, from cell o on. -/
def OpensF {α : Type} (G : Good) (P : Program) (fs : List Field) (o : Nat) (K : Kind α) (Z : α → Prop) : Prop :=
  ∀ (H : Type) (enc : TypeId × Value → H) (W : World) (base : Nat) (sp : Nat → Bool) (held : Bool) (n : Nat) (cs : List Value) (ys : List (DataW H × List MemPlace)),
    cs.length = o + K.k → (∀ y ∈ ys, G.ok y.1) → (∀ (j : Nat) (f : Field), fs[j]? = some f → ∃ y, ys[j]? = some y ∧ DataW.trod enc P W base sp held n f.type ((cs.drop f.offset).take (P.cellsOf f.type)) = some y) → ∃ a, K.rep AnyB W a (cs.drop o) ∧ Z a
theorem opensF_one {f : Field} {o : Nat} (ho : f.offset = o) (h : Opens G P f.type K Z) : OpensF G P [f] o K Z := by
  intro H enc W base sp held n cs ys hl hg hf
  obtain ⟨y, hy, ht⟩ := hf 0 f rfl
  rw [ho, h.1, List.take_of_length_le (by rw [List.length_drop]; omega)] at ht
  exact h.2 H enc W base sp held n _ y ht (hg y (List.mem_of_getElem? hy))
theorem opensF_cons {f : Field} {fs : List Field} {o : Nat} (ho : f.offset = o) (h : Opens G P f.type K Z) (hr : OpensF G P fs (o + K.k) L Y) : OpensF G P (f :: fs) o (kPair K L) fun a => Z a.1 ∧ Y a.2 := by
  intro H enc W base sp held n cs ys hl hg hf
  have hkk : (kPair K L).k = K.k + L.k := rfl
  obtain ⟨y, hy, ht⟩ := hf 0 f rfl
  rw [ho, h.1] at ht
  obtain ⟨a, ha, hz⟩ := h.2 H enc W base sp held n _ y ht (hg y (List.mem_of_getElem? hy))
  obtain ⟨b, hb, hyy⟩ := hr H enc W base sp held n cs (ys.drop 1) (by omega) (fun y hy => hg y (List.mem_of_mem_drop hy)) (fun j f hj => by
    obtain ⟨y, hy, ht⟩ := hf (j + 1) f (by simpa using hj)
    exact ⟨y, by rw [List.getElem?_drop, Nat.add_comm]; exact hy, ht⟩)
  refine ⟨(a, b), ⟨_, _, ?_, ha, hb⟩, hz, hyy⟩
  rw [← List.drop_drop]
  exact (List.take_append_drop K.k (cs.drop o)).symm
theorem opens_struct {fs : Array Field} (ht : P.underlying t = some (.struct fs)) (hc : P.cellsOf t = K.k) (h : OpensF G P fs.toList 0 K Z) : Opens G P t K Z := by
  refine ⟨hc, fun H enc W base sp held fuel cs x hx hg => ?_⟩
  obtain ⟨ys, n, -, hy, hlen, hyl, hf⟩ := DataW.trod_struct ht hx
  subst hy
  have hlc : cs.length = K.k := hlen.trans hc
  obtain ⟨a, ha, hz⟩ := h H enc W base sp held n cs ys (by omega) (fun y hy => G.ok_agg hg _ (List.mem_map.2 ⟨y, hy, rfl⟩)) (fun j f hj => by
    have hj' : fs[j]? = some f := by rw [← Array.getElem?_toList]; exact hj
    have hjl : j < fs.size := (Array.getElem?_eq_some_iff.1 hj').1
    have h1 := hf j f hj'
    have hys : ys[j]? = some (ys[j]'(by omega)) := List.getElem?_eq_getElem (by omega)
    exact ⟨_, hys, h1.trans hys⟩)
  exact ⟨a, ha, hz⟩
/-- An argument that is a slice. -/
theorem Opens.slice {H : Type} {enc : TypeId × Value → H} {W : World} {base : Nat} {Z : List α → Prop} (h : Opens G P t (kSlice K) Z) (ht : P.underlying t = some (.slice e)) {v : Value} {d : DataW H} {ps : List MemPlace}
    (hval : Value.okWide P W .any base t v) (hd : DataW.Trod enc P W 0 (fun _ => true) true t v d ps) (hg : G.ok d) : ∃ (A : Option Addr) (l : List α) (c : Nat), v = .slice A l.length c ∧ l.length ≤ c ∧ At K (· < W.heap.size) W A l ∧ Z l := by
  obtain ⟨a0, len0, cap0, rfl⟩ := okWide_slice ht hval
  obtain ⟨fuel, hf⟩ := hd
  obtain ⟨l, ⟨A, c, hv, hc, hA⟩, hz⟩ := h.2 _ _ _ _ _ _ _ _ _ hf hg
  simp [Value.cells] at hv
  obtain ⟨rfl, rfl, rfl⟩ := hv
  exact ⟨_, l, _, rfl, hc, hA.lo, hz⟩
end
end Go.Proofs.YtpojkgfckepoeaaGreatDoor

namespace Go.Proofs.YtpojkgfckepoeaaGreatDoor
open Go.ChangeShapes Go.WideShapes Go.Deep Go.RowKit
set_option maxRecDepth 100000

section
variable {H : Type} {enc : TypeId × Value → H} {P : Program} {w : World} {base : Nat} {spare : Nat → Bool} {held : Bool}
theorem slice_fields {t e : TypeId} {fs : Array Field} {fuel : Nat} {cs : List Value} {x : DataW H × List MemPlace} (ht : P.underlying t = some (.slice e)) (he : P.underlying e = some (.struct fs))
    (hone : oneCellFields P fs = true) (hC : P.cellsOf e = fs.size) (h : DataW.trod enc P w base spare held fuel t cs = some x) :
    (cs = [.slice none 0 0] ∧ x = (.nil, [])) ∨
    ∃ (a : Addr) (len cap : Nat) (D : Nat → DataW H) (r : List (DataW H)), cs = [.slice (some a) len cap] ∧ x.1 = .slice ((List.range len).map D) r ∧
      ∀ i, i < len → ∃ (ys : List (DataW H × List MemPlace)) (n : Nat), D i = .agg (ys.map (·.1)) ∧
        ∀ (j : Nat) (f : Field), fs[j]? = some f → ∃ (v : Value) (y : DataW H × List MemPlace), w.cell? (a.add (i * fs.size + j)) = some v ∧ ys[j]? = some y ∧ DataW.trod enc P w base spare held n f.type [v] = some y := by
  rcases open_slice ht h with h0 | ⟨a, len, cap, m, n, D, Pl, hcs, -, hl, -, hmm, hx, hi⟩
  · exact .inl h0
  · refine .inr ⟨a, len, cap, D, (List.range (m - len)).map fun j => D (len + j), hcs, by rw [hx], fun i him => ?_⟩
    have hlm : len ≤ m := by rw [hmm]; split <;> omega
    obtain ⟨cs', hc, ht'⟩ := hi i (by omega)
    rw [hC] at hc
    obtain ⟨ys, n', -, hy, hlen, hyl, hf⟩ := DataW.trod_struct he ht'
    obtain ⟨_, hcl, hat⟩ := World.cells?_some hc
    simp only [Prod.mk.injEq] at hy
    refine ⟨ys, n', hy.1, fun j f hj => ?_⟩
    obtain ⟨ho, hk⟩ := hone_of hone j f hj
    have hjl : j < fs.size := (Array.getElem?_eq_some_iff.1 hj).1
    have hcell := hat j hjl
    have hv : cs'[j]? = some (cs'[j]'(by omega)) := List.getElem?_eq_getElem (by omega)
    have h1 := hf j f hj
    rw [ho, hk] at h1
    have hone' : (cs'.drop j).take 1 = [cs'[j]'(by omega)] := by
      rw [List.drop_eq_getElem_cons (by omega)]
      rfl
    rw [hone'] at h1
    have hys : ys[j]? = some (ys[j]'(by omega)) := List.getElem?_eq_getElem (by omega)
    refine ⟨_, _, ?_, hys, h1.trans hys⟩
    rw [← Go.Deep.add_add, hcell, hv]
end
section
variable {H : Type} {enc : TypeId × Value → H} {W : World} {base : Nat} {sp : Nat → Bool} {held : Bool}
theorem bulk_pos (d : DataW H) : 1 ≤ Rows.uptoBulk d := by
  cases d with
  | lit l => cases l <;> simp [Rows.uptoBulk]
  | _ => simp [Rows.uptoBulk]
theorem bulk_mem {d : DataW H} : ∀ {ds : List (DataW H)}, d ∈ ds → Rows.uptoBulk d ≤ Rows.uptoBulkAll ds
  | e :: ds, h => by
    rw [Rows.uptoBulkAll]
    rcases List.mem_cons.1 h with rfl | h
    · omega
    · have := bulk_mem h; omega
theorem bulk_len : ∀ (ds : List (DataW H)), ds.length ≤ Rows.uptoBulkAll ds
  | [] => by simp
  | d :: ds => by
    rw [Rows.uptoBulkAll, List.length_cons]
    have := bulk_len ds
    have := bulk_pos d
    omega
theorem open_flds {fuel : Nat} {v : Value} {x : DataW H × List MemPlace} (h : DataW.trod enc Tryz.prog W base sp held fuel 24 [v] = some x) (hk : Rows.uptoBulk x.1 ≤ 1048576) :
    ∃ F fs c, v = .slice F fs.length c ∧ FieldsAt W.heap.size W F fs ∧ ∀ f ∈ fs, f.1.size < 1073741824 := by
  rcases slice_fields Tryz.underlying24 Tryz.underlying95 (by kernel_rfl) (by kernel_rfl) h with ⟨hcs, rfl⟩ | ⟨a, len, cap, D, r, hcs, hx, hi⟩
  · simp only [List.cons.injEq, and_true] at hcs
    subst hcs
    exact ⟨none, [], 0, rfl, fun h => absurd h (by decide), by simp⟩
  · simp only [List.cons.injEq, and_true] at hcs
    subst hcs
    rw [hx, Rows.uptoBulk] at hk
    have hall : ∀ i, ∃ f : Fld, i < len → W.cell? (a.add (i * 3 + 0)) = some (.string f.1) ∧ W.cell? (a.add (i * 3 + 1)) = some (.int .i64 f.2.1) ∧ W.cell? (a.add (i * 3 + 2)) = some (.bool f.2.2) ∧ f.1.size < 1073741824 := by
      intro i
      by_cases hil : i < len
      · obtain ⟨ys, n, hD, hf⟩ := hi i hil
        obtain ⟨v0, y0, c0, hy0, t0⟩ := hf 0 _ rfl
        obtain ⟨v1, y1, c1, hy1, t1⟩ := hf 1 _ rfl
        obtain ⟨v2, y2, c2, hy2, t2⟩ := hf 2 _ rfl
        obtain ⟨s, e0, rfl, -⟩ := DataW.trod_string Tryz.underlying9 t0
        obtain ⟨k, e1, rfl, -⟩ := DataW.trod_int Tryz.underlying3 t1
        obtain ⟨b, e2, rfl⟩ := DataW.trod_bool Tryz.underlying4 t2
        simp only [List.cons.injEq, and_true] at e0 e1 e2
        subst e0 e1 e2
        refine ⟨(s, k, b), fun _ => ⟨c0, c1, c2, ?_⟩⟩
        have h1 := bulk_mem (ds := (List.range len).map D) (d := D i) (List.mem_map.2 ⟨i, by simpa using hil, rfl⟩)
        rw [hD, Rows.uptoBulk] at h1
        have h2 := bulk_mem (ds := ys.map (·.1)) (List.mem_map.2 ⟨_, List.mem_of_getElem? hy0, rfl⟩)
        dsimp only at h2
        rw [Rows.uptoBulk, ba_len] at h2
        show s.size < 1073741824
        omega
      · exact ⟨(⟨#[]⟩, 0, false), fun h => absurd h hil⟩
    obtain ⟨g, hg⟩ := Classical.axiomOfChoice hall
    refine ⟨some a, (List.range len).map g, cap, by simp, fun hn => ?_, fun f hf => ?_⟩
    · have hn0 : 0 < len := by simpa using hn
      obtain ⟨b, off, spot⟩ := a
      have hspot : spot = none := by simpa [Addr.add] using World.cell?_spot (hg 0 hn0).1
      subst hspot
      refine ⟨b, off, rfl, World.block_lt_of_cell? _ _ (hg 0 hn0).1, fun j hj => ?_⟩
      have hjl : j < len := by simpa using hj
      obtain ⟨c0, c1, c2, -⟩ := hg j hjl
      rw [add_plain] at c0 c1 c2
      simpa [List.getElem_map, List.getElem_range, Nat.add_assoc] using And.intro c0 (And.intro c1 c2)
    · obtain ⟨i, hi2, rfl⟩ := List.mem_map.1 hf
      exact (hg i (by simpa using hi2)).2.2.2
theorem open_recs {v : Value} {d : DataW H} {ps : List MemPlace} (hval : Value.okWide Tryz.prog W .any base 23 v)
    (hd : DataW.Trod enc Tryz.prog W 0 (fun _ => true) true 23 v d ps) (hk : Rows.uptoBulk d ≤ 1048576) :
    ∃ A rs c, v = .slice A rs.length c ∧ RecsAt W.heap.size W A rs ∧ rs.length ≤ 1048576 ∧ ∀ r ∈ rs, ∀ f ∈ r.2, f.1.size < 1073741824 := by
  obtain ⟨a0, len0, cap0, rfl⟩ := okWide_slice Tryz.underlying23 hval
  obtain ⟨fuel, hf⟩ := hd
  rcases slice_fields Tryz.underlying23 Tryz.underlying26 (by kernel_rfl) (by kernel_rfl) hf with ⟨hcs, hx⟩ | ⟨a, len, cap, D, r, hcs, hx, hi⟩
  · simp [Value.cells] at hcs
    obtain ⟨rfl, rfl, rfl⟩ := hcs
    exact ⟨none, [], 0, rfl, fun h => absurd h (by decide), by simp, by simp⟩
  · simp [Value.cells] at hcs
    obtain ⟨rfl, rfl, rfl⟩ := hcs
    dsimp only at hx
    rw [hx, Rows.uptoBulk] at hk
    have hln := bulk_len ((List.range len0).map D)
    rw [List.length_map, List.length_range] at hln
    have hall : ∀ i, ∃ x : Rec × (Option Addr × Nat), i < len0 → W.cell? (a.add (i * 2 + 0)) = some (.int .i64 x.1.1) ∧ W.cell? (a.add (i * 2 + 1)) = some (.slice x.2.1 x.1.2.length x.2.2) ∧ FieldsAt W.heap.size W x.2.1 x.1.2 ∧ ∀ f ∈ x.1.2, f.1.size < 1073741824 := by
      intro i
      by_cases hil : i < len0
      · obtain ⟨ys, n, hD, hf2⟩ := hi i hil
        obtain ⟨v0, y0, c0, hy0, t0⟩ := hf2 0 _ rfl
        obtain ⟨v1, y1, c1, hy1, t1⟩ := hf2 1 _ rfl
        obtain ⟨k, e0, rfl, -⟩ := DataW.trod_int Tryz.underlying3 t0
        simp only [List.cons.injEq, and_true] at e0
        subst e0
        have h1 := bulk_mem (ds := (List.range len0).map D) (d := D i) (List.mem_map.2 ⟨i, by simpa using hil, rfl⟩)
        rw [hD, Rows.uptoBulk] at h1
        have h2 := bulk_mem (ds := ys.map (·.1)) (List.mem_map.2 ⟨_, List.mem_of_getElem? hy1, rfl⟩)
        obtain ⟨F, fs, c, rfl, hF, hs⟩ := open_flds t1 (by omega)
        exact ⟨((k, fs), (F, c)), fun _ => ⟨c0, c1, hF, hs⟩⟩
      · exact ⟨((0, []), (none, 0)), fun h => absurd h hil⟩
    obtain ⟨g, hg⟩ := Classical.axiomOfChoice hall
    refine ⟨some a, (List.range len0).map fun i => (g i).1, cap0, by simp, fun hn => ?_, by simp; omega, fun r hr => ?_⟩
    · have hn0 : 0 < len0 := by simpa using hn
      obtain ⟨b, off, spot⟩ := a
      have hspot : spot = none := by simpa [Addr.add] using World.cell?_spot (hg 0 hn0).1
      subst hspot
      refine ⟨b, off, rfl, World.block_lt_of_cell? _ _ (hg 0 hn0).1, fun j r hr => ?_⟩
      rw [List.getElem?_map] at hr
      obtain ⟨i, hi1, rfl⟩ := Option.map_eq_some_iff.1 hr
      obtain ⟨hjl, hij⟩ := List.getElem?_eq_some_iff.1 hi1
      have hjl : j < len0 := by simpa using hjl
      obtain rfl : j = i := by simpa using hij
      obtain ⟨c0, c1, hF, -⟩ := hg j hjl
      rw [add_plain] at c0 c1
      exact ⟨_, _, c0, c1, hF⟩
    · obtain ⟨i, hi2, rfl⟩ := List.mem_map.1 hr
      exact (hg i (by simpa using hi2)).2.2.2
end
end Go.Proofs.YtpojkgfckepoeaaGreatDoor
