/- From a walk to a statement: what the listed variables give, and the step from 'the call returns true and lays new blocks at most' to the row. Walk of slices.ContainsFunc at rooms, with the closure of roomfile.Lines' reading. Conditions: the rooms' cells. Plain: the comparison of codes is a total order. No program here. Plain: data put in order one by one, whatever the order; the same in order once only; lists without doubles. No walk. -/
import Derived.Test.YtpojkgfckepoeaaGreatDoorRows
import Derived.WalkKit
import Derived.WalkSpells
import Derived.WalkLawsBesides
import Derived.BigGuardPart
import Derived.Lib.Hide
import Derived.Laws.BitsAllLaws
import Derived.Laws.BitsLemmas
import Derived.Lib.LaidTab
import Derived.Test.YtpojkgfckepoeaaGreatDoorShelf
import Derived.Lib.ConvBytes
import Derived.Deep.QuietTactic
import Derived.BigQuiet
import Derived.Test.YtpojkgfckepoeaaGreatDoorCards
import Derived.Test.YtpojkgfckepoeaaGreatDoorTie
import Derived.ProofKit
import Derived.OpenShut
import Derived.LaidMore
import Derived.Lay
import Derived.SevenTiedAt
import Derived.Stop.Joined
import Derived.Stop.LaidErr
import Derived.Deep.DeepHandedRow
import Derived.Lib.LaidU8
import Derived.LaidSub
import Derived.Test.YtpojkgfckepoeaaGreatDoorXEnds
import Derived.Test.YtpojkgfckepoeaaGreatDoorShelfS
import Derived.Laws.ResultCell
import Derived.RegionTactic
import Derived.BigRegion
import Derived.Deep.RegionHeld3
import Derived.Deep.DeepCutAuto
import Derived.Lib.SmallJoins
import Derived.Lib.SplitLaws
import Derived.Lib.CountLaws
import Derived.Lib.IndexMore
import Derived.Lib.Split
import Derived.Lib.Join
import Derived.Lib.ItoaNum
import Derived.Laws.AppendOwn
import Derived.Test.YtpojkgfckepoeaaGreatDoorShelfT
import Derived.Lib.ItoaLen
import Derived.Lib.AppendIntMem
import Derived.Deep.AppendLies
import Derived.Lib.PathFns
import Derived.Maps.Range
import Derived.Lib.OwnBridge
import Derived.Sort.OwnSorted
import Derived.Sort.Walk0
import Derived.Deep.Slices
import Derived.Deep.Fields
import Derived.ChangeSame
import Derived.Maps.OwnSet
import Derived.Deep.RegionLaw
import Derived.Deep.RegionLawGrows
import Derived.StringKeys
import Derived.Test.YtpojkgfckepoeaaGreatDoorXCmpC
import Derived.Test.YtpojkgfckepoeaaGreatDoorXIdxS
import Derived.Test.YtpojkgfckepoeaaGreatDoorXWide
import Derived.Test.YtpojkgfckepoeaaGreatDoorXSameL
namespace Go.Proofs.YtpojkgfckepoeaaGreatDoor
open Go.ChangeShapes Go.WideShapes Go.ChangeAt Go.RowKit
set_option maxRecDepth 100000

theorem own : ownKnob Tryz.prog.godebug = none := by kernel_rfl
theorem laidOut : laidOutB Tryz.prog = true := by kernel_rfl

/-- The post of a law, where of the world behind the call 'Below' is known. -/
theorem post_of_below {H : Type} {enc : TypeId × Value → H} {P : Program} {f : Func} {s : ChangeSpec} {apart fresh handsOn again : Bool} {W W' : World} {args : Array Value} {v : Value} {ds gs : List (DataW H)} {before pa pv : List MemPlace}
    (hW : DataW.Whole enc P f.params.toList s.vars apart W args.toList ds gs before)
    (hres : ∀ (b : Nat) (sp : Nat → Bool) (hd : Bool), DataW.TrodAll enc P W' b sp hd f.resultTypes.toList (v.resultList f.resultTypes.size) (s.fn H (ds ++ gs)).results [])
    (hargs : ∀ sp : Nat → Bool, (∀ p ∈ before, sp p.block = true) → DataW.TrodAll enc P W' 0 sp true f.params.toList args.toList (s.fn H (ds ++ gs)).args pa)
    (hvars : ∀ sp : Nat → Bool, (∀ p ∈ before, sp p.block = true) → DataW.TrodVars enc P W' sp s.vars (s.fn H (ds ++ gs)).vars pv)
    (hps : before = pa ++ pv) (hb : Below W.heap.size W W')
    (hok : ∀ (j : Nat) (t : TypeId) (r : Value), f.resultTypes[j]? = some t → (v.resultList f.resultTypes.size)[j]? = some r → Value.okWide P W' .any 0 t r) :
    s.post enc P f apart fresh handsOn again W args v W' := by
  have hlt : ∀ p ∈ before, p.block < W.heap.size := fun p hp => hW.lt p hp
  have hold : ∀ p ∈ before, (fun b => decide (b < W.heap.size)) p.block = true := fun p hp => by simpa using hlt p hp
  refine ⟨ds, gs, before, [], pa, pv, hW, hres _ _ _, hargs _ hold, hvars _ hold, World.keptBut_mono (fun p hp => ⟨hp, ?_⟩) (hb.frame (· ∈ before)), fun _ => ?_⟩
  · rw [hps, List.mem_append] at hp
    exact Or.inr hp
  · obtain ⟨_, _, _, _, _, hz, hn⟩ := hW
    refine ⟨hok, _, _, ([] ++ pa) ++ pv, ⟨[] ++ pa, pv, trodAll_append (hargs _ (fun _ _ => rfl)) (hres _ _ _), hvars _ (fun _ _ => rfl), rfl, ?_, ?_⟩, ?_⟩
    · intro b off hp
      have hin : MemPlace.cell b off ∈ before := by rw [hps]; simpa using hp
      rw [hb.frozen (hlt _ hin)]
      exact hz b off hin
    · intro ha
      have := hn ha
      rw [hps] at this
      simpa using this
    · intro p hp _
      rw [hps]
      simpa using hp

/-- Arguments that are not touched read as they did. -/
theorem trodAll_stays {H : Type} {enc : TypeId × Value → H} {W W' : World} {sp : Nat → Bool} (hb : Below W.heap.size W W') :
    ∀ (ts : List TypeId) (vs : List Value) (ds : List (DataW H)) (ps : List MemPlace), (∀ t ∈ ts, Tryz.prog.readableRec t = true ∧ t < Tryz.prog.types.size) → (∀ p ∈ ps, p.block < W.heap.size) → (∀ p ∈ ps, sp p.block = true) →
      DataW.TrodAll enc Tryz.prog W 0 (fun _ => true) true ts vs ds ps → DataW.TrodAll enc Tryz.prog W' 0 sp true ts vs ds ps
  | [], vs, ds, ps, _, _, _, h => by
    cases vs <;> cases ds <;> simp [DataW.TrodAll] at h ⊢
    exact h
  | t :: ts, vs, ds, ps, hr, hlt, hsp, h => by
    obtain ⟨v, vs', d, ds', p, q, rfl, rfl, rfl, h1, h2⟩ := trodAll_cons h
    have ht := hr t (by simp)
    exact ⟨p, q, WideElems.Trod_stays laidOut ht.1 ht.2 h1 (fun x hx => hb.same (hlt x (by simp [hx]))) (fun x hx => hsp x (by simp [hx])),
      trodAll_stays hb ts vs' ds' q (fun u hu => hr u (by simp [hu])) (fun x hx => hlt x (by simp [hx])) (fun x hx => hsp x (by simp [hx])) h2, rfl⟩


set_option maxRecDepth 100000 in
theorem law_lifted {k : FuncId} {fn : Func} {s : OpenSpec} {c : ChangeSpec} {F : Stop.Interp} {L : List (String × DataW Unit)} {H : Type} {enc : TypeId × Value → H} {os : Os} (started : os.Started)
    (hs : s.at F = c) (hvars : s.vars = []) (hcv : c.vars = []) (hni : Tryz.checked.prog.inits.idxOf? k = none) (hfn : Tryz.prog.funcs[k]? = some fn) (hres : fn.resultTypes = #[4])
    (hread : ∀ t ∈ fn.params.toList, Tryz.prog.readableRec t = true ∧ t < Tryz.prog.types.size)
    (hfun : ∀ ds : List (DataW H), ds.length = fn.params.size → (c.fn H ds).results = [.lit (.bool true)] ∧ (c.fn H ds).args = ds ∧ (c.fn H ds).vars = [])
    (witness : ∃ (w : World) (tape : Tape) (i : Input), w.os = os ∧ (w.forCall tape i).Shaped Tryz.checked.prog ∧ i.vars = [] ∧ Input.okWide Tryz.checked.prog (w.forCall tape i) .any w.heap.size k i ∧
      s.preRow enc Tryz.checked.prog fn [] false L (w.forCall tape i).memory i.args ∧ ({} : Assume).holds Tryz.checked.prog (lone (Frame.enter Tryz.checked.prog k i.args .normal) [] (w.forCall tape i)))
    (walk : ∀ (W : World) (base : Nat) (args : Array Value) (ds : List (DataW H)) (ps : List MemPlace), (∀ (j : Nat) t v, fn.params[j]? = some t → args[j]? = some v → Value.okWide Tryz.prog W .any base t v) →
      DataW.TrodAll enc Tryz.prog W 0 (fun _ => true) true fn.params.toList args.toList ds ps → (∀ p ∈ ps, p.block < W.heap.size) → (∀ q, s.cond = some q → q H ds = true) →
      laidMetH Tryz.prog L W → W.ShapedOpen Tryz.prog → Calls Tryz.prog k args W fun e W' => e = .returned (.bool true) ∧ Below W.heap.size W W') :
    ReturnsInHanded {} Tryz.checked os k .any (s.preRow enc Tryz.prog fn [] false L) ((s.at F).post enc Tryz.prog fn false true false false) := by
  refine returnsInHanded_of_row (C := Tryz.checked) (s := s) own started hni hfn witness ?_
  intro W base args ds gs before hval hW _ hcond _ hL hsh _
  have hW' := hW
  obtain ⟨p, q, hA0, hV, rfl, hfz, hnd⟩ := hW
  have hA : DataW.TrodAll enc Tryz.prog W 0 (fun _ => true) true fn.params.toList args.toList ds p := hA0
  rw [hvars] at hV
  obtain ⟨rfl, rfl⟩ := trodVars_none hV
  have hlt : ∀ x ∈ p, x.block < W.heap.size := fun x hx => hW'.lt x (by simp [hx])
  have hlen : ds.length = fn.params.size := by
    have : ∀ (ts : List TypeId) (vs : List Value) (es : List (DataW H)) (ps : List MemPlace), DataW.TrodAll enc Tryz.prog W 0 (fun _ => true) true ts vs es ps → es.length = ts.length := by
      intro ts
      induction ts with
      | nil => intro vs es ps h; cases vs <;> cases es <;> simp [DataW.TrodAll] at h ⊢
      | cons t ts ih =>
        intro vs es ps h
        obtain ⟨v, vs', d, ds', p', q', rfl, rfl, rfl, _, h2⟩ := trodAll_cons h
        simp [ih _ _ _ h2]
    have := this _ _ _ _ hA
    simpa using this
  obtain ⟨f1, f2, f3⟩ := hfun ds hlen
  refine (walk W base args ds p hval hA hlt (fun q hq => by have := hcond q hq; simpa using this) hL hsh).mono fun e W' ⟨he, hb⟩ => ?_
  subst he
  refine ⟨_, rfl, ?_⟩
  rw [hs]
  refine post_of_below (pa := p) (pv := []) (gs := []) (ds := ds) (before := p ++ []) (by rw [hcv]; rw [hvars] at hW'; exact hW') ?_ ?_ ?_ rfl hb ?_
  · intro b sp hd
    rw [List.append_nil, f1, hres]
    exact trodAll_mk1 (shut_bool Tryz.underlying4 _)
  · intro sp hsp
    rw [List.append_nil, f2]
    exact trodAll_stays hb _ _ _ _ hread hlt (fun x hx => hsp x (by simp [hx])) hA
  · intro sp hsp
    rw [List.append_nil, f3, hcv]
    rfl
  · exact ok_one hres rfl (okWide_bool_mk Tryz.underlying4 _)

/-- What the walks want of the world, out of the row's list and the world's shape. -/
theorem std_of {L : List (String × DataW Unit)} {W : World} (hL : laidMetH Tryz.prog L W) (hsh : W.ShapedOpen Tryz.prog) (hplain : (L.all fun x => x.2.handleName?.isNone) = true)
    (hp : (L.filter fun x => x.1 == "internal/strconv.uint64pow10") = [("internal/strconv.uint64pow10", Rows.laid_internal_strconv_uint64pow10)])
    (he : (L.filter fun x => x.1 == "strconv.ErrSyntax") = [("strconv.ErrSyntax", Rows.laid_strconv_ErrSyntax)])
    (hr : (L.filter fun x => x.1 == "strconv.ErrRange") = [("strconv.ErrRange", Rows.laid_strconv_ErrRange)]) : Std W := by
  rw [MakeChecks.laidMetH_plain _ _ _ hplain] at hL
  -- function 128
  have hmax := Tryz.laysM145.s1_3 W hsh
  have h10 := laidMet.filter (fun x => x.1 == "internal/strconv.uint64pow10") hL
  rw [hp] at h10
  have hes := laidMet.filter (fun x => x.1 == "strconv.ErrSyntax") hL
  rw [he] at hes
  have her := laidMet.filter (fun x => x.1 == "strconv.ErrRange") hL
  rw [hr] at her
  have hrow : ∀ u, Tryz.prog.typeName? 3 u = some "*errors.errorString" → u = 240 := fun u hu =>
    typeName_ptr_named (P := Tryz.prog) (nm := "errors.errorString") (by kernel_rfl) (by kernel_rfl) (by decide) u hu
  have hpow : Lib.TabIs Tryz.prog W "internal/strconv.uint64pow10" .u64 Lib.pow10Tab :=
    Lib.tabIs_of_head (rest := []) (g := 1) (t := 187) (e := 148) (n := 20) (by kernel_rfl) (by kernel_rfl) Tryz.underlying187 Tryz.underlying148 (by kernel_rfl) (by kernel_rfl) h10
  obtain ⟨a1, s1, hv1, -, -, -⟩ := laid_sentinel (P := Tryz.prog) (g := 5) (ti := 162) hes (by kernel_rfl) (by kernel_rfl) Tryz.underlying162 hrow Tryz.underlying240 Tryz.underlying242 rfl rfl Tryz.underlying9 (by kernel_rfl) (by kernel_rfl)
  obtain ⟨a2, s2, hv2, -, -, -⟩ := laid_sentinel (P := Tryz.prog) (g := 6) (ti := 162) her (by kernel_rfl) (by kernel_rfl) Tryz.underlying162 hrow Tryz.underlying240 Tryz.underlying242 rfl rfl Tryz.underlying9 (by kernel_rfl) (by kernel_rfl)
  have hg1 : Tryz.prog.globalNamed "strconv.ErrSyntax" = some 5 := by kernel_rfl
  have hg2 : Tryz.prog.globalNamed "strconv.ErrRange" = some 6 := by kernel_rfl
  have hbig : 9 ≤ W.heap.size := by
    obtain ⟨o, o₀, ho, -, -⟩ := hsh.2 9 (Nat.le_of_eq (by kernel_rfl)) (of_decide_eq_true (by kernel_rfl))
    have := (Array.getElem?_eq_some_iff.1 ho).1
    omega
  exact { big := hbig, maxLen := hmax, pow10 := hpow, errSyntax := ⟨_, _, World.var?_cell hg1 hv1 0⟩, errRange := ⟨_, _, World.var?_cell hg2 hv2 0⟩ }

end Go.Proofs.YtpojkgfckepoeaaGreatDoor

namespace Go.Proofs.YtpojkgfckepoeaaGreatDoor
open Go.RowKit
set_option maxRecDepth 100000

theorem idx_memS {z : ByteArray} {xs : List ByteArray} : 0 ≤ idxS z xs ↔ z ∈ xs := by
  constructor
  · intro h
    apply Classical.byContradiction
    intro hz
    rw [idxS_none (fun y hy => by rw [toList_dataL, toList_dataL]; exact beq_false_of_ne fun e => hz (dat_inj e ▸ hy))] at h
    exact absurd h (by decide)
  · intro hz
    apply Classical.byContradiction
    intro h
    have hall : ∀ n, n ≤ xs.length → ∀ y ∈ xs.take n, (y.toList == z.toList) = false := by
      intro n
      induction n with
      | zero => intro _ y hy; simp at hy
      | succ n ih =>
        intro hn y hy
        have hx : xs[n]? = some xs[n] := List.getElem?_eq_getElem (by omega)
        cases hq : (xs[n].toList == z.toList) with
        | false => exact take_miss hx (ih (by omega)) hq y hy
        | true => rw [idxS_hit hx (ih (by omega)) hq] at h; exact absurd (by omega) h
    have := hall xs.length (Nat.le_refl _) z (by rw [List.take_length]; exact hz)
    simp at this
end Go.Proofs.YtpojkgfckepoeaaGreatDoor

namespace Go.Proofs.YtpojkgfckepoeaaGreatDoor
open Go.RowKit
set_option maxRecDepth 100000

structure IsCmp {α : Type} (f : α → α → Int) : Prop where
  neg : ∀ x y, f y x = - f x y
  lo : ∀ x y, -1 ≤ f x y
  hi : ∀ x y, f x y ≤ 1
  tr : ∀ x y z, f x y ≤ 0 → f y z ≤ 0 → f x z ≤ 0
theorem IsCmp.lt {α : Type} {f : α → α → Int} (h : IsCmp f) {x y z : α} (h1 : f x y < 0) (h2 : f y z ≤ 0) : f x z < 0 := by
  by_cases hq : f x z < 0
  · exact hq
  · have a := h.tr y z x h2 (by rw [h.neg x z]; omega)
    rw [h.neg x y] at a
    omega
theorem IsCmp.lt' {α : Type} {f : α → α → Int} (h : IsCmp f) {x y z : α} (h1 : f x y ≤ 0) (h2 : f y z < 0) : f x z < 0 := by
  by_cases hq : f x z < 0
  · exact hq
  · have a := h.tr z x y (by rw [h.neg x z]; omega) h1
    rw [h.neg y z] at a
    omega
def lexC {α : Type} (f g : α → α → Int) (x y : α) : Int := if f x y ≠ 0 then f x y else g x y
theorem isCmp_lex {α : Type} {f g : α → α → Int} (hf : IsCmp f) (hg : IsCmp g) : IsCmp (lexC f g) := by
  refine ⟨fun x y => ?_, fun x y => ?_, fun x y => ?_, fun x y z h1 h2 => ?_⟩
  · unfold lexC
    have := hf.neg x y
    by_cases h : f x y = 0
    · rw [if_neg (by omega), if_neg (by omega)]; exact hg.neg x y
    · rw [if_pos (by omega), if_pos h]; exact this
  · unfold lexC; split
    · exact hf.lo x y
    · exact hg.lo x y
  · unfold lexC; split
    · exact hf.hi x y
    · exact hg.hi x y
  · unfold lexC at h1 h2 ⊢
    by_cases a : f x y = 0
    · rw [if_neg (by omega)] at h1
      by_cases b : f y z = 0
      · rw [if_neg (by omega)] at h2
        have c1 := hf.tr x y z (by omega) (by omega)
        have c2 := hf.tr z y x (by rw [hf.neg y z]; omega) (by rw [hf.neg x y]; omega)
        rw [hf.neg x z] at c2
        rw [if_neg (by omega)]
        exact hg.tr x y z h1 h2
      · rw [if_pos b] at h2
        have c := hf.lt' (x := x) (y := y) (z := z) (by omega) (by omega)
        rw [if_pos (by omega)]; omega
    · rw [if_pos a] at h1
      have c : f x z < 0 := by
        by_cases b : f y z = 0
        · exact hf.lt (y := y) (by omega) (by omega)
        · rw [if_pos b] at h2; exact hf.lt (y := y) (by omega) h2
      rw [if_pos (by omega)]; omega
theorem isCmp_on {α β : Type} {f : β → β → Int} (k : α → β) (h : IsCmp f) : IsCmp fun x y => f (k x) (k y) :=
  ⟨fun _ _ => h.neg _ _, fun _ _ => h.lo _ _, fun _ _ => h.hi _ _, fun _ _ _ => h.tr _ _ _⟩
theorem isCmp_of {α : Type} {f g : α → α → Int} (h : IsCmp g) (e : ∀ x y, f x y = g x y) : IsCmp f := by
  have : f = g := by funext x y; exact e x y
  rw [this]; exact h
def cmpNat (a b : Nat) : Int := if a < b then -1 else if b < a then 1 else 0
theorem isCmp_nat : IsCmp cmpNat := by
  refine ⟨fun x y => ?_, fun x y => ?_, fun x y => ?_, fun x y z => ?_⟩ <;> unfold cmpNat <;> (repeat' split) <;> omega
/-- Lists, by their elements, the shorter first. -/
def cmpL {α : Type} (f : α → α → Int) : List α → List α → Int
  | [], [] => 0
  | [], _ :: _ => -1
  | _ :: _, [] => 1
  | x :: xs, y :: ys => if f x y ≠ 0 then f x y else cmpL f xs ys
theorem cmpL_neg {α : Type} {f : α → α → Int} (h : IsCmp f) : ∀ x y, cmpL f y x = - cmpL f x y
  | [], [] => rfl
  | [], _ :: _ => rfl
  | _ :: _, [] => rfl
  | x :: xs, y :: ys => by
    rw [cmpL, cmpL]
    have := h.neg x y
    by_cases hq : f x y = 0
    · rw [if_neg (by omega), if_neg (by omega)]; exact cmpL_neg h xs ys
    · rw [if_pos (by omega), if_pos hq]; exact this
theorem cmpL_rng {α : Type} {f : α → α → Int} (h : IsCmp f) : ∀ x y, -1 ≤ cmpL f x y ∧ cmpL f x y ≤ 1
  | [], [] => by rw [cmpL]; decide
  | [], _ :: _ => by rw [cmpL]; decide
  | _ :: _, [] => by rw [cmpL]; decide
  | x :: xs, y :: ys => by
    rw [cmpL]
    split
    · exact ⟨h.lo x y, h.hi x y⟩
    · exact cmpL_rng h xs ys
theorem cmpL_tr {α : Type} {f : α → α → Int} (h : IsCmp f) : ∀ x y z, cmpL f x y ≤ 0 → cmpL f y z ≤ 0 → cmpL f x z ≤ 0
  | [], _, [], _, _ => by rw [cmpL]; exact Int.le_refl _
  | [], _, _ :: _, _, _ => by rw [cmpL]; decide
  | x :: xs, [], z, h1, _ => by rw [cmpL] at h1; omega
  | x :: xs, y :: ys, [], _, h2 => by rw [cmpL] at h2; omega
  | x :: xs, y :: ys, z :: zs, h1, h2 => by
    rw [cmpL] at h1 h2 ⊢
    by_cases a : f x y = 0
    · rw [if_neg (by omega)] at h1
      by_cases b : f y z = 0
      · rw [if_neg (by omega)] at h2
        have c1 := h.tr x y z (by omega) (by omega)
        have c2 := h.tr z y x (by rw [h.neg y z]; omega) (by rw [h.neg x y]; omega)
        rw [h.neg x z] at c2
        rw [if_neg (by omega)]
        exact cmpL_tr h xs ys zs h1 h2
      · rw [if_pos b] at h2
        have c := h.lt' (x := x) (y := y) (z := z) (by omega) (by omega)
        rw [if_pos (by omega)]; omega
    · rw [if_pos a] at h1
      have c : f x z < 0 := by
        by_cases b : f y z = 0
        · exact h.lt (y := y) (by omega) (by omega)
        · rw [if_pos b] at h2; exact h.lt (y := y) (by omega) h2
      rw [if_pos (by omega)]; omega
theorem isCmp_list {α : Type} {f : α → α → Int} (h : IsCmp f) : IsCmp (cmpL f) := ⟨cmpL_neg h, fun x y => (cmpL_rng h x y).1, fun x y => (cmpL_rng h x y).2, cmpL_tr h⟩
/-! Bytes. -/
def ordU (a b : UInt8) : Int := cmpNat a.toNat b.toNat
theorem ordL_eq : ∀ x y : List UInt8, ordL x y = cmpL ordU x y
  | [], [] => rfl
  | [], _ :: _ => rfl
  | c :: r, [] => rfl
  | c :: r, d :: s => by
    have ih := ordL_eq r s
    rw [cmpL, ← ih]
    by_cases h1 : c < d
    · have h3 : c.toNat < d.toNat := h1
      rw [show ordU c d = -1 from if_pos h3, if_pos (by decide)]
      unfold ordL
      rw [Op.bytesLess]
      simp [h1]
    · have h3 : ¬ c.toNat < d.toNat := h1
      by_cases h2 : c = d
      · subst h2
        rw [show ordU c c = 0 from (if_neg h3).trans (if_neg h3), if_neg (by decide)]
        unfold ordL
        rw [Op.bytesLess]
        simp
      · have h4 : c.toNat ≠ d.toNat := fun e => h2 (UInt8.toNat_inj.1 e)
        rw [show ordU c d = 1 from (if_neg h3).trans (if_pos (by omega)), if_pos (by decide)]
        unfold ordL
        rw [Op.bytesLess]
        simp [h1, h2]
theorem isCmp_ord : IsCmp ordL := by
  have h := isCmp_list (isCmp_on UInt8.toNat isCmp_nat)
  have e : ordL = cmpL ordU := by funext x y; exact ordL_eq x y
  rw [e]; exact h
theorem ord_eq {x y : List UInt8} (h : ordL x y = 0) : x = y := by
  unfold ordL at h
  split at h
  · cases h
  · split at h
    · rename_i hq; simpa using hq
    · cases h
/-! Elements. -/
def clsN (p : List UInt8) : Nat := if dg0 p = true then 0 else 1
def lenN (p : List UInt8) : Nat := if dg0 p = true then (bareL p).length else 0
def keyE (p : List UInt8) : List UInt8 := if dg0 p = true then bareL p else p
theorem elemC_eq (p q : List UInt8) : elemC p q = lexC (fun x y => cmpNat (clsN x) (clsN y)) (lexC (fun x y => cmpNat (lenN x) (lenN y)) (fun x y => ordL (keyE x) (keyE y))) p q := by
  unfold elemC lexC clsN lenN keyE numC cmpNat
  by_cases hp : dg0 p = true
  · by_cases hq : dg0 q = true
    · simp only [hp, hq, if_true]
      by_cases h1 : (bareL p).length < (bareL q).length
      · simp [h1]
      · by_cases h2 : (bareL q).length < (bareL p).length
        · simp [h1, h2]
        · simp [h1, h2]
    · simp [hp, hq]
  · by_cases hq : dg0 q = true
    · simp [hp, hq]
    · simp [hp, hq]
theorem isCmp_elem : IsCmp elemC := isCmp_of (isCmp_lex (isCmp_on clsN isCmp_nat) (isCmp_lex (isCmp_on lenN isCmp_nat) (isCmp_on keyE isCmp_ord))) elemC_eq
def elsN : Nat → List UInt8 → List (List UInt8)
  | 0, _ => []
  | n + 1, x => if x = [] then [] else x.take (elemN x) :: elsN n (x.drop (elemN x))
theorem cmpF_eq (a b : List UInt8) : ∀ (n m : Nat) (x y : List UInt8), x.length ≤ n → y.length ≤ m → cmpF a b n x y = if cmpL elemC (elsN n x) (elsN m y) ≠ 0 then cmpL elemC (elsN n x) (elsN m y) else ordL a b
  | 0, m, x, y, hx, hy => by
    obtain rfl : x = [] := List.eq_nil_of_length_eq_zero (by omega)
    by_cases h : y = []
    · subst h
      have e : elsN m [] = [] := by cases m <;> rfl
      rw [e]; rfl
    · obtain ⟨m', rfl⟩ : ∃ m', m = m' + 1 := ⟨m - 1, by have := List.length_pos_iff.2 h; omega⟩
      rw [cmpF, endC, if_pos rfl, if_neg h, elsN, elsN, if_neg h, cmpL]; rfl
  | n + 1, m, x, y, hx, hy => by
    by_cases h1 : x = []
    · subst h1
      rw [cmpF, if_pos (Or.inl rfl), endC, if_pos rfl, elsN, if_pos rfl]
      by_cases h : y = []
      · subst h
        have e : elsN m [] = [] := by cases m <;> rfl
        rw [e, if_pos rfl]; rfl
      · obtain ⟨m', rfl⟩ : ∃ m', m = m' + 1 := ⟨m - 1, by have := List.length_pos_iff.2 h; omega⟩
        rw [if_neg h, elsN, if_neg h, cmpL]; rfl
    · by_cases h : y = []
      · subst h
        have e : elsN m [] = [] := by cases m <;> rfl
        rw [cmpF, if_pos (Or.inr rfl), endC, if_neg h1, if_pos rfl, e, elsN, if_neg h1, cmpL]; rfl
      · obtain ⟨m', rfl⟩ : ∃ m', m = m' + 1 := ⟨m - 1, by have := List.length_pos_iff.2 h; omega⟩
        have lx := elemN_le x (List.length_pos_iff.2 h1)
        have ly := elemN_le y (List.length_pos_iff.2 h)
        have ih := cmpF_eq a b n m' (x.drop (elemN x)) (y.drop (elemN y)) (by rw [List.length_drop]; omega) (by rw [List.length_drop]; omega)
        rw [cmpF, if_neg (fun q => q.elim h1 h), elsN, if_neg h1, elsN, if_neg h, cmpL]
        by_cases hz : elemC (x.take (elemN x)) (y.take (elemN y)) = 0
        · have e2 : (if elemC (x.take (elemN x)) (y.take (elemN y)) ≠ 0 then elemC (x.take (elemN x)) (y.take (elemN y)) else cmpL elemC (elsN n (x.drop (elemN x))) (elsN m' (y.drop (elemN y)))) = cmpL elemC (elsN n (x.drop (elemN x))) (elsN m' (y.drop (elemN y))) := if_neg (fun q => q hz)
          rw [e2, if_neg (fun q => q hz)]; exact ih
        · have e2 : (if elemC (x.take (elemN x)) (y.take (elemN y)) ≠ 0 then elemC (x.take (elemN x)) (y.take (elemN y)) else cmpL elemC (elsN n (x.drop (elemN x))) (elsN m' (y.drop (elemN y)))) = elemC (x.take (elemN x)) (y.take (elemN y)) := if_pos hz
          rw [e2, if_pos hz, if_pos hz]
def keyS (s : List UInt8) : List (List UInt8) := elsN s.length s
theorem compareV_eq (a b : List UInt8) : compareV a b = lexC (fun x y => cmpL elemC (keyS x) (keyS y)) ordL a b := cmpF_eq a b a.length b.length a b (Nat.le_refl _) (Nat.le_refl _)
theorem isCmp_compare : IsCmp compareV := isCmp_of (isCmp_lex (isCmp_on keyS (isCmp_list isCmp_elem)) isCmp_ord) compareV_eq
theorem compare_zero (a b : List UInt8) : compareV a b = 0 ↔ a = b := by
  constructor
  · intro h
    rw [compareV_eq] at h
    unfold lexC at h
    split at h
    · contradiction
    · exact ord_eq h
  · intro h
    subst h
    have := isCmp_compare.neg a a
    omega
end Go.Proofs.YtpojkgfckepoeaaGreatDoor

namespace Go.Proofs.YtpojkgfckepoeaaGreatDoor
open Go.RowKit
set_option maxRecDepth 100000

section
variable {α : Type} (less : α → α → Bool) (dflt : α)
/-- Where x goes among the first k. -/
def posG (x : α) (out : List α) : Nat → Nat
  | 0 => 0
  | k + 1 => if less x (out.getD k dflt) = true then posG x out k else k + 1
def insG (out : List α) (x : α) : List α := out.take (posG less dflt x out out.length) ++ x :: out.drop (posG less dflt x out out.length)
def ascG (zs : List α) : List α := zs.foldl (insG less dflt) []
end
section
variable {α : Type} {less : α → α → Bool} {dflt : α}
theorem posG_le (x : α) (out : List α) : ∀ k, posG less dflt x out k ≤ k
  | 0 => Nat.le_refl _
  | k + 1 => by rw [posG]; split; exact Nat.le_trans (posG_le x out k) (Nat.le_succ k); exact Nat.le_refl _
theorem posG_above (x : α) (out : List α) : ∀ k j, posG less dflt x out k ≤ j → j < k → less x (out.getD j dflt) = true
  | 0, j, _, h => by omega
  | k + 1, j, h1, h2 => by
    rw [posG] at h1
    by_cases hl : less x (out.getD k dflt) = true
    · rw [if_pos hl] at h1
      by_cases e : j = k
      · rw [e]; exact hl
      · exact posG_above x out k j h1 (by omega)
    · rw [if_neg hl] at h1; omega
theorem posG_below (x : α) (out : List α) : ∀ k, 0 < posG less dflt x out k → less x (out.getD (posG less dflt x out k - 1) dflt) = false
  | 0, h => by simp [posG] at h
  | k + 1, h => by
    rw [posG] at h ⊢
    by_cases hl : less x (out.getD k dflt) = true
    · rw [if_pos hl] at h ⊢; exact posG_below x out k h
    · rw [if_neg hl] at h ⊢; simpa using hl
theorem insG_len (out : List α) (x : α) : (insG less dflt out x).length = out.length + 1 := by
  unfold insG
  have := posG_le (less := less) (dflt := dflt) x out out.length
  simp only [List.length_append, List.length_take, List.length_cons, List.length_drop]
  omega
theorem ascG_len (zs : List α) : (ascG less dflt zs).length = zs.length := by
  unfold ascG
  have key : ∀ (zs out : List α), (zs.foldl (insG less dflt) out).length = out.length + zs.length := by
    intro zs
    induction zs with
    | nil => intro out; rfl
    | cons z zs ih => intro out; rw [List.foldl_cons, ih, insG_len, List.length_cons]; omega
  simpa using key zs []
theorem ascG_snoc (zs : List α) (x : α) : ascG less dflt (zs ++ [x]) = insG less dflt (ascG less dflt zs) x := by
  unfold ascG
  rw [List.foldl_append]; rfl
theorem insG_perm (out : List α) (x : α) : (insG less dflt out x).Perm (x :: out) := by
  unfold insG
  refine List.perm_middle.trans ?_
  rw [List.take_append_drop]
theorem getD_atG {out : List α} {j : Nat} (h : j < out.length) : out.getD j dflt = out[j] := by rw [List.getD_eq_getElem?_getD, List.getElem?_eq_getElem h]; rfl
/-- x does not come behind y. -/
def LeG (less : α → α → Bool) (x y : α) : Prop := less y x = false
theorem insG_sorted (htr : ∀ x y z, less y x = false → less z y = false → less z x = false) (hof : ∀ x y, less x y = true → less y x = false) {out : List α} {x : α} (h : out.Pairwise (LeG less)) : (insG less dflt out x).Pairwise (LeG less) := by
  obtain ⟨k, hk⟩ : ∃ k, posG less dflt x out out.length = k := ⟨_, rfl⟩
  have hkl : k ≤ out.length := by rw [← hk]; exact posG_le _ _ _
  unfold insG
  rw [hk, List.pairwise_append, List.pairwise_cons]
  have hlow : ∀ y ∈ out.take k, LeG less y x := by
    intro y hy
    obtain ⟨j, hj⟩ := List.getElem?_of_mem hy
    rw [List.getElem?_take] at hj
    split at hj
    · rename_i hjk
      obtain ⟨hjl, e⟩ := List.getElem?_eq_some_iff.1 hj
      have hb := posG_below (less := less) (dflt := dflt) x out out.length (by rw [hk]; omega)
      rw [hk, getD_atG (by omega)] at hb
      by_cases e2 : j = k - 1
      · subst e2; rw [← e]; exact hb
      · refine htr y _ x (?_ : LeG less y _) hb
        rw [← e]
        exact List.pairwise_iff_getElem.1 h j (k - 1) hjl (by omega) (by omega)
    · cases hj
  refine ⟨h.sublist (List.take_sublist _ _), ⟨fun y hy => ?_, h.sublist (List.drop_sublist _ _)⟩, fun a ha b hb => ?_⟩
  · obtain ⟨j, hj⟩ := List.getElem?_of_mem hy
    rw [List.getElem?_drop] at hj
    obtain ⟨hjl, e⟩ := List.getElem?_eq_some_iff.1 hj
    have ha := posG_above (less := less) (dflt := dflt) x out out.length (k + j) (by rw [hk]; omega) hjl
    rw [getD_atG hjl, e] at ha
    exact hof _ _ ha
  · rcases List.mem_cons.1 hb with rfl | hb
    · exact hlow a ha
    · rw [← List.take_append_drop k out, List.pairwise_append] at h
      exact h.2.2 a ha b hb
theorem ascG_perm (zs : List α) : (ascG less dflt zs).Perm zs := by
  have key : ∀ (zs out : List α), (zs.foldl (insG less dflt) out).Perm (zs ++ out) := by
    intro zs
    induction zs with
    | nil => intro out; exact List.Perm.refl _
    | cons z zs ih =>
      intro out
      rw [List.foldl_cons]
      refine (ih _).trans ?_
      exact ((insG_perm out z).append_left zs).trans List.perm_middle
  have := key zs []
  rwa [List.append_nil] at this
theorem ascG_sorted (htr : ∀ x y z, less y x = false → less z y = false → less z x = false) (hof : ∀ x y, less x y = true → less y x = false) (zs : List α) : (ascG less dflt zs).Pairwise (LeG less) := by
  have key : ∀ (zs out : List α), out.Pairwise (LeG less) → (zs.foldl (insG less dflt) out).Pairwise (LeG less) := by
    intro zs
    induction zs with
    | nil => intro out h; exact h
    | cons z zs ih => intro out h; rw [List.foldl_cons]; exact ih _ (insG_sorted htr hof h)
  exact key zs [] .nil
/-- Two lists of the same data in order are one, where nothing but itself is level with a datum. -/
theorem sorted_eqG (ha : ∀ x y, less y x = false → less x y = false → x = y) {l m : List α} (hp : l.Perm m) (hl : l.Pairwise (LeG less)) (hm : m.Pairwise (LeG less)) : l = m :=
  List.Perm.eq_of_pairwise (le := LeG less) (fun a b _ _ h1 h2 => ha a b h1 h2) hl hm hp
end
/-! Lists without doubles. -/
section
variable {α : Type} [DecidableEq α] (dflt : α)
variable {dflt}
end
end Go.Proofs.YtpojkgfckepoeaaGreatDoor
