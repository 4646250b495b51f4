/- Walk of Scanner.Code, whether a problem is noted or not. Conditions: the scanner's cells are as Scan says. Walk of Scanner.Codes: a field that is a list of codes. Conditions: the scanner's cells are as Scan says; a text shorter than 2^30 bytes; what the program's variables hold. What fields.Read gathers, whatever the kind of its elements. No condition. Walks of timetableref07.Found, timetableref02.Whole, At. Conditions: the record's cells. -/
import Derived.Test.YthejgholpkeldaaGreatDoorRows
import Derived.WalkKit
import Derived.WalkSpells
import Derived.WalkLawsBesides
import Derived.BigGuardPart
import Derived.Lib.Hide
import Derived.Laws.BitsAllLaws
import Derived.Laws.BitsLemmas
import Derived.Lib.LaidTab
import Derived.Test.YthejgholpkeldaaGreatDoorShelf
import Derived.Lib.ConvBytes
import Derived.Deep.QuietTactic
import Derived.BigQuiet
import Derived.Laws.ResultCell
import Derived.RegionTactic
import Derived.BigRegion
import Derived.Deep.RegionHeld3
import Derived.Deep.DeepCutAuto
import Derived.Lib.SmallJoins
import Derived.Lib.SplitLaws
import Derived.Lib.CountLaws
import Derived.Lib.IndexMore
import Derived.Lib.Split
import Derived.Lib.Join
import Derived.Test.YthejgholpkeldaaGreatDoorZSameL
import Derived.Test.YthejgholpkeldaaGreatDoorShelfS
import Derived.Lib.ItoaNum
import Derived.Laws.AppendOwn
import Derived.Test.YthejgholpkeldaaGreatDoorShelfT
import Derived.Lib.ItoaLen
import Derived.Lib.AppendIntMem
import Derived.Deep.AppendLies
import Derived.Lib.PathFns
import Derived.Maps.Range
import Derived.Lib.OwnBridge
import Derived.Sort.OwnSorted
import Derived.Test.YthejgholpkeldaaGreatDoorZListC
import Derived.Test.YthejgholpkeldaaGreatDoorZVars
import Derived.Test.YthejgholpkeldaaGreatDoorZPlainA
namespace Go.Proofs.YthejgholpkeldaaGreatDoor
open Go.RowKit
set_option maxRecDepth 100000

def CodeAny (g : Nat) (line : Int) (F : Option Addr) (fs : List Fld) (c k : Nat) (pr : Option Prob) (w : World) (e : Ending) (w' : World) : Prop :=
  ∃ (k' : Nat) (t : ByteArray) (pr' : Option Prob), e = .returned (.string t) ∧ Scan w' g line F fs.length c k' pr' ∧ Only g w w' ∧ 1 ≤ k' ∧ k' ≤ k + 1 ∧ (pr = none → k' = k + 1 ∧ t = textAt fs k ∧ pr' = if codeB (textAt fs k) then none else some (line, colAt fs (k + 1), 10)) ∧ (∀ p, pr = some p → pr' = some p)
set_option maxHeartbeats 800000 in
theorem code_any (B g : Nat) (line : Int) (F : Option Addr) (fs : List Fld) (c k : Nat) (pr : Option Prob) (w : World) (h : Scan w g line F fs.length c k pr) (hF : FieldsAt B w F fs) (h2 : k < fs.length) (hm : fs.length ≤ 1000) (hB : B ≤ g) (h1 : ∀ p, pr = some p → 1 ≤ k) :
    Calls Tryz.prog 64 #[.pointer (some ⟨g, 0, none⟩)] w fun e w' => CodeAny g line F fs c k pr w e w' := by
  cases pr with
  | none =>
    refine (fcode_walk B g line F fs c k w h hF h2 hm hB).mono ?_
    rintro e w' ⟨rfl, hs, ho⟩
    exact ⟨k + 1, _, _, rfl, hs, ho, by omega, Nat.le_refl _, fun _ => ⟨rfl, rfl, rfl⟩, fun p hp => by cases hp⟩
  | some p =>
    have hk := h1 p rfl
    have hv := cvalid_walk ⟨#[]⟩
    rw [show codeB ⟨#[]⟩ = false from codeB_no (by decide)] at hv
    go_enter Tryz.func64, Tryz.ntmps64
    go_wp2_with fail
    refine (fnext_stop g line F fs.length c k p w h).mono ?_
    rintro e w1 ⟨rfl, rfl⟩
    go_wp2_with fail
    refine (hv w).mono ?_
    rintro e w2 ⟨rfl, rfl⟩
    go_wp2_with fail
    refine (fail_walk B g line F fs c k (some p) 10 w h hF hk (by omega) hm).mono ?_
    rintro e w3 ⟨rfl, hs3, ho3⟩
    go_wp2
    go_ret
    exact ⟨k, _, _, rfl, hs3, ho3, hk, by omega, (fun hp => by cases hp), fun q hq => hq⟩
end Go.Proofs.YthejgholpkeldaaGreatDoor

namespace Go.Proofs.YthejgholpkeldaaGreatDoor
open Go.RowKit
set_option maxRecDepth 100000

/-- The problem that the list of codes in a field is. -/
def codesP (most : Nat) (line col : Int) (t : ByteArray) : Option Prob :=
  noted (noted none (decide ((listV t).1 ≠ 0)) (line, col, ((listV t).1 : Int))) (decide (most < (listV t).2.length)) (line, col, 2)
def ListAny (g : Nat) (line : Int) (F : Option Addr) (fs : List Fld) (c k most : Nat) (pr : Option Prob) (w : World) (e : Ending) (w' : World) : Prop :=
  ∃ (k' : Nat) (l : List ByteArray) (v : Value) (pr' : Option Prob), e = .returned v ∧ Own kStr 9 [] 0 w.heap.size w' v l ∧ Scan w' g line F fs.length c k' pr' ∧ Only g w w' ∧ 1 ≤ k' ∧ k' ≤ k + 1 ∧ (pr = none → k' = k + 1 ∧ l = (listV (textAt fs k)).2 ∧ pr' = codesP most line (colAt fs (k + 1)) (textAt fs k)) ∧ (∀ p, pr = some p → pr' = some p ∧ l = [])
theorem Own.noting {g B : Nat} {w w' : World} {v : Value} {l : List ByteArray} (h : Own kStr 9 [] 0 B w v l) (ho : Only g w w') (hg : g < B) : Own kStr 9 [] 0 B w' v l :=
  h.kept ho (by
    cases hv : v.ownBlock with
    | none => exact .inl rfl
    | some y => exact .inr fun e => by injection e with e; have := (h.lt y hv).1; omega) (fun y _ => ⟨Nat.zero_le _, fun h => by obtain ⟨-, cs, t', -, ht⟩ := h; simp at ht⟩)
set_option maxHeartbeats 4000000 in
theorem list_any (B g : Nat) (line : Int) (F : Option Addr) (fs : List Fld) (c k most : Nat) (pr : Option Prob) (w : World) (hS : Std w) (h : Scan w g line F fs.length c k pr) (hF : FieldsAt B w F fs) (h2 : k < fs.length) (hm : fs.length ≤ 1000) (hB : B ≤ g) (hN : 9 ≤ B) (h1 : ∀ p, pr = some p → 1 ≤ k) (hsz : (textAt fs k).size < 1073741824) :
    Calls Tryz.prog 66 #[.pointer (some ⟨g, 0, none⟩), .int .i64 most] w fun e w' => ListAny g line F fs c k most pr w e w' := by
  have hgl := h.lt
  cases pr with
  | none =>
    obtain ⟨⟨en, l⟩, hv⟩ : ∃ r, listV (textAt fs k) = r := ⟨_, rfl⟩
    have hfin : Hid (∀ e w', ListAny g line F fs c k most none w e w' = (∃ (k' : Nat) (l' : List ByteArray) (v : Value) (pr' : Option Prob), e = .returned v ∧ Own kStr 9 [] 0 w.heap.size w' v l' ∧ Scan w' g line F fs.length c k' pr' ∧ Only g w w' ∧ 1 ≤ k' ∧ k' ≤ k + 1 ∧ (none = (none : Option Prob) → k' = k + 1 ∧ l' = l ∧ pr' = noted (noted none (decide (en ≠ 0)) (line, colAt fs (k + 1), (en : Int))) (decide (most < l.length)) (line, colAt fs (k + 1), 2)) ∧ (∀ p, (none : Option Prob) = some p → pr' = some p ∧ l' = []))) := hide fun e w' => by
      unfold ListAny codesP
      rw [hv]
    go_enter Tryz.func66, Tryz.ntmps66
    go_wp2_with fail
    refine (fnext_go B g line F fs c k w h hF h2 hm hB).mono ?_
    rintro e w1 ⟨rfl, hs1, ho1⟩
    have hS1 : Std w1 := hS.below (ho1.below (Nat.le_refl _) (by omega)) (by omega)
    have hL := list_walk (textAt fs k) w1 hS1 hsz
    rw [hv] at hL
    have hF1 := hF.only ho1 hB (by omega)
    go_wp2_with fail
    refine hL.mono ?_
    clear hL
    rintro e w2 ⟨v2, rfl, hown, hb2⟩
    have hs2 := hs1.later hb2
    have ho2 := ho1.later hb2
    have hF2 := hF1.below (hb2.mono (by have := ho1.size; omega) : Below B _ _)
    have hown1 : Own kStr 9 [] 0 w.heap.size w2 v2 l := hown.lower ho1.size
    have hl9 := hown1.le
    obtain ⟨A, c', rfl⟩ := hown1.form
    have he0 : decide ((en : Int) ≠ 0) = decide (en ≠ 0) := decide_eq_decide.2 (by omega)
    clear hown hv hs1 ho1 hF1 hb2 hS1
    dsimp only
    go_wp2_with fail
    refine (fail_walk B g line F fs c (k + 1) none en w2 hs2 hF2 (by omega) (by omega) hm).mono ?_
    rintro e w3 ⟨rfl, hs3, ho3⟩
    have ho := ho2.trans ho3
    have hown3 := hown1.noting ho3 hgl
    have hF3 := hF2.only ho3 hB (by have := ho2.size; omega)
    rw [he0] at hs3
    clear hown1 hs2 hF2 ho2 ho3 he0
    by_cases hml : most < l.length
    · have hmi : (most : Int) < (l.length : Int) := by omega
      go_wp2_with fail
      refine (fail_walk B g line F fs c (k + 1) _ 2 w3 hs3 hF3 (by omega) (by omega) hm).mono ?_
      rintro e w4 ⟨rfl, hs4, ho4⟩
      have hown4 := hown3.noting ho4 hgl
      go_wp2_with fail
      go_ret
      rw [hfin.out]
      exact ⟨k + 1, l, _, _, rfl, hown4, hs4, ho.trans ho4, by omega, Nat.le_refl _, fun _ => ⟨rfl, rfl, by rw [decide_eq_true hml]; rfl⟩, fun p hp => by cases hp⟩
    · have hmi : ¬ (most : Int) < (l.length : Int) := by omega
      go_wp2_with fail
      go_ret
      rw [hfin.out]
      refine ⟨k + 1, l, _, _, rfl, hown3, hs3, ho, by omega, Nat.le_refl _, fun _ => ⟨rfl, rfl, ?_⟩, fun p hp => by cases hp⟩
      rw [decide_eq_false hml]
      cases hd : decide (en ≠ 0) <;> rfl
  | some p =>
    have hk := h1 p rfl
    have hL := list_walk ⟨#[]⟩ w hS (by decide)
    rw [show listV ⟨#[]⟩ = (0, []) from rfl] at hL
    have hfin : Hid (∀ e w', ListAny g line F fs c k most (some p) w e w' = (∃ (k' : Nat) (l' : List ByteArray) (v : Value) (pr' : Option Prob), e = .returned v ∧ Own kStr 9 [] 0 w.heap.size w' v l' ∧ Scan w' g line F fs.length c k' pr' ∧ Only g w w' ∧ 1 ≤ k' ∧ k' ≤ k + 1 ∧ (some p = (none : Option Prob) → k' = k + 1 ∧ l' = (listV (textAt fs k)).2 ∧ pr' = codesP most line (colAt fs (k + 1)) (textAt fs k)) ∧ (∀ q, (some p : Option Prob) = some q → pr' = some q ∧ l' = []))) := hide fun e w' => rfl
    go_enter Tryz.func66, Tryz.ntmps66
    go_wp2_with fail
    refine (fnext_stop g line F fs.length c k p w h).mono ?_
    rintro e w1 ⟨rfl, rfl⟩
    go_wp2_with fail
    refine hL.mono ?_
    clear hL
    rintro e w2 ⟨v2, rfl, hown, hb2⟩
    have hs2 := h.later hb2
    have ho2 : Only g w w2 := (Only.refl g w).later hb2
    have hF2 := hF.below (hb2.mono (by omega) : Below B _ _)
    replace hown : Own kStr 9 [] 0 w.heap.size w2 v2 [] := hown
    obtain ⟨A, c', rfl⟩ := hown.form
    dsimp only
    go_wp2_with fail
    refine (fail_walk B g line F fs c k (some p) 0 w2 hs2 hF2 hk (by omega) hm).mono ?_
    rintro e w3 ⟨rfl, hs3, ho3⟩
    have ho := ho2.trans ho3
    have hown3 := hown.noting ho3 hgl
    have hmi : ¬ (most : Int) < 0 := by omega
    clear hown
    go_wp2_with fail
    go_ret
    rw [hfin.out]
    exact ⟨k, [], _, some p, rfl, hown3, hs3, ho, hk, by omega, (fun hq => by cases hq), fun q hq => ⟨hq, rfl⟩⟩
end Go.Proofs.YthejgholpkeldaaGreatDoor

namespace Go.Proofs.YthejgholpkeldaaGreatDoor
open Go.RowKit
set_option maxRecDepth 100000

structure RG (α : Type) where
  ls : List α
  lines : List Int
  ps : List Prob
/-- One record: n fields, its problem behind others, what it says. -/
def gathStep {α : Type} (n : Nat) (P : Int → List Fld → List α → Option Prob) (f : List Fld → α) (s : RG α) (r : Rec) : RG α :=
  if r.2.length = n then (match P r.1 r.2 s.ls with | some p => ⟨s.ls, s.lines, s.ps ++ [p]⟩ | none => ⟨s.ls ++ [f r.2], s.lines ++ [r.1], s.ps⟩) else ⟨s.ls, s.lines, s.ps ++ [(r.1, 0, 9)]⟩
def readAll {α : Type} (n : Nat) (P : Int → List Fld → List α → Option Prob) (f : List Fld → α) (rs : List Rec) : RG α := rs.foldl (gathStep n P f) ⟨[], [], []⟩
section
variable {α : Type} {n : Nat} {P : Int → List Fld → List α → Option Prob} {f : List Fld → α}
theorem readAll_take (rs : List Rec) (j : Nat) (r : Rec) (h : rs[j]? = some r) : readAll n P f (rs.take (j + 1)) = gathStep n P f (readAll n P f (rs.take j)) r := by
  rw [List.take_add_one, h]
  unfold readAll
  simp [List.foldl_append]
theorem gathStep_len {M : Nat} (hM : ∀ line fs ls, P line fs ls = none → ls.length < M) {s : RG α} (h1 : s.ls.length ≤ M) (h2 : s.lines.length = s.ls.length) (r : Rec) :
    (gathStep n P f s r).ls.length ≤ M ∧ (gathStep n P f s r).lines.length = (gathStep n P f s r).ls.length ∧ (gathStep n P f s r).ps.length ≤ s.ps.length + 1 := by
  unfold gathStep
  split
  · split
    · exact ⟨h1, h2, by simp⟩
    · rename_i hp
      have := hM _ _ _ hp
      exact ⟨by simp; omega, by simp [h2], by simp⟩
  · exact ⟨h1, h2, by simp⟩
theorem readAll_len {M : Nat} (hM : ∀ line fs ls, P line fs ls = none → ls.length < M) : ∀ (rs : List Rec), (readAll n P f rs).ls.length ≤ M ∧ (readAll n P f rs).lines.length = (readAll n P f rs).ls.length ∧ (readAll n P f rs).ps.length ≤ rs.length := by
  have key : ∀ (rs : List Rec) (s : RG α), s.ls.length ≤ M → s.lines.length = s.ls.length → (rs.foldl (gathStep n P f) s).ls.length ≤ M ∧ (rs.foldl (gathStep n P f) s).lines.length = (rs.foldl (gathStep n P f) s).ls.length ∧ (rs.foldl (gathStep n P f) s).ps.length ≤ s.ps.length + rs.length := by
    intro rs
    induction rs with
    | nil => intro s h1 h2; exact ⟨h1, h2, by simp⟩
    | cons r rs ih =>
      intro s h1 h2
      obtain ⟨a, b, c⟩ := gathStep_len (n := n) (f := f) hM h1 h2 r
      obtain ⟨x, y, z⟩ := ih _ a b
      exact ⟨x, y, by simp only [List.foldl_cons, List.length_cons]; omega⟩
  intro rs
  obtain ⟨a, b, c⟩ := key rs ⟨[], [], []⟩ (by simp) rfl
  exact ⟨a, b, by simpa [readAll] using c⟩
end
/-- The types of what is gathered are apart from those of the scanner, the problems and the numbers. -/
structure TyApart (t : TypeId) (ts : List TypeId) : Prop where
  s1 : t ≠ 129
  s2 : 129 ∉ ts
  p1 : t ≠ 102
  p2 : 102 ∉ ts
  i1 : t ≠ 3
  i2 : 3 ∉ ts
  own : t ∉ ts
theorem apd_intsG : Apd Tryz.prog 22 3 1 8 := apd Tryz.underlying22 (z := .int .i64 0) (by kernel_rfl) rfl
/-- What is gathered. -/
structure GG {α : Type} (K : Kind α) (t : TypeId) (ts : List TypeId) (w0 : World) (u6 u7 u8 : Value) (ls : List α) (lines : List Int) (ps : List Prob) (W : World) : Prop where
  ls : Own K t ts 0 w0.heap.size W u6 ls
  ins : Own kInt 3 [] 0 w0.heap.size W u7 lines
  ps : ProbsOwn w0.heap.size W u8 ps
  below : Below w0.heap.size w0 W
section
variable {α : Type} {K : Kind α} {t : TypeId} {ts : List TypeId} {w0 W W' : World} {u6 u7 u8 : Value} {ls : List α} {lines : List Int} {ps : List Prob}
theorem GG.later (h : GG K t ts w0 u6 u7 u8 ls lines ps W) (hb : Below W.heap.size W W') : GG K t ts w0 u6 u7 u8 ls lines ps W' :=
  ⟨h.ls.later hb, h.ins.later hb, owns_later h.ps hb, ext_trans h.below hb⟩
theorem GG.alloc (h : GG K t ts w0 u6 u7 u8 ls lines ps W) (o : Obj) : GG K t ts w0 u6 u7 u8 ls lines ps (W.alloc o) := h.later (ext_alloc (Below.refl _ _) _)
theorem GG.drew (h : GG K t ts w0 u6 u7 u8 ls lines ps W) : GG K t ts w0 u6 u7 u8 ls lines ps W.drew := h.later (ext_drew (Below.refl _ _))
theorem GG.scan {g : Nat} {line : Int} {F : Option Addr} {m c j : Nat} {pr : Option Prob} (h : GG K t ts w0 u6 u7 u8 ls lines ps W) (hT : TyApart t ts) (hs : Scan W g line F m c j pr) (ho : Only g W W') (hg : w0.heap.size ≤ g) : GG K t ts w0 u6 u7 u8 ls lines ps W' := by
  have hs' := hs
  obtain ⟨v, hgb, -⟩ := hs'
  exact ⟨h.ls.only ho hgb (Nat.zero_le _) hT.s1 hT.s2, h.ins.only ho hgb (Nat.zero_le _) (by decide) (by decide), owns_scan h.ps hs (by decide) ho, h.below.trans (Only.below ho hg h.below.size)⟩
theorem GG.prob {v' : Value} {p : Prob} (h : GG K t ts w0 u6 u7 u8 ls lines ps W) (hT : TyApart t ts) (hg : W.grownBy W' u8.ownBlock) (hn : W'.ownsRow w0.heap.size 102 4 v' (ps.length + 1) (ps.flatMap encP ++ encP p)) : GG K t ts w0 u6 u7 v' ls lines (ps ++ [p]) W' :=
  ⟨h.ls.grown h.ps (Nat.zero_le _) hg hT.p1 hT.p2, h.ins.grown h.ps (Nat.zero_le _) hg (by decide) (by decide), by unfold ProbsOwn; rw [List.length_append, flatP_snoc]; exact hn, Below.grown h.below hg h.below.size (fun j hj => (h.ps.lt j hj).1)⟩
theorem stepg_ls {ops : Array Oper} {o : Oper} {a : Act} {K' : Act → World → Prop} {Q : Exit → Act → World → Prop} {E : Prop} {S : World → Prop} {t2 : TypeId} {bytes : Nat} (hT : TyApart t ts) (hA : Apd Tryz.prog t2 t K.k bytes) (hk0 : 0 < K.k) (hby : bytes ≤ 1000) (hgd : o.guard = none) (s x : Operand)
    (ho : o.op = .call { callee := .builtin .append, args := #[s, x], argTypes := #[t2, t2] }) (hs : a.eval s = u6) (h : GG K t ts w0 u6 u7 u8 ls lines ps W) (hl : ls.length ≤ 100000)
    (ad : Addr) (c : Nat) (hx : a.eval x = .slice (some ad) 1 c) (e : α) (vs : List Value) (hrep : K.rep (Ty ts 0 w0.heap.size W) W e vs) (hnews : ∀ j u, vs[j]? = some u → W.cell? (ad.add j) = some u) (hS : ∀ w', W.grownBy w' u6.ownBlock → S w')
    (hk : ∀ g cap w', GG K t ts w0 (.slice (some ⟨g, 0, none⟩) (ls.length + 1) cap) u7 u8 (ls ++ [e]) lines ps w' → W.grownBy w' u6.ownBlock → S w' → K' (a.put o.dst (.slice (some ⟨g, 0, none⟩) (ls.length + 1) cap)) w') :
    if Region.wanted o (yielded ops a.tmps) = true then Oper.wp Tryz.prog o a W K' Q else E := by
  refine step_own (S := S) hgd s x ho hA hk0 hs h.ls (by omega) hby ad c hx e vs hrep hnews hT.own (Nat.zero_le _) h.below.size hS fun g cap w' hn hg hs => hk g cap w' ?_ hg hs
  obtain ⟨vss, e1, e2, e3⟩ := h.ls
  exact ⟨hn, h.ins.grown e2 (Nat.zero_le _) hg (fun e => hT.i1 e.symm) (by simp), World.ownsRow.kept h.ps hg (own_ne h.ps e2 (fun e => hT.p1 e.symm)), Below.grown h.below hg h.below.size (fun j hj => (e2.lt j hj).1)⟩
theorem stepg_ins {ops : Array Oper} {o : Oper} {a : Act} {K' : Act → World → Prop} {Q : Exit → Act → World → Prop} {E : Prop} {S : World → Prop} (hT : TyApart t ts) (hgd : o.guard = none) (s x : Operand)
    (ho : o.op = .call { callee := .builtin .append, args := #[s, x], argTypes := #[22, 22] }) (hs : a.eval s = u7) (h : GG K t ts w0 u6 u7 u8 ls lines ps W) (hl : lines.length ≤ 100000)
    (ad : Addr) (c : Nat) (hx : a.eval x = .slice (some ad) 1 c) (e : Int) (hnews : ∀ j u, [Value.int .i64 e][j]? = some u → W.cell? (ad.add j) = some u) (hS : ∀ w', W.grownBy w' u7.ownBlock → S w')
    (hk : ∀ g cap w', GG K t ts w0 u6 (.slice (some ⟨g, 0, none⟩) (lines.length + 1) cap) u8 ls (lines ++ [e]) ps w' → W.grownBy w' u7.ownBlock → S w' → K' (a.put o.dst (.slice (some ⟨g, 0, none⟩) (lines.length + 1) cap)) w') :
    if Region.wanted o (yielded ops a.tmps) = true then Oper.wp Tryz.prog o a W K' Q else E := by
  refine step_own (S := S) hgd s x ho apd_intsG (by decide) hs h.ins (by omega) (by decide) ad c hx e [.int .i64 e] rfl hnews (by decide) (Nat.zero_le _) h.below.size hS fun g cap w' hn hg hs => hk g cap w' ?_ hg hs
  obtain ⟨vss, e1, e2, e3⟩ := h.ins
  exact ⟨h.ls.grown e2 (Nat.zero_le _) hg hT.i1 hT.i2, hn, World.ownsRow.kept h.ps hg (own_ne h.ps e2 (by decide)), Below.grown h.below hg h.below.size (fun j hj => (e2.lt j hj).1)⟩
theorem wpg_ls {ops : Array Oper} {rest : List Oper} {o : Oper} {a : Act} {Q : Exit → Act → World → Prop} {t2 : TypeId} {bytes : Nat} (hT : TyApart t ts) (hA : Apd Tryz.prog t2 t K.k bytes) (hk0 : 0 < K.k) (hby : bytes ≤ 1000) (hgd : o.guard = none) (s x : Operand)
    (ho : o.op = .call { callee := .builtin .append, args := #[s, x], argTypes := #[t2, t2] }) (hs : a.eval s = u6) (h : GG K t ts w0 u6 u7 u8 ls lines ps W) (hl : ls.length ≤ 100000)
    (ad : Addr) (c : Nat) (hx : a.eval x = .slice (some ad) 1 c) (e : α) (vs : List Value) (hrep : K.rep (Ty ts 0 w0.heap.size W) W e vs) (hnews : ∀ j u, vs[j]? = some u → W.cell? (ad.add j) = some u)
    (hk : ∀ v' w', GG K t ts w0 v' u7 u8 (ls ++ [e]) lines ps w' → wpList Tryz.prog ops Q rest (a.put o.dst v') w') : wpList Tryz.prog ops Q (o :: rest) a W := by
  refine wpList_own hgd s x ho hA hk0 hs h.ls (by omega) hby ad c hx e vs hrep hnews hT.own (Nat.zero_le _) h.below.size fun v' w' hn hg => hk v' w' ?_
  obtain ⟨vss, e1, e2, e3⟩ := h.ls
  exact ⟨hn, h.ins.grown e2 (Nat.zero_le _) hg (fun e => hT.i1 e.symm) (by simp), World.ownsRow.kept h.ps hg (own_ne h.ps e2 (fun e => hT.p1 e.symm)), Below.grown h.below hg h.below.size (fun j hj => (e2.lt j hj).1)⟩
theorem wpg_ins {ops : Array Oper} {rest : List Oper} {o : Oper} {a : Act} {Q : Exit → Act → World → Prop} (hT : TyApart t ts) (hgd : o.guard = none) (s x : Operand)
    (ho : o.op = .call { callee := .builtin .append, args := #[s, x], argTypes := #[22, 22] }) (hs : a.eval s = u7) (h : GG K t ts w0 u6 u7 u8 ls lines ps W) (hl : lines.length ≤ 100000)
    (ad : Addr) (c : Nat) (hx : a.eval x = .slice (some ad) 1 c) (e : Int) (hnews : ∀ j u, [Value.int .i64 e][j]? = some u → W.cell? (ad.add j) = some u)
    (hk : ∀ v' w', GG K t ts w0 u6 v' u8 ls (lines ++ [e]) ps w' → wpList Tryz.prog ops Q rest (a.put o.dst v') w') : wpList Tryz.prog ops Q (o :: rest) a W := by
  refine wpList_own hgd s x ho apd_intsG (by decide) hs h.ins (by omega) (by decide) ad c hx e [.int .i64 e] rfl hnews (by decide) (Nat.zero_le _) h.below.size fun v' w' hn hg => hk v' w' ?_
  obtain ⟨vss, e1, e2, e3⟩ := h.ins
  exact ⟨h.ls.grown e2 (Nat.zero_le _) hg hT.i1 hT.i2, hn, World.ownsRow.kept h.ps hg (own_ne h.ps e2 (by decide)), Below.grown h.below hg h.below.size (fun j hj => (e2.lt j hj).1)⟩
end
end Go.Proofs.YthejgholpkeldaaGreatDoor

namespace Go.Proofs.YthejgholpkeldaaGreatDoor
open Go.RowKit
set_option maxRecDepth 100000

theorem load4p (w : World) (g : Nat) (a b c d : Value) (h0 : w.cell? ⟨g, 0, none⟩ = some a) (h1 : w.cell? ⟨g, 1, none⟩ = some b) (h2 : w.cell? ⟨g, 2, none⟩ = some c) (h3 : w.cell? ⟨g, 3, none⟩ = some d) :
    (loadVar 102 ⟨g, 0, none⟩).run Tryz.prog w = .ok (.agg #[a, b, c, d]) w := by
  simp [go_sem, h0, h1, h2, h3]
theorem end_prob {fn : Func} {p : Tmp} (hr : fn.results = #[.cell p 102]) {Q : Ending → World → Prop} {act : Act} {w : World} (g : Nat) (a b c d : Value) (hd : act.defers = [])
    (hp : act.tmps.getD p undef = .pointer (some ⟨g, 0, none⟩))
    (h : ∀ j, j < 4 → ∃ v, w.cell? ⟨g, j, none⟩ = some v)
    (hQ : Q (.returned (.agg #[a, b, c, d])) ((((w.setCell ⟨g, 0, none⟩ a).setCell ⟨g, 1, none⟩ b).setCell ⟨g, 2, none⟩ c).setCell ⟨g, 3, none⟩ d)) :
    bodyPost Tryz.prog fn Q .ret act ((((w.setCell ⟨g, 0, none⟩ a).setCell ⟨g, 1, none⟩ b).setCell ⟨g, 2, none⟩ c).setCell ⟨g, 3, none⟩ d) := by
  obtain ⟨h0, h1, h2, h3⟩ := set4_cells w g a b c d h _ rfl
  refine bodyPost_ret (v := .agg #[a, b, c, d]) ?_ hd hQ
  simp only [results, hr]
  simp [Sem.run_bind, Result.andThen, -Array.getD_eq_getD_getElem?]
  rw [hp]
  simp only [asAddr, Sem.run_pure]
  rw [load4p _ g a b c d h0 h1 h2 h3]
theorem end_prob1 {fn : Func} {p : Tmp} (hr : fn.results = #[.cell p 102]) {Q : Ending → World → Prop} {act : Act} {w : World} (g : Nat) (a b c d : Value) (hd : act.defers = [])
    (hp : act.tmps.getD p undef = .pointer (some ⟨g, 0, none⟩))
    (h0 : w.cell? ⟨g, 0, none⟩ = some a) (h1 : w.cell? ⟨g, 1, none⟩ = some b) (h2 : w.cell? ⟨g, 2, none⟩ = some c) (h3 : w.cell? ⟨g, 3, none⟩ = some d)
    (hQ : Q (.returned (.agg #[a, b, c, d])) w) : bodyPost Tryz.prog fn Q .ret act w := by
  refine bodyPost_ret (v := .agg #[a, b, c, d]) ?_ hd hQ
  simp only [results, hr]
  simp [Sem.run_bind, Result.andThen, -Array.getD_eq_getD_getElem?]
  rw [hp]
  simp only [asAddr, Sem.run_pure]
  rw [load4p _ g a b c d h0 h1 h2 h3]
set_option maxHeartbeats 2000000 in
theorem r2Whole_walk (line : Int) (v : Value) (e : Int) (w : World) :
    Calls Tryz.prog 112 #[.agg #[.int .i64 line, v], .int .i64 e] w fun en w' => en = .returned (.agg #[.int .i64 0, .int .i64 line, .int .i64 0, .int .i64 e]) ∧ Below w.heap.size w w' := by
  go_enter Tryz.func112, Tryz.ntmps112
  go_wp2
  obtain ⟨c0, c1, c2, c3, -⟩ := scan_cells (heap_new2 w (.cells #[.int .i64 line, v] 75) (.cells #[.int .i64 0, .int .i64 line, .int .i64 0, .int .i64 e] 102))
  exact end_prob1 rfl (w.heap.size + 1) _ _ _ _ rfl rfl c0 c1 c2 c3 ⟨rfl, (by repeat (first | exact Below.refl _ _ | refine ext_alloc ?_ _ | refine ext_drewN ?_ _ | refine ext_drew ?_ | refine ext_trans ?_ (by assumption)))⟩
set_option maxHeartbeats 4000000 in
theorem r2At_walk (line : Int) (F : Option Addr) (fs : List Fld) (c k : Nat) (e : Int) (w : World) (hF : FieldsAt w.heap.size w F fs) (hk : k < fs.length) :
    Calls Tryz.prog 113 #[.agg #[.int .i64 line, .slice F fs.length c], .int .i64 k, .int .i64 e] w fun en w' => en = .returned (.agg #[.int .i64 0, .int .i64 line, .int .i64 (colAt fs (k + 1)), .int .i64 e]) ∧ Below w.heap.size w w' := by
  obtain ⟨fb, fo, rfl, hfb, hfc⟩ := hF (by omega)
  obtain ⟨-, f1, -⟩ := hfc k hk
  have hcol : (fs[k]'hk).2.1 = colAt fs (k + 1) := by
    unfold colAt; rw [show k + 1 - 1 = k from rfl, List.getD_eq_getElem?_getD, List.getElem?_eq_getElem hk]; rfl
  rw [hcol] at f1
  have hfb1 : fb < w.heap.size + 1 := by omega
  have hk1 : (k : Int) < (fs.length : Int) := by omega
  have hk0 : (0 : Int) ≤ (k : Int) := by omega
  clear hcol hfc hF
  go_enter Tryz.func113, Tryz.ntmps113
  go_wp2_with fail
  go_region
  all_goals
    go_wp2_with fail
    obtain ⟨c0, c1, c2, c3, -⟩ := scan_cells (heap_new2 w (.cells #[.int .i64 line, .slice (some ⟨fb, fo, none⟩) fs.length c] 75) (.cells #[.int .i64 0, .int .i64 line, .int .i64 (colAt fs (k + 1)), .int .i64 e] 102))
    exact end_prob1 rfl (w.heap.size + 1) _ _ _ _ rfl rfl c0 c1 c2 c3 ⟨rfl, (by repeat (first | exact Below.refl _ _ | refine ext_alloc ?_ _ | refine ext_drewN ?_ _ | refine ext_drew ?_ | refine ext_trans ?_ (by assumption)))⟩
/-- The place of a problem: of a field, or (-1) of the record. -/
def placeOf (fs : List Fld) (k : Int) : Int := if k < 0 then 0 else colAt fs (k.toNat + 1)
set_option maxHeartbeats 4000000 in
theorem r7Found_walk (line : Int) (F : Option Addr) (fs : List Fld) (c : Nat) (k e : Int) (w : World) (hF : FieldsAt w.heap.size w F fs) (hk : k < fs.length) :
    Calls Tryz.prog 83 #[.agg #[.int .i64 line, .slice F fs.length c], .int .i64 k, .int .i64 e] w fun en w' => en = .returned (.agg #[.int .i64 0, .int .i64 line, .int .i64 (placeOf fs k), .int .i64 e]) ∧ Below w.heap.size w w' := by
  have hb0 : Below w.heap.size w ((w.alloc (.cells #[.int .i64 line, .slice F fs.length c] 75)).alloc (.cells #[.int .i64 0, .int .i64 0, .int .i64 0, .int .i64 0] 102)) := (by repeat (first | exact Below.refl _ _ | refine ext_alloc ?_ _ | refine ext_drewN ?_ _ | refine ext_drew ?_ | refine ext_trans ?_ (by assumption)))
  have hn := heap_new2 w (.cells #[.int .i64 line, .slice F fs.length c] 75) (.cells #[.int .i64 0, .int .i64 0, .int .i64 0, .int .i64 0] 102)
  obtain ⟨W, hW⟩ : ∃ W, (w.alloc (.cells #[.int .i64 line, .slice F fs.length c] 75)).alloc (.cells #[.int .i64 0, .int .i64 0, .int .i64 0, .int .i64 0] 102) = W := ⟨_, rfl⟩
  rw [hW] at hb0 hn
  have hl1 : w.heap.size + 1 < W.heap.size := blk_lt hn
  replace hW := hide hW
  by_cases h0 : k < 0
  · have hp : placeOf fs k = 0 := if_pos h0
    rw [hp]
    clear hF hk hp
    go_enter Tryz.func83, Tryz.ntmps83
    go_wp2_with fail
    rw [hW.out]
    refine (r2Whole_walk line _ e W).mono ?_
    rintro en w1 ⟨rfl, hb1⟩
    obtain ⟨c0, c1, c2, c3, hf⟩ := scan_cells hn
    have f0 := (hb1.frozen (p := ⟨w.heap.size + 1, 0, none⟩) hl1).trans (hf 0)
    have f1 := (hb1.frozen (p := ⟨w.heap.size + 1, 1, none⟩) hl1).trans (hf 1)
    have f2 := (hb1.frozen (p := ⟨w.heap.size + 1, 2, none⟩) hl1).trans (hf 2)
    have f3 := (hb1.frozen (p := ⟨w.heap.size + 1, 3, none⟩) hl1).trans (hf 3)
    replace c0 := cell_later hb1 c0
    replace c1 := cell_later hb1 c1
    replace c2 := cell_later hb1 c2
    replace c3 := cell_later hb1 c3
    have hb := ext_trans hb0 hb1
    have h4 := four_of hn hb1
    clear hW hn hb0 hb1 hf
    go_wp2
    exact end_prob rfl (w.heap.size + 1) _ _ _ _ rfl rfl h4 ⟨rfl, ext_set4 hb (by omega) _ _ _ _⟩
  · obtain ⟨j, rfl⟩ := Int.eq_ofNat_of_zero_le (by omega : 0 ≤ k)
    have hp : placeOf fs (j : Int) = colAt fs (j + 1) := by unfold placeOf; rw [if_neg h0, Int.toNat_natCast]
    rw [hp]
    have hFW := (hF.below hb0).more hb0.size
    clear hF hp
    go_enter Tryz.func83, Tryz.ntmps83
    go_wp2_with fail
    rw [hW.out]
    refine (r2At_walk line F fs c j e W hFW (by omega)).mono ?_
    rintro en w1 ⟨rfl, hb1⟩
    obtain ⟨c0, c1, c2, c3, hf⟩ := scan_cells hn
    have f0 := (hb1.frozen (p := ⟨w.heap.size + 1, 0, none⟩) hl1).trans (hf 0)
    have f1 := (hb1.frozen (p := ⟨w.heap.size + 1, 1, none⟩) hl1).trans (hf 1)
    have f2 := (hb1.frozen (p := ⟨w.heap.size + 1, 2, none⟩) hl1).trans (hf 2)
    have f3 := (hb1.frozen (p := ⟨w.heap.size + 1, 3, none⟩) hl1).trans (hf 3)
    replace c0 := cell_later hb1 c0
    replace c1 := cell_later hb1 c1
    replace c2 := cell_later hb1 c2
    replace c3 := cell_later hb1 c3
    have hb := ext_trans hb0 hb1
    have h4 := four_of hn hb1
    clear hW hn hb0 hb1 hf hFW
    go_wp2
    exact end_prob rfl (w.heap.size + 1) _ _ _ _ rfl rfl h4 ⟨rfl, ext_set4 hb (by omega) _ _ _ _⟩

end Go.Proofs.YthejgholpkeldaaGreatDoor
