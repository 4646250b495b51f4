/- Walk of Scanner.Code, whether a problem is noted or not. Conditions: the scanner's cells are as Scan says. Walk of Scanner.Codes: a field that is a list of codes. Conditions: the scanner's cells are as Scan says; a text shorter than 2^30 bytes; what the program's variables hold. What fields.Read gathers, whatever the kind of its elements. No condition. Walk of the closure of curriculum.Lines: one curriculum is read. Conditions: the scanner's cells are as Scan says; a text shorter than 2^30 bytes. Walk of fields.Read at curricula. Conditions: texts shorter than 2^30 bytes; what the program's variables hold. Walks of curriculum.Lines and Read. Conditions: texts shorter than 2^30 bytes; what the program's variables hold. Walks of timetableref07.Found, timetableref02.Whole, At. Conditions: the record's cells. Walk of timetableref11.one. Conditions: texts shorter than 2^30 bytes; what the program's variables hold. Walks of timetableref11.ReadLines and Read. Conditions: texts shorter than 2^30 bytes; what the program's variables hold. Walk of timetableref11.Same at equal lists. Conditions: the cells. The check at the head of law 11. Condition: the program's variables hold what Std says. -/
import Derived.Test.YtonpfohhedcjbaaGreatDoorKFieldsC
import Derived.Test.YtonpfohhedcjbaaGreatDoorKAwake3
import Derived.Test.YtonpfohhedcjbaaGreatDoorKSameL
import Derived.Test.YtonpfohhedcjbaaGreatDoorKPlainA
import Derived.Test.YtonpfohhedcjbaaGreatDoorKIdxS
import Derived.Test.YtonpfohhedcjbaaGreatDoorKCWriteR
import Derived.Test.YtonpfohhedcjbaaGreatDoorKEnds
import Derived.Test.YtonpfohhedcjbaaGreatDoorKListR
namespace Go.Proofs.YtonpfohhedcjbaaGreatDoor
open Go.RowKit
set_option maxRecDepth 100000

def CodeAny (g : Nat) (line : Int) (F : Option Addr) (fs : List Fld) (c k : Nat) (pr : Option Prob) (w : World) (e : Ending) (w' : World) : Prop :=
  ∃ (k' : Nat) (t : ByteArray) (pr' : Option Prob), e = .returned (.string t) ∧ Scan w' g line F fs.length c k' pr' ∧ Only g w w' ∧ 1 ≤ k' ∧ k' ≤ k + 1 ∧ (pr = none → k' = k + 1 ∧ t = textAt fs k ∧ pr' = if codeB (textAt fs k) then none else some (line, colAt fs (k + 1), 10)) ∧ (∀ p, pr = some p → pr' = some p)
set_option maxHeartbeats 800000 in
theorem code_any (B g : Nat) (line : Int) (F : Option Addr) (fs : List Fld) (c k : Nat) (pr : Option Prob) (w : World) (h : Scan w g line F fs.length c k pr) (hF : FieldsAt B w F fs) (h2 : k < fs.length) (hm : fs.length ≤ 1000) (hB : B ≤ g) (h1 : ∀ p, pr = some p → 1 ≤ k) :
    Calls Tryz.prog 57 #[.pointer (some ⟨g, 0, none⟩)] w fun e w' => CodeAny g line F fs c k pr w e w' := by
  cases pr with
  | none =>
    refine (fcode_walk B g line F fs c k w h hF h2 hm hB).mono ?_
    rintro e w' ⟨rfl, hs, ho⟩
    exact ⟨k + 1, _, _, rfl, hs, ho, by omega, Nat.le_refl _, fun _ => ⟨rfl, rfl, rfl⟩, fun p hp => by cases hp⟩
  | some p =>
    have hk := h1 p rfl
    have hv := cvalid_walk ⟨#[]⟩
    rw [show codeB ⟨#[]⟩ = false from codeB_no (by decide)] at hv
    go_enter Tryz.func57, Tryz.ntmps57
    go_wp2_with fail
    refine (fnext_stop g line F fs.length c k p w h).mono ?_
    rintro e w1 ⟨rfl, rfl⟩
    go_wp2_with fail
    refine (hv w).mono ?_
    rintro e w2 ⟨rfl, rfl⟩
    go_wp2_with fail
    refine (fail_walk B g line F fs c k (some p) 10 w h hF hk (by omega) hm).mono ?_
    rintro e w3 ⟨rfl, hs3, ho3⟩
    go_wp2
    go_ret
    exact ⟨k, _, _, rfl, hs3, ho3, hk, by omega, (fun hp => by cases hp), fun q hq => hq⟩
end Go.Proofs.YtonpfohhedcjbaaGreatDoor

namespace Go.Proofs.YtonpfohhedcjbaaGreatDoor
open Go.RowKit
set_option maxRecDepth 100000

/-- The problem that the list of codes in a field is. -/
def codesP (most : Nat) (line col : Int) (t : ByteArray) : Option Prob :=
  noted (noted none (decide ((listV t).1 ≠ 0)) (line, col, ((listV t).1 : Int))) (decide (most < (listV t).2.length)) (line, col, 2)
def ListAny (g : Nat) (line : Int) (F : Option Addr) (fs : List Fld) (c k most : Nat) (pr : Option Prob) (w : World) (e : Ending) (w' : World) : Prop :=
  ∃ (k' : Nat) (l : List ByteArray) (v : Value) (pr' : Option Prob), e = .returned v ∧ Own kStr 9 [] 0 w.heap.size w' v l ∧ Scan w' g line F fs.length c k' pr' ∧ Only g w w' ∧ 1 ≤ k' ∧ k' ≤ k + 1 ∧ (pr = none → k' = k + 1 ∧ l = (listV (textAt fs k)).2 ∧ pr' = codesP most line (colAt fs (k + 1)) (textAt fs k)) ∧ (∀ p, pr = some p → pr' = some p ∧ l = [])
theorem Own.noting {g B : Nat} {w w' : World} {v : Value} {l : List ByteArray} (h : Own kStr 9 [] 0 B w v l) (ho : Only g w w') (hg : g < B) : Own kStr 9 [] 0 B w' v l :=
  h.kept ho (by
    cases hv : v.ownBlock with
    | none => exact .inl rfl
    | some y => exact .inr fun e => by injection e with e; have := (h.lt y hv).1; omega) (fun y _ => ⟨Nat.zero_le _, fun h => by obtain ⟨-, cs, t', -, ht⟩ := h; simp at ht⟩)
set_option maxHeartbeats 4000000 in
theorem list_any (B g : Nat) (line : Int) (F : Option Addr) (fs : List Fld) (c k most : Nat) (pr : Option Prob) (w : World) (hS : Std w) (h : Scan w g line F fs.length c k pr) (hF : FieldsAt B w F fs) (h2 : k < fs.length) (hm : fs.length ≤ 1000) (hB : B ≤ g) (hN : 9 ≤ B) (h1 : ∀ p, pr = some p → 1 ≤ k) (hsz : (textAt fs k).size < 1073741824) :
    Calls Tryz.prog 58 #[.pointer (some ⟨g, 0, none⟩), .int .i64 most] w fun e w' => ListAny g line F fs c k most pr w e w' := by
  have hgl := h.lt
  cases pr with
  | none =>
    obtain ⟨⟨en, l⟩, hv⟩ : ∃ r, listV (textAt fs k) = r := ⟨_, rfl⟩
    have hfin : Hid (∀ e w', ListAny g line F fs c k most none w e w' = (∃ (k' : Nat) (l' : List ByteArray) (v : Value) (pr' : Option Prob), e = .returned v ∧ Own kStr 9 [] 0 w.heap.size w' v l' ∧ Scan w' g line F fs.length c k' pr' ∧ Only g w w' ∧ 1 ≤ k' ∧ k' ≤ k + 1 ∧ (none = (none : Option Prob) → k' = k + 1 ∧ l' = l ∧ pr' = noted (noted none (decide (en ≠ 0)) (line, colAt fs (k + 1), (en : Int))) (decide (most < l.length)) (line, colAt fs (k + 1), 2)) ∧ (∀ p, (none : Option Prob) = some p → pr' = some p ∧ l' = []))) := hide fun e w' => by
      unfold ListAny codesP
      rw [hv]
    go_enter Tryz.func58, Tryz.ntmps58
    go_wp2_with fail
    refine (fnext_go B g line F fs c k w h hF h2 hm hB).mono ?_
    rintro e w1 ⟨rfl, hs1, ho1⟩
    have hS1 : Std w1 := hS.below (ho1.below (Nat.le_refl _) (by omega)) (by omega)
    have hL := list_walk (textAt fs k) w1 hS1 hsz
    rw [hv] at hL
    have hF1 := hF.only ho1 hB (by omega)
    go_wp2_with fail
    refine hL.mono ?_
    clear hL
    rintro e w2 ⟨v2, rfl, hown, hb2⟩
    have hs2 := hs1.later hb2
    have ho2 := ho1.later hb2
    have hF2 := hF1.below (hb2.mono (by have := ho1.size; omega) : Below B _ _)
    have hown1 : Own kStr 9 [] 0 w.heap.size w2 v2 l := hown.lower ho1.size
    have hl9 := hown1.le
    obtain ⟨A, c', rfl⟩ := hown1.form
    have he0 : decide ((en : Int) ≠ 0) = decide (en ≠ 0) := decide_eq_decide.2 (by omega)
    clear hown hv hs1 ho1 hF1 hb2 hS1
    dsimp only
    go_wp2_with fail
    refine (fail_walk B g line F fs c (k + 1) none en w2 hs2 hF2 (by omega) (by omega) hm).mono ?_
    rintro e w3 ⟨rfl, hs3, ho3⟩
    have ho := ho2.trans ho3
    have hown3 := hown1.noting ho3 hgl
    have hF3 := hF2.only ho3 hB (by have := ho2.size; omega)
    rw [he0] at hs3
    clear hown1 hs2 hF2 ho2 ho3 he0
    by_cases hml : most < l.length
    · have hmi : (most : Int) < (l.length : Int) := by omega
      go_wp2_with fail
      refine (fail_walk B g line F fs c (k + 1) _ 2 w3 hs3 hF3 (by omega) (by omega) hm).mono ?_
      rintro e w4 ⟨rfl, hs4, ho4⟩
      have hown4 := hown3.noting ho4 hgl
      go_wp2_with fail
      go_ret
      rw [hfin.out]
      exact ⟨k + 1, l, _, _, rfl, hown4, hs4, ho.trans ho4, by omega, Nat.le_refl _, fun _ => ⟨rfl, rfl, by rw [decide_eq_true hml]; rfl⟩, fun p hp => by cases hp⟩
    · have hmi : ¬ (most : Int) < (l.length : Int) := by omega
      go_wp2_with fail
      go_ret
      rw [hfin.out]
      refine ⟨k + 1, l, _, _, rfl, hown3, hs3, ho, by omega, Nat.le_refl _, fun _ => ⟨rfl, rfl, ?_⟩, fun p hp => by cases hp⟩
      rw [decide_eq_false hml]
      cases hd : decide (en ≠ 0) <;> rfl
  | some p =>
    have hk := h1 p rfl
    have hL := list_walk ⟨#[]⟩ w hS (by decide)
    rw [show listV ⟨#[]⟩ = (0, []) from rfl] at hL
    have hfin : Hid (∀ e w', ListAny g line F fs c k most (some p) w e w' = (∃ (k' : Nat) (l' : List ByteArray) (v : Value) (pr' : Option Prob), e = .returned v ∧ Own kStr 9 [] 0 w.heap.size w' v l' ∧ Scan w' g line F fs.length c k' pr' ∧ Only g w w' ∧ 1 ≤ k' ∧ k' ≤ k + 1 ∧ (some p = (none : Option Prob) → k' = k + 1 ∧ l' = (listV (textAt fs k)).2 ∧ pr' = codesP most line (colAt fs (k + 1)) (textAt fs k)) ∧ (∀ q, (some p : Option Prob) = some q → pr' = some q ∧ l' = []))) := hide fun e w' => rfl
    go_enter Tryz.func58, Tryz.ntmps58
    go_wp2_with fail
    refine (fnext_stop g line F fs.length c k p w h).mono ?_
    rintro e w1 ⟨rfl, rfl⟩
    go_wp2_with fail
    refine hL.mono ?_
    clear hL
    rintro e w2 ⟨v2, rfl, hown, hb2⟩
    have hs2 := h.later hb2
    have ho2 : Only g w w2 := (Only.refl g w).later hb2
    have hF2 := hF.below (hb2.mono (by omega) : Below B _ _)
    replace hown : Own kStr 9 [] 0 w.heap.size w2 v2 [] := hown
    obtain ⟨A, c', rfl⟩ := hown.form
    dsimp only
    go_wp2_with fail
    refine (fail_walk B g line F fs c k (some p) 0 w2 hs2 hF2 hk (by omega) hm).mono ?_
    rintro e w3 ⟨rfl, hs3, ho3⟩
    have ho := ho2.trans ho3
    have hown3 := hown.noting ho3 hgl
    have hmi : ¬ (most : Int) < 0 := by omega
    clear hown
    go_wp2_with fail
    go_ret
    rw [hfin.out]
    exact ⟨k, [], _, some p, rfl, hown3, hs3, ho, hk, by omega, (fun hq => by cases hq), fun q hq => ⟨hq, rfl⟩⟩
end Go.Proofs.YtonpfohhedcjbaaGreatDoor

namespace Go.Proofs.YtonpfohhedcjbaaGreatDoor
open Go.RowKit
set_option maxRecDepth 100000

structure RG (α : Type) where
  ls : List α
  lines : List Int
  ps : List Prob
/-- One record: n fields, its problem behind others, what it says. -/
def gathStep {α : Type} (n : Nat) (P : Int → List Fld → List α → Option Prob) (f : List Fld → α) (s : RG α) (r : Rec) : RG α :=
  if r.2.length = n then (match P r.1 r.2 s.ls with | some p => ⟨s.ls, s.lines, s.ps ++ [p]⟩ | none => ⟨s.ls ++ [f r.2], s.lines ++ [r.1], s.ps⟩) else ⟨s.ls, s.lines, s.ps ++ [(r.1, 0, 9)]⟩
def readAll {α : Type} (n : Nat) (P : Int → List Fld → List α → Option Prob) (f : List Fld → α) (rs : List Rec) : RG α := rs.foldl (gathStep n P f) ⟨[], [], []⟩
section
variable {α : Type} {n : Nat} {P : Int → List Fld → List α → Option Prob} {f : List Fld → α}
theorem readAll_take (rs : List Rec) (j : Nat) (r : Rec) (h : rs[j]? = some r) : readAll n P f (rs.take (j + 1)) = gathStep n P f (readAll n P f (rs.take j)) r := by
  rw [List.take_add_one, h]
  unfold readAll
  simp [List.foldl_append]
theorem gathStep_len {M : Nat} (hM : ∀ line fs ls, P line fs ls = none → ls.length < M) {s : RG α} (h1 : s.ls.length ≤ M) (h2 : s.lines.length = s.ls.length) (r : Rec) :
    (gathStep n P f s r).ls.length ≤ M ∧ (gathStep n P f s r).lines.length = (gathStep n P f s r).ls.length ∧ (gathStep n P f s r).ps.length ≤ s.ps.length + 1 := by
  unfold gathStep
  split
  · split
    · exact ⟨h1, h2, by simp⟩
    · rename_i hp
      have := hM _ _ _ hp
      exact ⟨by simp; omega, by simp [h2], by simp⟩
  · exact ⟨h1, h2, by simp⟩
theorem readAll_len {M : Nat} (hM : ∀ line fs ls, P line fs ls = none → ls.length < M) : ∀ (rs : List Rec), (readAll n P f rs).ls.length ≤ M ∧ (readAll n P f rs).lines.length = (readAll n P f rs).ls.length ∧ (readAll n P f rs).ps.length ≤ rs.length := by
  have key : ∀ (rs : List Rec) (s : RG α), s.ls.length ≤ M → s.lines.length = s.ls.length → (rs.foldl (gathStep n P f) s).ls.length ≤ M ∧ (rs.foldl (gathStep n P f) s).lines.length = (rs.foldl (gathStep n P f) s).ls.length ∧ (rs.foldl (gathStep n P f) s).ps.length ≤ s.ps.length + rs.length := by
    intro rs
    induction rs with
    | nil => intro s h1 h2; exact ⟨h1, h2, by simp⟩
    | cons r rs ih =>
      intro s h1 h2
      obtain ⟨a, b, c⟩ := gathStep_len (n := n) (f := f) hM h1 h2 r
      obtain ⟨x, y, z⟩ := ih _ a b
      exact ⟨x, y, by simp only [List.foldl_cons, List.length_cons]; omega⟩
  intro rs
  obtain ⟨a, b, c⟩ := key rs ⟨[], [], []⟩ (by simp) rfl
  exact ⟨a, b, by simpa [readAll] using c⟩
end
/-- The types of what is gathered are apart from those of the scanner, the problems and the numbers. -/
structure TyApart (t : TypeId) (ts : List TypeId) : Prop where
  s1 : t ≠ 119
  s2 : 119 ∉ ts
  p1 : t ≠ 98
  p2 : 98 ∉ ts
  i1 : t ≠ 3
  i2 : 3 ∉ ts
  own : t ∉ ts
theorem apd_intsG : Apd Tryz.prog 22 3 1 8 := apd Tryz.underlying22 (z := .int .i64 0) (by kernel_rfl) rfl
/-- What is gathered. -/
structure GG {α : Type} (K : Kind α) (t : TypeId) (ts : List TypeId) (w0 : World) (u6 u7 u8 : Value) (ls : List α) (lines : List Int) (ps : List Prob) (W : World) : Prop where
  ls : Own K t ts 0 w0.heap.size W u6 ls
  ins : Own kInt 3 [] 0 w0.heap.size W u7 lines
  ps : ProbsOwn w0.heap.size W u8 ps
  below : Below w0.heap.size w0 W
section
variable {α : Type} {K : Kind α} {t : TypeId} {ts : List TypeId} {w0 W W' : World} {u6 u7 u8 : Value} {ls : List α} {lines : List Int} {ps : List Prob}
theorem GG.later (h : GG K t ts w0 u6 u7 u8 ls lines ps W) (hb : Below W.heap.size W W') : GG K t ts w0 u6 u7 u8 ls lines ps W' :=
  ⟨h.ls.later hb, h.ins.later hb, owns_later h.ps hb, ext_trans h.below hb⟩
theorem GG.alloc (h : GG K t ts w0 u6 u7 u8 ls lines ps W) (o : Obj) : GG K t ts w0 u6 u7 u8 ls lines ps (W.alloc o) := h.later (ext_alloc (Below.refl _ _) _)
theorem GG.drew (h : GG K t ts w0 u6 u7 u8 ls lines ps W) : GG K t ts w0 u6 u7 u8 ls lines ps W.drew := h.later (ext_drew (Below.refl _ _))
theorem GG.scan {g : Nat} {line : Int} {F : Option Addr} {m c j : Nat} {pr : Option Prob} (h : GG K t ts w0 u6 u7 u8 ls lines ps W) (hT : TyApart t ts) (hs : Scan W g line F m c j pr) (ho : Only g W W') (hg : w0.heap.size ≤ g) : GG K t ts w0 u6 u7 u8 ls lines ps W' := by
  have hs' := hs
  obtain ⟨v, hgb, -⟩ := hs'
  exact ⟨h.ls.only ho hgb (Nat.zero_le _) hT.s1 hT.s2, h.ins.only ho hgb (Nat.zero_le _) (by decide) (by decide), owns_scan h.ps hs (by decide) ho, h.below.trans (Only.below ho hg h.below.size)⟩
theorem GG.prob {v' : Value} {p : Prob} (h : GG K t ts w0 u6 u7 u8 ls lines ps W) (hT : TyApart t ts) (hg : W.grownBy W' u8.ownBlock) (hn : W'.ownsRow w0.heap.size 98 4 v' (ps.length + 1) (ps.flatMap encP ++ encP p)) : GG K t ts w0 u6 u7 v' ls lines (ps ++ [p]) W' :=
  ⟨h.ls.grown h.ps (Nat.zero_le _) hg hT.p1 hT.p2, h.ins.grown h.ps (Nat.zero_le _) hg (by decide) (by decide), by unfold ProbsOwn; rw [List.length_append, flatP_snoc]; exact hn, Below.grown h.below hg h.below.size (fun j hj => (h.ps.lt j hj).1)⟩
theorem stepg_ls {ops : Array Oper} {o : Oper} {a : Act} {K' : Act → World → Prop} {Q : Exit → Act → World → Prop} {E : Prop} {S : World → Prop} {t2 : TypeId} {bytes : Nat} (hT : TyApart t ts) (hA : Apd Tryz.prog t2 t K.k bytes) (hk0 : 0 < K.k) (hby : bytes ≤ 1000) (hgd : o.guard = none) (s x : Operand)
    (ho : o.op = .call { callee := .builtin .append, args := #[s, x], argTypes := #[t2, t2] }) (hs : a.eval s = u6) (h : GG K t ts w0 u6 u7 u8 ls lines ps W) (hl : ls.length ≤ 100000)
    (ad : Addr) (c : Nat) (hx : a.eval x = .slice (some ad) 1 c) (e : α) (vs : List Value) (hrep : K.rep (Ty ts 0 w0.heap.size W) W e vs) (hnews : ∀ j u, vs[j]? = some u → W.cell? (ad.add j) = some u) (hS : ∀ w', W.grownBy w' u6.ownBlock → S w')
    (hk : ∀ g cap w', GG K t ts w0 (.slice (some ⟨g, 0, none⟩) (ls.length + 1) cap) u7 u8 (ls ++ [e]) lines ps w' → W.grownBy w' u6.ownBlock → S w' → K' (a.put o.dst (.slice (some ⟨g, 0, none⟩) (ls.length + 1) cap)) w') :
    if Region.wanted o (yielded ops a.tmps) = true then Oper.wp Tryz.prog o a W K' Q else E := by
  refine step_own (S := S) hgd s x ho hA hk0 hs h.ls (by omega) hby ad c hx e vs hrep hnews hT.own (Nat.zero_le _) h.below.size hS fun g cap w' hn hg hs => hk g cap w' ?_ hg hs
  obtain ⟨vss, e1, e2, e3⟩ := h.ls
  exact ⟨hn, h.ins.grown e2 (Nat.zero_le _) hg (fun e => hT.i1 e.symm) (by simp), World.ownsRow.kept h.ps hg (own_ne h.ps e2 (fun e => hT.p1 e.symm)), Below.grown h.below hg h.below.size (fun j hj => (e2.lt j hj).1)⟩
theorem stepg_ins {ops : Array Oper} {o : Oper} {a : Act} {K' : Act → World → Prop} {Q : Exit → Act → World → Prop} {E : Prop} {S : World → Prop} (hT : TyApart t ts) (hgd : o.guard = none) (s x : Operand)
    (ho : o.op = .call { callee := .builtin .append, args := #[s, x], argTypes := #[22, 22] }) (hs : a.eval s = u7) (h : GG K t ts w0 u6 u7 u8 ls lines ps W) (hl : lines.length ≤ 100000)
    (ad : Addr) (c : Nat) (hx : a.eval x = .slice (some ad) 1 c) (e : Int) (hnews : ∀ j u, [Value.int .i64 e][j]? = some u → W.cell? (ad.add j) = some u) (hS : ∀ w', W.grownBy w' u7.ownBlock → S w')
    (hk : ∀ g cap w', GG K t ts w0 u6 (.slice (some ⟨g, 0, none⟩) (lines.length + 1) cap) u8 ls (lines ++ [e]) ps w' → W.grownBy w' u7.ownBlock → S w' → K' (a.put o.dst (.slice (some ⟨g, 0, none⟩) (lines.length + 1) cap)) w') :
    if Region.wanted o (yielded ops a.tmps) = true then Oper.wp Tryz.prog o a W K' Q else E := by
  refine step_own (S := S) hgd s x ho apd_intsG (by decide) hs h.ins (by omega) (by decide) ad c hx e [.int .i64 e] rfl hnews (by decide) (Nat.zero_le _) h.below.size hS fun g cap w' hn hg hs => hk g cap w' ?_ hg hs
  obtain ⟨vss, e1, e2, e3⟩ := h.ins
  exact ⟨h.ls.grown e2 (Nat.zero_le _) hg hT.i1 hT.i2, hn, World.ownsRow.kept h.ps hg (own_ne h.ps e2 (by decide)), Below.grown h.below hg h.below.size (fun j hj => (e2.lt j hj).1)⟩
theorem wpg_ls {ops : Array Oper} {rest : List Oper} {o : Oper} {a : Act} {Q : Exit → Act → World → Prop} {t2 : TypeId} {bytes : Nat} (hT : TyApart t ts) (hA : Apd Tryz.prog t2 t K.k bytes) (hk0 : 0 < K.k) (hby : bytes ≤ 1000) (hgd : o.guard = none) (s x : Operand)
    (ho : o.op = .call { callee := .builtin .append, args := #[s, x], argTypes := #[t2, t2] }) (hs : a.eval s = u6) (h : GG K t ts w0 u6 u7 u8 ls lines ps W) (hl : ls.length ≤ 100000)
    (ad : Addr) (c : Nat) (hx : a.eval x = .slice (some ad) 1 c) (e : α) (vs : List Value) (hrep : K.rep (Ty ts 0 w0.heap.size W) W e vs) (hnews : ∀ j u, vs[j]? = some u → W.cell? (ad.add j) = some u)
    (hk : ∀ v' w', GG K t ts w0 v' u7 u8 (ls ++ [e]) lines ps w' → wpList Tryz.prog ops Q rest (a.put o.dst v') w') : wpList Tryz.prog ops Q (o :: rest) a W := by
  refine wpList_own hgd s x ho hA hk0 hs h.ls (by omega) hby ad c hx e vs hrep hnews hT.own (Nat.zero_le _) h.below.size fun v' w' hn hg => hk v' w' ?_
  obtain ⟨vss, e1, e2, e3⟩ := h.ls
  exact ⟨hn, h.ins.grown e2 (Nat.zero_le _) hg (fun e => hT.i1 e.symm) (by simp), World.ownsRow.kept h.ps hg (own_ne h.ps e2 (fun e => hT.p1 e.symm)), Below.grown h.below hg h.below.size (fun j hj => (e2.lt j hj).1)⟩
theorem wpg_ins {ops : Array Oper} {rest : List Oper} {o : Oper} {a : Act} {Q : Exit → Act → World → Prop} (hT : TyApart t ts) (hgd : o.guard = none) (s x : Operand)
    (ho : o.op = .call { callee := .builtin .append, args := #[s, x], argTypes := #[22, 22] }) (hs : a.eval s = u7) (h : GG K t ts w0 u6 u7 u8 ls lines ps W) (hl : lines.length ≤ 100000)
    (ad : Addr) (c : Nat) (hx : a.eval x = .slice (some ad) 1 c) (e : Int) (hnews : ∀ j u, [Value.int .i64 e][j]? = some u → W.cell? (ad.add j) = some u)
    (hk : ∀ v' w', GG K t ts w0 u6 v' u8 ls (lines ++ [e]) ps w' → wpList Tryz.prog ops Q rest (a.put o.dst v') w') : wpList Tryz.prog ops Q (o :: rest) a W := by
  refine wpList_own hgd s x ho apd_intsG (by decide) hs h.ins (by omega) (by decide) ad c hx e [.int .i64 e] rfl hnews (by decide) (Nat.zero_le _) h.below.size fun v' w' hn hg => hk v' w' ?_
  obtain ⟨vss, e1, e2, e3⟩ := h.ins
  exact ⟨h.ls.grown e2 (Nat.zero_le _) hg hT.i1 hT.i2, hn, World.ownsRow.kept h.ps hg (own_ne h.ps e2 (by decide)), Below.grown h.below hg h.below.size (fun j hj => (e2.lt j hj).1)⟩
end
end Go.Proofs.YtonpfohhedcjbaaGreatDoor

namespace Go.Proofs.YtonpfohhedcjbaaGreatDoor
open Go.RowKit
set_option maxRecDepth 100000

theorem load2c (w : World) (g : Nat) (a b : Value) (h0 : w.cell? ⟨g, 0, none⟩ = some a) (h1 : w.cell? ⟨g, 1, none⟩ = some b) :
    (loadVar 36 ⟨g, 0, none⟩).run Tryz.prog w = .ok (.agg #[a, b]) w := by
  simp [go_sem, h0, h1]
theorem end_curr {fn : Func} {p : Tmp} (hr : fn.results = #[.cell p 36]) {Q : Ending → World → Prop} {act : Act} {w : World} (g : Nat) (a b : Value) (hd : act.defers = [])
    (hp : act.tmps.getD p undef = .pointer (some ⟨g, 0, none⟩))
    (h0 : w.cell? ⟨g, 0, none⟩ = some a) (h1 : w.cell? ⟨g, 1, none⟩ = some b)
    (hQ : Q (.returned (.agg #[a, b])) w) : bodyPost Tryz.prog fn Q .ret act w := by
  refine bodyPost_ret (v := .agg #[a, b]) ?_ hd hQ
  simp only [results, hr]
  simp [Sem.run_bind, Result.andThen, -Array.getD_eq_getD_getElem?]
  rw [hp]
  simp only [asAddr, Sem.run_pure]
  rw [load2c w g a b h0 h1]
/-- The problem of the record of a curriculum, behind others. -/
def currP (line : Int) (fs : List Fld) (ls : List Curr) : Option Prob :=
  if codeB (textAt fs 0) = true then
    noted (noted (noted (codesP 8 line (colAt fs 2) (textAt fs 1)) (decide ((listV (textAt fs 1)).2.length = 0)) (line, colAt fs 2, 16)) (decide (0 ≤ idxS (textAt fs 0) (namesC ls))) (line, 0, 11)) (decide (16 ≤ ls.length)) (line, 0, 2)
  else some (line, colAt fs 1, 10)
def currOf (fs : List Fld) : Curr := (textAt fs 0, (listV (textAt fs 1)).2)
theorem curr_steps {line : Int} {fs : List Fld} {ls : List Curr} {k1 k2 : Nat} {t0 : ByteArray} {l : List ByteArray} {pr1 pr2 pr5 : Option Prob}
    (a1 : k1 = 0 + 1 ∧ t0 = textAt fs 0 ∧ pr1 = if codeB (textAt fs 0) then none else some (line, colAt fs (0 + 1), 10))
    (b1 : pr1 = none → k2 = k1 + 1 ∧ l = (listV (textAt fs k1)).2 ∧ pr2 = codesP 8 line (colAt fs (k1 + 1)) (textAt fs k1)) (b2 : ∀ p, pr1 = some p → pr2 = some p ∧ l = [])
    (h5 : noted pr2 (decide (l.length = 0)) (line, colAt fs k2, 16) = pr5) :
    noted (noted pr5 (decide (0 ≤ idxS t0 (namesC ls))) (line, 0, 11)) (decide (16 ≤ ls.length)) (line, 0, 2) = currP line fs ls ∧ (currP line fs ls = none → (t0, l) = currOf fs) := by
  subst h5
  obtain ⟨rfl, rfl, rfl⟩ := a1
  unfold currP
  cases h0 : codeB (textAt fs 0) with
  | false =>
    rw [h0] at b2
    have e2 := (b2 _ rfl).1
    rw [e2]
    exact ⟨rfl, fun h => by cases h⟩
  | true =>
    rw [h0] at b1
    obtain ⟨rfl, rfl, rfl⟩ := b1 rfl
    exact ⟨rfl, fun _ => rfl⟩
def CurrGives (g : Nat) (line : Int) (F : Option Addr) (fs : List Fld) (c : Nat) (ls : List Curr) (w : World) (e : Ending) (w' : World) : Prop :=
  ∃ (t : ByteArray) (l : List ByteArray) (v : Value) (k : Nat), e = .returned (.agg #[.string t, v]) ∧ Own kStr 9 [] 0 w.heap.size w' v l ∧ Scan w' g line F fs.length c k (currP line fs ls) ∧ (currP line fs ls = none → (t, l) = currOf fs) ∧ Only g w w'
set_option maxHeartbeats 8000000 in
theorem cone_walk (B g : Nat) (line : Int) (F : Option Addr) (fs : List Fld) (c : Nat) (A : Option Addr) (ls : List Curr) (cr : Nat) (w : World) (hS : Std w)
    (hsc : Scan w g line F fs.length c 0 none) (hF : FieldsAt B w F fs) (hl : fs.length = 2) (hB : B ≤ g) (hN : 9 ≤ B) (hsz : ∀ k, (textAt fs k).size < 1073741824) (hq : ls.length ≤ 1000000000) (hw : At kCurr (· < g) w A ls) :
    Calls Tryz.prog 56 #[.pointer (some ⟨g, 0, none⟩), .slice A ls.length cr] w fun e w' => CurrGives g line F fs c ls w e w' := by
  have hgl := hsc.lt
  go_enter Tryz.func56, Tryz.ntmps56
  go_wp2_with fail
  have hb0 : Below w.heap.size w (w.alloc (.cells #[.string ⟨#[]⟩, .slice none 0 0] 36)) := ext_alloc (Below.refl _ _) _
  have r0 : (w.alloc (.cells #[.string ⟨#[]⟩, .slice none 0 0] 36)).cell? ⟨w.heap.size, 0, none⟩ = some (.string ⟨#[]⟩) := by simp
  have r1 : (w.alloc (.cells #[.string ⟨#[]⟩, .slice none 0 0] 36)).cell? ⟨w.heap.size, 1, none⟩ = some (.slice none 0 0) := by simp
  have f0 : ∀ j, (w.alloc (.cells #[.string ⟨#[]⟩, .slice none 0 0] 36)).frozen? ⟨w.heap.size, j, none⟩ = false := fun j => by simp
  have hS0 := hS.after hb0
  have hsc0 := hsc.later hb0
  have how := Only.later (Only.refl g w) hb0
  have hF0 := hF.below (hb0.mono (by omega) : Below B _ _)
  have hw0 := hw.below (hb0.mono (by omega) : Below g _ _)
  have hz0 : (w.alloc (.cells #[.string ⟨#[]⟩, .slice none 0 0] 36)).heap.size = w.heap.size + 1 := World.size_alloc _ _
  obtain ⟨W0, hW0⟩ : ∃ W0, w.alloc (.cells #[.string ⟨#[]⟩, .slice none 0 0] 36) = W0 := ⟨_, rfl⟩
  rw [hW0] at r0 r1 f0 hS0 hsc0 how hF0 hw0 hz0 ⊢
  obtain ⟨r, hr⟩ : ∃ r, w.heap.size = r := ⟨_, rfl⟩
  rw [hr] at r0 r1 f0 hz0 hgl ⊢
  have hrg : r ≠ g := by omega
  have hrl : r < W0.heap.size := by omega
  have hgW : g < W0.heap.size := by omega
  replace hW0 := hide hW0
  replace hr := hide hr
  replace r0 := hide r0
  replace r1 := hide r1
  replace f0 := hide f0
  clear hsc hF hw hb0 hS
  refine (code_any B g line F fs c 0 none W0 hsc0 hF0 (by omega) (by omega) hB (fun p hp => by cases hp)).mono ?_
  rintro e w1 ⟨k1, t0, pr1, rfl, hs1, ho1, i1, j1, a1, -⟩
  replace a1 := hide (a1 rfl)
  have hz1 := ho1.size
  have hF1 := hF0.only ho1 hB (by omega)
  have hS1 := ho1.std hS0 (by omega)
  go_wp2_with fail
  have hb4 : Below w1.heap.size w1 (w1.alloc (.cells #[.string t0, .slice none 0 0] 36)) := ext_alloc (Below.refl _ _) _
  have x0 : (w1.alloc (.cells #[.string t0, .slice none 0 0] 36)).cell? ⟨w1.heap.size, 0, none⟩ = some (.string t0) := by simp
  have x1 : (w1.alloc (.cells #[.string t0, .slice none 0 0] 36)).cell? ⟨w1.heap.size, 1, none⟩ = some (.slice none 0 0) := by simp
  have xf : (w1.alloc (.cells #[.string t0, .slice none 0 0] 36)).frozen? ⟨w1.heap.size, 1, none⟩ = false := by simp
  have hs4 := hs1.later hb4
  have ho4 : Only g W0 _ := Only.later ho1 hb4
  have hS4 := hS1.after hb4
  have hF4 := hF1.below (hb4.mono (by omega) : Below B _ _)
  have hz4 : (w1.alloc (.cells #[.string t0, .slice none 0 0] 36)).heap.size = w1.heap.size + 1 := World.size_alloc _ _
  obtain ⟨x, hx⟩ : ∃ x, w1.heap.size = x := ⟨_, rfl⟩
  obtain ⟨W4, hW4⟩ : ∃ W4, w1.alloc (.cells #[.string t0, .slice none 0 0] 36) = W4 := ⟨_, rfl⟩
  rw [hW4] at x0 x1 xf hs4 ho4 hS4 hF4 hz4 ⊢
  rw [hx] at x0 x1 xf hz4 ⊢
  have hxg : x ≠ g := by omega
  have hxr : x ≠ r := by omega
  have hx4 : x < W4.heap.size := by omega
  have hWx : W0.heap.size ≤ x := by omega
  clear hs1 hF1 hsc0 hb4 ho1 hW4 hx hS0 hS1
  refine (list_any B g line F fs c k1 8 pr1 W4 hS4 hs4 hF4 (by omega) (by omega) hB hN (fun _ _ => i1) (hsz k1)).mono ?_
  rintro e w5 ⟨k2, l, v, pr2, rfl, hown, hs5, ho5, i2, j2, b1, b2⟩
  replace b1 := hide b1
  replace b2 := hide b2
  have hz5 := ho5.size
  have y0 := (ho5.cell hx4 hxg).trans x0
  have y1 := (ho5.cell hx4 hxg).trans x1
  have yf1 : w5.frozen? ⟨x, 1, none⟩ = false := (ho5.frozen hx4 hxg).trans xf
  obtain ⟨A6, c6, rfl⟩ := hown.form
  have z0 : (w5.setCell ⟨x, 1, none⟩ (.slice A6 l.length c6)).cell? ⟨x, 0, none⟩ = some (.string t0) := (World.cell?_setCell_other _ _ _ _ (by simp)).trans y0
  have z1 : (w5.setCell ⟨x, 1, none⟩ (.slice A6 l.length c6)).cell? ⟨x, 1, none⟩ = some (.slice A6 l.length c6) := World.cell?_setCell_same _ _ _ y1
  have hs6 := scan_set (j := 1) (u := .slice A6 l.length c6) hs5 y0 hxg
  have ho6 : Only g W0 (w5.setCell ⟨x, 1, none⟩ (.slice A6 l.length c6)) := only_setCell (ho4.trans ho5) (Or.inr hWx) _
  have hown6 := hown.noting (only_setCell (Only.refl x w5) (p := ⟨x, 1, none⟩) (Or.inl rfl) (.slice A6 l.length c6)) hx4
  have hF6 := hF0.only ho6 hB (by omega)
  have hw6 := hw0.below (ho6.below (Nat.le_refl _) (by omega))
  obtain ⟨L, hL⟩ : ∃ L, l.length = L := ⟨_, rfl⟩
  obtain ⟨q, hqq⟩ : ∃ q, ls.length = q := ⟨_, rfl⟩
  have hhas := fun (W : World) (h : At kCurr AnyB W A ls) => chas_walk A ls cr t0 W (by omega) h
  have hq9 : q ≤ 1000000000 := by rw [← hqq]; exact hq
  rw [hqq] at hhas ⊢
  clear hq
  rw [hL] at z0 z1 hs6 ho6 hown6 hF6 hw6 ⊢
  replace hqq := hide hqq
  replace hL := hide hL
  have hzz : g < (w5.setCell ⟨x, 1, none⟩ (.slice A6 L c6)).heap.size := hs6.lt
  obtain ⟨W6, hW6⟩ : ∃ W6, w5.setCell ⟨x, 1, none⟩ (.slice A6 L c6) = W6 := ⟨_, rfl⟩
  have key : Hid (∀ (pr5 prx : Option Prob), noted pr2 (decide (L = 0)) (line, colAt fs k2, 16) = pr5 → noted pr5 (decide (0 ≤ idxS t0 (namesC ls))) (line, 0, 11) = prx → noted prx (decide (16 ≤ q)) (line, 0, 2) = currP line fs ls ∧ (currP line fs ls = none → (t0, l) = currOf fs)) := hide fun pr5 prx h1 h2 => by
    rw [← h2, ← hqq.out]
    exact curr_steps a1.out b1.out b2.out (by rw [hL.out]; exact h1)
  clear hs5 ho5 ho4 hs4 hF4 x0 x1 xf hown a1 b1 b2 hS4
  go_upto_region 3 with fail
  rw [hW6] at z0 z1 hs6 ho6 hown6 hF6 hw6 hzz
  clear y0 y1 yf1 hW6
  have hx6 := World.block_lt_of_cell? _ _ z0
  have hz6 := ho6.size
  by_cases h0 : L = 0
  have h0i : (L : Int) = 0 := by omega
  go_wp2_with fail
  refine (fail_walk B g line F fs c k2 pr2 16 W6 hs6 hF6 i2 (by omega) (by omega)).mono ?_
  rintro e w7 ⟨rfl, hs7, ho7⟩
  replace z0 := (ho7.cell hx6 hxg).trans z0
  replace z1 := (ho7.cell hx6 hxg).trans z1
  replace hw6 := hw6.below (ho7.below (Nat.le_refl _) (by omega))
  replace hown6 := hown6.noting ho7 (by omega)
  replace ho6 : Only g W0 w7 := ho6.trans ho7
  obtain ⟨pr5, hpr5⟩ : ∃ pr5, noted pr2 (decide (L = 0)) (line, colAt fs k2, 16) = pr5 := ⟨_, rfl⟩
  rw [show noted pr2 (decide ((16 : Int) ≠ 0)) (line, colAt fs k2, 16) = pr5 from by rw [← hpr5, decide_eq_true h0]; rfl] at hs7
  clear hs6 hF6 ho7 hzz h0 h0i
  replace hpr5 := hide hpr5
  go_wp2_with fail
  rotate_left
  have h0i : ¬ (L : Int) = 0 := by omega
  obtain ⟨w7, hw7⟩ : ∃ w7, W6 = w7 := ⟨_, rfl⟩
  subst hw7
  have hs7 := hs6
  obtain ⟨pr5, hpr5⟩ : ∃ pr5, noted pr2 (decide (L = 0)) (line, colAt fs k2, 16) = pr5 := ⟨_, rfl⟩
  rw [show pr2 = pr5 from by rw [← hpr5, decide_eq_false h0]; cases pr2 <;> rfl] at hs7
  replace hpr5 := hide hpr5
  clear hs6
  go_wp2_with fail
  clear hzz hF6 h0 h0i
  all_goals
    refine (hhas _ hw6.any).mono ?_
    rintro e w8 ⟨rfl, hb8⟩
    have hs8 := hs7.later hb8
    have ho8 : Only g W0 w8 := ho6.later hb8
    replace z0 := cell_later hb8 z0
    replace z1 := cell_later hb8 z1
    replace hown6 := hown6.later hb8
    have hx8 := World.block_lt_of_cell? _ _ z0
    clear hs7 ho6 hw6 hb8 hhas hx6 hz6
    go_wp2_with fail
    refine (whole_walk g line F fs.length c k2 pr5 _ 11 w8 hs8).mono ?_
    rintro e w9 ⟨rfl, hs9, ho9⟩
    replace z0 := (ho9.cell hx8 hxg).trans z0
    replace z1 := (ho9.cell hx8 hxg).trans z1
    replace hown6 := hown6.noting ho9 (by omega)
    replace ho8 : Only g W0 w9 := ho8.trans ho9
    obtain ⟨prx, hprx⟩ : ∃ prx, noted pr5 (decide (0 ≤ idxS t0 (namesC ls))) (line, 0, 11) = prx := ⟨_, rfl⟩
    rw [hprx] at hs9
    have hkey := hide (key.out pr5 prx hpr5.out hprx)
    clear hs8 ho9 hx8 hprx
    go_wp2_with fail
    refine (whole_walk g line F fs.length c k2 prx _ 2 w9 hs9).mono ?_
    rintro e w10 ⟨rfl, hs10, ho10⟩
    have hx9 := World.block_lt_of_cell? _ _ z0
    replace z0 := (ho10.cell hx9 hxg).trans z0
    replace z1 := (ho10.cell hx9 hxg).trans z1
    replace hown6 := hown6.noting ho10 (by omega)
    replace ho8 : Only g W0 w10 := ho8.trans ho10
    rw [show decide ((q : Int) ≥ 16) = decide (16 ≤ q) from decide_eq_decide.2 (by omega), hkey.out.1] at hs10
    have hfin := hide hkey.out.2
    have rr0 := (ho8.cell hrl hrg).trans r0.out
    have rr1 := (ho8.cell hrl hrg).trans r1.out
    have g0 := (ho8.frozen hrl hrg).trans (f0.out 0)
    have g1 := (ho8.frozen hrl hrg).trans (f0.out 1)
    replace hs10 := hide hs10
    replace ho8 := hide ho8
    clear hs9 ho10 hkey hx9 key hpr5
    go_wp2
    have s0 : (w10.setCell ⟨r, 0, none⟩ (.string t0)).cell? ⟨r, 0, none⟩ = some (.string t0) := World.cell?_setCell_same _ _ _ rr0
    have s1 : (w10.setCell ⟨r, 0, none⟩ (.string t0)).cell? ⟨r, 1, none⟩ = some (.slice none 0 0) := (World.cell?_setCell_other _ _ _ _ (by simp)).trans rr1
    refine end_curr rfl r (.string t0) _ rfl rfl ((World.cell?_setCell_other _ _ _ _ (by simp)).trans s0) (World.cell?_setCell_same _ _ _ s1) ⟨t0, l, _, k2, rfl, ?_, scan_set (scan_set hs10.out rr0 hrg) s0 hrg, hfin.out, ?_⟩
    · refine Own.lower ((hown6.noting (only_setCell (Only.refl r w10) (p := ⟨r, 0, none⟩) (Or.inl rfl) (.string t0)) (by omega)).noting (only_setCell (Only.refl r _) (p := ⟨r, 1, none⟩) (Or.inl rfl) _) (by omega)) (by have := hr.out; omega)
    · exact only_setCell (only_setCell (how.trans ho8.out) (Or.inr (Nat.le_of_eq hr.out)) _) (Or.inr (Nat.le_of_eq hr.out)) _
end Go.Proofs.YtonpfohhedcjbaaGreatDoor

namespace Go.Proofs.YtonpfohhedcjbaaGreatDoor
open Go.RowKit
set_option maxRecDepth 100000

def readCurr (rs : List Rec) : RG Curr := readAll 2 currP currOf rs
theorem currP_len (line : Int) (fs : List Fld) (ls : List Curr) (h : currP line fs ls = none) : ls.length < 16 := by
  unfold currP at h
  split at h
  · have := of_decide_eq_false (noted_none h).2
    omega
  · cases h
theorem readCurr_len (rs : List Rec) : (readCurr rs).ls.length ≤ 16 ∧ (readCurr rs).lines.length = (readCurr rs).ls.length ∧ (readCurr rs).ps.length ≤ rs.length := readAll_len currP_len rs
theorem apart_curr : TyApart 36 [9] := ⟨by decide, by decide, by decide, by decide, by decide, by decide, by decide⟩
theorem apd_curr : Apd Tryz.prog 32 36 2 40 := apd Tryz.underlying32 (z := .agg #[.string ⟨#[]⟩, .slice none 0 0]) (by kernel_rfl) rfl
abbrev GC (w0 : World) (u6 u7 u8 : Value) (ls : List Curr) (lines : List Int) (ps : List Prob) (W : World) : Prop := GG kCurr 36 [9] w0 u6 u7 u8 ls lines ps W
def ReadCGives (rs : List Rec) (w : World) (e : Ending) (w' : World) : Prop :=
  ∃ v6 v7 v8, e = .returned (.tuple #[v6, v7, v8]) ∧ GC w v6 v7 v8 (readCurr rs).ls (readCurr rs).lines (readCurr rs).ps w'
def ReadCLoop (rs : List Rec) (w : World) (v6 v7 v8 i : Value) (wr : World) : Prop :=
  ∃ j : Nat, j ≤ rs.length ∧ i = .int .i64 j ∧ GC w v6 v7 v8 (readCurr (rs.take j)).ls (readCurr (rs.take j)).lines (readCurr (rs.take j)).ps wr
set_option maxHeartbeats 8000000 in
theorem cread_walk (A : Option Addr) (rs : List Rec) (cap : Nat) (w : World) (hS : Std w) (hR : RecsAt w.heap.size w A rs) (hN : rs.length ≤ 4000000000000) (hs : ∀ r ∈ rs, ∀ f ∈ r.2, f.1.size < 1073741824) :
    Calls Tryz.prog 55 #[.slice A rs.length cap, .int .i64 2, .func (.func 56) #[] #[]] w fun e w' => ReadCGives rs w e w' := by
  have eg : ∀ args w, (callFunc 56 args).run Tryz.prog w = .ok (.enter 56 args) w := enters_of Tryz.func56 (by kernel_rfl) rfl
  obtain ⟨iP, hiP, hP0, hP1, hP2⟩ := info_parts infoProb
  obtain ⟨N, hNN⟩ : ∃ N, rs.length = N := ⟨_, rfl⟩
  have hbig := hS.big
  rw [hNN] at hN ⊢
  replace hNN := hide hNN
  replace hs := hide hs
  go_enter Tryz.func55, Tryz.ntmps55
  go_wp2
  go_loopw [6, 7, 8, 15] (fun v6 v7 v8 i wr => ReadCLoop rs w v6 v7 v8 i wr) (fun _ _ _ i _ => N - (intOf i).toNat)
  case atStart => exact ⟨0, Nat.zero_le _, rfl, Own.nil, Own.nil, World.ownsRow_nil _ _ _ _, Below.refl _ _⟩
  case round =>
    obtain ⟨j, hj, rfl, hG⟩ := hrel
    rw [hNN.out] at hj
    by_cases hlt : j < N
    · obtain ⟨r, hr⟩ : ∃ r, rs[j]? = some r := ⟨_, List.getElem?_eq_getElem (by rw [hNN.out]; exact hlt)⟩
      obtain ⟨rb, off, rfl, hrb, hcell⟩ := (hR.below hG.below) (by rw [hNN.out]; omega)
      obtain ⟨F, c, k0, k1, hF⟩ := hcell j r hr
      have hsr := hide (hs.out r (List.mem_of_getElem? hr))
      have hstep := hide (readAll_take (n := 2) (P := currP) (f := currOf) rs j r hr)
      obtain ⟨st, hst⟩ : ∃ st, readAll 2 currP currOf (rs.take j) = st := ⟨_, rfl⟩
      have hlen := readCurr_len (rs.take j)
      rw [List.length_take, hNN.out] at hlen
      unfold readCurr at hG hlen
      rw [hst] at hG hlen hstep
      obtain ⟨n1, n2, n3⟩ := hlen
      obtain ⟨line, fs⟩ := r
      dsimp only at k0 k1 hF hsr
      have hz := hG.below.size
      have hrb2 : rb < wr.heap.size := by omega
      have h3N : st.ps.length ≤ 4000000000000 := by omega
      have hSr := hS.after hG.below
      clear hcell hr hst hR n3
      replace n2 := hide n2
      obtain ⟨g, hg⟩ : ∃ g, wr.heap.size + 1 = g := ⟨_, rfl⟩
      have hsc0 : Scan ((wr.alloc (.cells #[.int .i64 line, .slice F fs.length c] 79)).alloc (.cells #[.int .i64 line, .slice F fs.length c, .int .i64 0, .pointer none] 119)) g line F fs.length c 0 none :=
        ⟨.pointer none, by rw [← hg]; exact heap_new2 _ _ _, rfl⟩
      have hb1 : Below wr.heap.size wr ((wr.alloc (.cells #[.int .i64 line, .slice F fs.length c] 79)).alloc (.cells #[.int .i64 line, .slice F fs.length c, .int .i64 0, .pointer none] 119)) := (by repeat (first | exact Below.refl _ _ | refine ext_alloc ?_ _ | refine ext_drewN ?_ _ | refine ext_drew ?_ | refine ext_trans ?_ (by assumption)))
      have q0 : ((wr.alloc (.cells #[.int .i64 line, .slice F fs.length c] 79)).alloc (.cells #[.int .i64 line, .slice F fs.length c, .int .i64 0, .pointer none] 119)).cell? ⟨wr.heap.size, 0, none⟩ = some (.int .i64 line) := by simp
      have hgw : wr.heap.size < g := by omega
      replace hg := hide hg
      obtain ⟨A6, c6, rfl⟩ := hG.ls.form
      have hu6 : Hid (∀ y, (Value.slice A6 st.ls.length c6).ownBlock = some y → y < wr.heap.size) := hide fun y e => (hG.ls.lt y e).2
      have hu7 : Hid (∀ y, u7.ownBlock = some y → y < wr.heap.size) := hide fun y e => (hG.ins.lt y e).2
      have hat := hG.ls.any'
      by_cases hm : fs.length = 2
      · have hm2 : ((fs.length : Int) != 2) = false := by simp; omega
        have h1s : ∀ k, (textAt fs k).size < 1073741824 := by
          intro k
          unfold textAt
          rw [List.getD_eq_getElem?_getD]
          cases hk : fs[k]? with
          | none => decide
          | some f => exact hsr.out _ (List.mem_of_getElem? hk)
        rw [show gathStep 2 currP currOf st (line, fs) = (match currP line fs st.ls with | some p => ⟨st.ls, st.lines, st.ps ++ [p]⟩ | none => ⟨st.ls ++ [currOf fs], st.lines ++ [line], st.ps⟩) from if_pos hm] at hstep
        replace hm := hide hm
        go_wp2_with fail
        rw [hg.out]
        refine (whole_walk g line F fs.length c 0 none false 9 _ hsc0).mono ?_
        rintro e w2 ⟨rfl, hs2, ho2⟩
        have hs2 : Scan w2 g line F fs.length c 0 none := hs2
        have c3 := scan_none hs2
        have hb2 : Below wr.heap.size wr w2 := hb1.trans (Only.below ho2 (by omega) hb1.size)
        have q2 := (ho2.cell (by rw [World.size_alloc, World.size_alloc]; omega) (by omega)).trans q0
        have hG2 := hG.later hb2
        have hS2 := hSr.after hb2
        have v1 : g < w2.heap.size := World.block_lt_of_cell? _ _ c3
        have v0 : wr.heap.size < w2.heap.size := World.block_lt_of_cell? _ _ q2
        have hF2 : FieldsAt w.heap.size w2 F fs := hF.below (hb2.mono hz)
        have hat2 : At kCurr (· < g) w2 A6 st.ls := (hat.below hb2).up (by omega)
        have hbx : Below w2.heap.size w2 (w2.alloc (.cells #[.string ⟨#[]⟩, .slice none 0 0] 36)) := ext_alloc (Below.refl _ _) _
        have hsx := hs2.later hbx
        have hFx := hF2.below (hbx.mono (by omega) : Below w.heap.size _ _)
        have hax := hat2.below (hbx.mono (by omega) : Below g _ _)
        have hcall := hide (cone_walk w.heap.size g line F fs c A6 st.ls c6 _ (hS2.after hbx) hsx hFx hm.out (by omega) hbig h1s (by omega) hax)
        clear hsc0 hb1 q0 ho2 hG hb2 hF hat hat2 hF2 hsx hFx hax hSr hS2
        go_upto_region 9 with (go_at_fn 56; refine hcall.out.mono ?_; rintro e w3 ⟨a0, l9, v9, k, rfl, hown3, hs3, hP3, ho3⟩; obtain ⟨A9, c9, rfl⟩ := hown3.form; have x0 : w3.cell? ⟨w2.heap.size, 0, none⟩ = some (.string ⟨#[]⟩) := (ho3.cell (by simp) (by omega)).trans (by simp); have x1 : w3.cell? ⟨w2.heap.size, 1, none⟩ = some (.slice none 0 0) := (ho3.cell (by simp) (by omega)).trans (by simp); have xf0 : w3.frozen? ⟨w2.heap.size, 0, none⟩ = false := (ho3.frozen (by simp) (by omega)).trans (by simp); have xf1 : w3.frozen? ⟨w2.heap.size, 1, none⟩ = false := (ho3.frozen (by simp) (by omega)).trans (by simp))
        have hgx : w2.heap.size ≠ g := by omega
        have t0 : (w3.setCell ⟨w2.heap.size, 0, none⟩ (.string a0)).cell? ⟨w2.heap.size, 0, none⟩ = some (.string a0) := World.cell?_setCell_same _ _ _ x0
        have t1 : (w3.setCell ⟨w2.heap.size, 0, none⟩ (.string a0)).cell? ⟨w2.heap.size, 1, none⟩ = some (.slice none 0 0) := (World.cell?_setCell_other _ _ _ _ (by simp)).trans x1
        obtain ⟨U, hU⟩ : ∃ U, (w3.setCell ⟨w2.heap.size, 0, none⟩ (.string a0)).setCell ⟨w2.heap.size, 1, none⟩ (.slice A9 l9.length c9) = U := ⟨_, rfl⟩
        have y0 : U.cell? ⟨w2.heap.size, 0, none⟩ = some (.string a0) := by rw [← hU]; exact (World.cell?_setCell_other _ _ _ _ (by simp)).trans t0
        have y1 : U.cell? ⟨w2.heap.size, 1, none⟩ = some (.slice A9 l9.length c9) := by rw [← hU]; exact World.cell?_setCell_same _ _ _ t1
        have hs4 : Scan U g line F fs.length c k (currP line fs st.ls) := by rw [← hU]; exact scan_set (scan_set hs3 x0 hgx) t0 hgx
        have ho4 : Only g w2 U := by rw [← hU]; exact only_setCell (only_setCell ((Only.later (Only.refl g w2) (ext_alloc (Below.refl _ _) _)).trans ho3) (Or.inr (Nat.le_refl _)) _) (Or.inr (Nat.le_refl _)) _
        have hown4 : Own kStr 9 [] 0 w.heap.size U (.slice A9 l9.length c9) l9 := by
          rw [← hU]
          refine Own.lower ((hown3.noting (only_setCell (Only.refl w2.heap.size w3) (p := ⟨w2.heap.size, 0, none⟩) (Or.inl rfl) (.string a0)) (by rw [World.size_alloc]; omega)).noting (only_setCell (Only.refl w2.heap.size _) (p := ⟨w2.heap.size, 1, none⟩) (Or.inl rfl) _) (by rw [World.size_alloc]; omega)) (by rw [World.size_alloc]; omega)
        have hG4 := hG2.scan apart_curr hs2 ho4 (by omega)
        have q4 := (ho4.cell v0 (by omega)).trans q2
        rw [hU]
        have hzU : w.heap.size ≤ U.heap.size := hG4.below.size
        clear t0 t1 hU x0 x1 xf0 xf1 hs3 ho3 ho4 hG2 hs2 c3 q2 eg hcall hbx hown3
        cases hsp : currP line fs st.ls with
        | some p =>
          rw [hsp] at hs4 hstep
          obtain ⟨line', col, er⟩ := p
          obtain ⟨h, c3, p0, p1, p2, p3⟩ := scan_some hs4
          dsimp only at p0 p1 p2 p3 hstep
          clear hsp hs4 y0 y1 q4 hP3 hown4
          have v1 : g < U.heap.size := World.block_lt_of_cell? _ _ c3
          have v2 : h < U.heap.size := World.block_lt_of_cell? _ _ p0
          go_wp2_with (at_builtin; refine wpList_append_own _ rfl _ _ 57 rfl w.heap.size 98 iP (.agg #[.int .i64 0, .int .i64 0, .int .i64 0, .int .i64 0]) 4 32 Tryz.underlying57 hiP hP0 hP1 hP2 rfl (by decide) _ _ _ rfl (hG4.alloc _).ps ⟨U.heap.size, 0, none⟩ 1 1 (encP (line', col, er)) rfl rfl (new_prob _ _ _ _ _) (one_prob _) ?c3 ?c4 ?c5 ?_)
          case c3 => unfold maxLen; omega
          case c4 => omega
          case c5 => rw [World.size_alloc]; omega
          intro v' w4 hPn hgrow _
          have hGn := (hG4.alloc _).prob (p := (line', col, er)) apart_curr hgrow hPn
          clear hG4 c3 p0 p1 p2 p3 hPn hgrow
          go_wp2
          go_roundw
          case rel => exact ⟨j + 1, by rw [hNN.out]; omega, by go_num, by unfold readCurr; rw [hstep.out]; exact hGn⟩
          case measure => simp [intOf]; omega
        | none =>
          rw [hsp] at hs4 hstep
          have hcur := hP3 hsp
          have c3 := scan_none hs4
          have v1 : g < U.heap.size := World.block_lt_of_cell? _ _ c3
          have v2 : w2.heap.size < U.heap.size := World.block_lt_of_cell? _ _ y0
          have v3 : wr.heap.size < U.heap.size := World.block_lt_of_cell? _ _ q4
          dsimp only at hstep
          rw [← hcur] at hstep
          have n32 : st.lines.length ≤ 100000 := by rw [n2.out]; omega
          have n31 : st.ls.length ≤ 100000 := by omega
          have hn6 : Hid (∀ k, wr.heap.size ≤ k → some k ≠ (Value.slice A6 st.ls.length c6).ownBlock) := hide fun k hk e => by have := hu6.out k e.symm; omega
          have hn7 : Hid (∀ k, wr.heap.size ≤ k → some k ≠ u7.ownBlock) := hide fun k hk e => by have := hu7.out k e.symm; omega
          have e1 := hide (hn6.out w2.heap.size (by omega))
          have e2 := hide (hn6.out wr.heap.size (Nat.le_refl _))
          have e3 := hide (hn7.out w2.heap.size (by omega))
          have e4 := hide (hn7.out wr.heap.size (Nat.le_refl _))
          clear hsp hs4 hcur hP3
          go_upto_region 11 with fail
          clear c3
          have hGd := hG4.drew
          have hSd : Cn3 w2.heap.size 0 ((.string a0)) w2.heap.size 1 ((.slice A9 l9.length c9)) wr.heap.size 0 ((.int .i64 line)) U.drew := ⟨y0, y1, q4⟩
          have hS0 : Cn3 w2.heap.size 0 ((.string a0)) w2.heap.size 1 ((.slice A9 l9.length c9)) wr.heap.size 0 ((.int .i64 line)) U := ⟨y0, y1, q4⟩
          have hownd := hown4.drew
          clear y0 y1 q4
          go_region_held3 (fun W' => W'.cell? ⟨w2.heap.size, 0, none⟩ = some ((.string a0)) ∧ W'.cell? ⟨w2.heap.size, 1, none⟩ = some ((.slice A9 l9.length c9)) ∧ W'.cell? ⟨wr.heap.size, 0, none⟩ = some ((.int .i64 line))) (first | ((repeat (first | (with_reducible assumption) | (with_reducible refine Cn3.alloc ?_ _) | (with_reducible refine Cn3.drew ?_) | (with_reducible refine Cn3.set ?_ ?_ ?_ ?_ _) | omega)); done)) (first | (refine stepg_ls (S := Cn3 w2.heap.size 0 ((.string a0)) w2.heap.size 1 ((.slice A9 l9.length c9)) wr.heap.size 0 ((.int .i64 line))) (K := kCurr) (t := 36) (ts := [9]) (t2 := 32) (bytes := 40) (w0 := w) (u6 := .slice A6 st.ls.length c6) (u7 := u7) (u8 := u8) (ls := st.ls) (lines := st.lines) (ps := st.ps) apart_curr apd_curr (by decide) (by decide) rfl (.tmp 52) (.tmp 54) rfl (by rfl) (by repeat (first | (with_reducible assumption) | (with_reducible refine GG.alloc ?_ _) | (with_reducible refine GG.drew ?_))) n31 _ _ (by rfl) (a0, l9) [.string a0, .slice A9 l9.length c9] ⟨[_], [_], rfl, rfl, Own.rep (by repeat (first | (with_reducible assumption) | (with_reducible refine Own.alloc ?_ _) | (with_reducible refine Own.drew ?_)))⟩ (World.news_of_block (cs := #[.string a0, .slice A9 l9.length c9]) (t := 36) (fr := (0, 0)) (by first | exact heap_alloc_new _ _ | exact heap_new2 _ _ _ | exact (Below.heap_alloc _ _ _ (by first | (simp; done) | (simp; omega))).trans (heap_alloc_new _ _))) (fun W' hg => Cn3.grown (by repeat (first | (with_reducible assumption) | (with_reducible refine Cn3.alloc ?_ _) | (with_reducible refine Cn3.drew ?_))) hg e1.out e1.out e2.out) ?_; intro gA capA w4 hg2 hgrow hs4) | (refine stepg_ins (S := Cn3 w2.heap.size 0 ((.string a0)) w2.heap.size 1 ((.slice A9 l9.length c9)) wr.heap.size 0 ((.int .i64 line))) (K := kCurr) (t := 36) (ts := [9]) (w0 := w) (u6 := .slice (some ⟨gA, 0, none⟩) (st.ls.length + 1) capA) (u7 := u7) (u8 := u8) (ls := st.ls ++ [(a0, l9)]) (lines := st.lines) (ps := st.ps) apart_curr rfl (.tmp 56) (.tmp 59) rfl (by rfl) (by repeat (first | (with_reducible assumption) | (with_reducible refine GG.alloc ?_ _) | (with_reducible refine GG.drew ?_))) n32 _ _ (by rfl) line (World.news_of_block (cs := #[.int .i64 line]) (t := 3) (fr := (0, 0)) (by first | exact heap_alloc_new _ _ | exact heap_new2 _ _ _ | exact (Below.heap_alloc _ _ _ (by first | (simp; done) | (simp; omega))).trans (heap_alloc_new _ _) | exact (hgrow.block _ (by first | (simp; done) | (simp; omega)) (hn6.out _ (by first | omega | (simp; done) | (simp; omega)))).trans (by first | exact heap_alloc_new _ _ | exact heap_new2 _ _ _ | exact (Below.heap_alloc _ _ _ (by first | (simp; done) | (simp; omega))).trans (heap_alloc_new _ _)))) (fun W' hg => Cn3.grown (by repeat (first | (with_reducible assumption) | (with_reducible refine Cn3.alloc ?_ _) | (with_reducible refine Cn3.drew ?_))) hg e3.out e3.out e4.out) ?_; intro gB capB w5 hg3 hgrow3 hs5))
          all_goals
            clear hGd hSd hS0 hG4 hown4 hownd
            go_wp2
            go_roundw
            case rel => exact ⟨j + 1, by rw [hNN.out]; omega, by go_num, by unfold readCurr; rw [hstep.out]; exact hg3⟩
            case measure => simp [intOf]; omega
      · have hm2 : ((fs.length : Int) != 2) = true := by simp; omega
        rw [show gathStep 2 currP currOf st (line, fs) = ⟨st.ls, st.lines, st.ps ++ [(line, 0, 9)]⟩ from if_neg hm] at hstep
        replace hm := hide hm
        clear hat hSr
        go_wp2_with fail
        rw [hg.out]
        refine (whole_walk g line F fs.length c 0 none true 9 _ hsc0).mono ?_
        rintro e w2 ⟨rfl, hs2, ho2⟩
        obtain ⟨h, c3, p0, p1, p2, p3⟩ := scan_some hs2
        have hb2 : Below wr.heap.size wr w2 := hb1.trans (Only.below ho2 (by omega) hb1.size)
        have hG2 := hG.later hb2
        clear hsc0 hb1 q0 hs2 ho2 hG
        dsimp only at p0 p1 p2 p3
        have v1 := World.block_lt_of_cell? _ _ c3
        have v2 := World.block_lt_of_cell? _ _ p0
        have hz2 := hG2.below.size
        go_wp2_with (at_builtin; refine wpList_append_own _ rfl _ _ 57 rfl w.heap.size 98 iP (.agg #[.int .i64 0, .int .i64 0, .int .i64 0, .int .i64 0]) 4 32 Tryz.underlying57 hiP hP0 hP1 hP2 rfl (by decide) _ _ _ rfl ((hG2.alloc _).alloc _).ps ⟨w2.heap.size + 1, 0, none⟩ 1 1 (encP (line, 0, 9)) rfl rfl ?c0 (one_prob _) ?c3 ?c4 ?c5 ?_)
        case c0 => exact new_prob2 _ _ _ _ _ _
        case c3 => unfold maxLen; omega
        case c4 => omega
        case c5 => rw [World.size_alloc, World.size_alloc]; omega
        intro v' w4 hPn hgrow _
        have hGn := ((hG2.alloc _).alloc _).prob (p := (line, 0, 9)) apart_curr hgrow hPn
        clear hG2 c3 p0 p1 p2 p3 hb2 hPn hgrow
        go_wp2
        go_roundw
        case rel => exact ⟨j + 1, by rw [hNN.out]; omega, by go_num, by unfold readCurr; rw [hstep.out]; exact hGn⟩
        case measure => simp [intOf]; omega
    · obtain rfl : j = N := by omega
      have hall : Hid (rs.take j = rs) := hide (by rw [← hNN.out]; exact List.take_length)
      rw [hall.out] at hG
      clear hall
      go_wp2
      go_ret3
      exact ⟨_, _, _, rfl, hG⟩
end Go.Proofs.YtonpfohhedcjbaaGreatDoor

namespace Go.Proofs.YtonpfohhedcjbaaGreatDoor
open Go.RowKit
set_option maxRecDepth 100000

theorem clines_walk (A : Option Addr) (rs : List Rec) (cap : Nat) (w : World) (hS : Std w) (hR : RecsAt w.heap.size w A rs) (hN : rs.length ≤ 4000000000000) (hs : ∀ r ∈ rs, ∀ f ∈ r.2, f.1.size < 1073741824) :
    Calls Tryz.prog 40 #[.slice A rs.length cap] w fun e w' => ReadCGives rs w e w' := by
  have hcall := cread_walk A rs cap w hS hR hN hs
  clear hR hN hs hS
  obtain ⟨N, hNN⟩ : ∃ N, rs.length = N := ⟨_, rfl⟩
  rw [hNN] at hcall ⊢
  clear hNN
  go_enter Tryz.func40, Tryz.ntmps40
  go_wp2_with fail
  refine hcall.mono ?_
  clear hcall
  rintro e w' ⟨v6, v7, v8, rfl, hG⟩
  go_wp2
  go_ret3
  exact ⟨_, _, _, rfl, hG⟩
def CurrReads (rs : List Rec) (w : World) (e : Ending) (w' : World) : Prop :=
  ∃ v6 v8, e = .returned (.tuple #[v6, v8]) ∧ Own kCurr 36 [9] 0 w.heap.size w' v6 (readCurr rs).ls ∧ ProbsOwn w.heap.size w' v8 (readCurr rs).ps ∧ Below w.heap.size w w'
theorem cRead_walk (A : Option Addr) (rs : List Rec) (cap : Nat) (w : World) (hS : Std w) (hR : RecsAt w.heap.size w A rs) (hN : rs.length ≤ 4000000000000) (hs : ∀ r ∈ rs, ∀ f ∈ r.2, f.1.size < 1073741824) :
    Calls Tryz.prog 23 #[.slice A rs.length cap] w fun e w' => CurrReads rs w e w' := by
  have hcall := clines_walk A rs cap w hS hR hN hs
  clear hR hN hs hS
  obtain ⟨N, hNN⟩ : ∃ N, rs.length = N := ⟨_, rfl⟩
  rw [hNN] at hcall ⊢
  clear hNN
  go_enter Tryz.func23, Tryz.ntmps23
  go_wp2_with fail
  refine hcall.mono ?_
  clear hcall
  rintro e w' ⟨v6, v7, v8, rfl, hG⟩
  go_wp2
  go_ret2
  exact ⟨_, _, rfl, hG.ls, hG.ps, hG.below⟩
end Go.Proofs.YtonpfohhedcjbaaGreatDoor

namespace Go.Proofs.YtonpfohhedcjbaaGreatDoor
open Go.RowKit
set_option maxRecDepth 100000

theorem load4p (w : World) (g : Nat) (a b c d : Value) (h0 : w.cell? ⟨g, 0, none⟩ = some a) (h1 : w.cell? ⟨g, 1, none⟩ = some b) (h2 : w.cell? ⟨g, 2, none⟩ = some c) (h3 : w.cell? ⟨g, 3, none⟩ = some d) :
    (loadVar 98 ⟨g, 0, none⟩).run Tryz.prog w = .ok (.agg #[a, b, c, d]) w := by
  simp [go_sem, h0, h1, h2, h3]
theorem end_prob {fn : Func} {p : Tmp} (hr : fn.results = #[.cell p 98]) {Q : Ending → World → Prop} {act : Act} {w : World} (g : Nat) (a b c d : Value) (hd : act.defers = [])
    (hp : act.tmps.getD p undef = .pointer (some ⟨g, 0, none⟩))
    (h : ∀ j, j < 4 → ∃ v, w.cell? ⟨g, j, none⟩ = some v)
    (hQ : Q (.returned (.agg #[a, b, c, d])) ((((w.setCell ⟨g, 0, none⟩ a).setCell ⟨g, 1, none⟩ b).setCell ⟨g, 2, none⟩ c).setCell ⟨g, 3, none⟩ d)) :
    bodyPost Tryz.prog fn Q .ret act ((((w.setCell ⟨g, 0, none⟩ a).setCell ⟨g, 1, none⟩ b).setCell ⟨g, 2, none⟩ c).setCell ⟨g, 3, none⟩ d) := by
  obtain ⟨h0, h1, h2, h3⟩ := set4_cells w g a b c d h _ rfl
  refine bodyPost_ret (v := .agg #[a, b, c, d]) ?_ hd hQ
  simp only [results, hr]
  simp [Sem.run_bind, Result.andThen, -Array.getD_eq_getD_getElem?]
  rw [hp]
  simp only [asAddr, Sem.run_pure]
  rw [load4p _ g a b c d h0 h1 h2 h3]
theorem end_prob1 {fn : Func} {p : Tmp} (hr : fn.results = #[.cell p 98]) {Q : Ending → World → Prop} {act : Act} {w : World} (g : Nat) (a b c d : Value) (hd : act.defers = [])
    (hp : act.tmps.getD p undef = .pointer (some ⟨g, 0, none⟩))
    (h0 : w.cell? ⟨g, 0, none⟩ = some a) (h1 : w.cell? ⟨g, 1, none⟩ = some b) (h2 : w.cell? ⟨g, 2, none⟩ = some c) (h3 : w.cell? ⟨g, 3, none⟩ = some d)
    (hQ : Q (.returned (.agg #[a, b, c, d])) w) : bodyPost Tryz.prog fn Q .ret act w := by
  refine bodyPost_ret (v := .agg #[a, b, c, d]) ?_ hd hQ
  simp only [results, hr]
  simp [Sem.run_bind, Result.andThen, -Array.getD_eq_getD_getElem?]
  rw [hp]
  simp only [asAddr, Sem.run_pure]
  rw [load4p _ g a b c d h0 h1 h2 h3]
set_option maxHeartbeats 2000000 in
theorem r2Whole_walk (line : Int) (v : Value) (e : Int) (w : World) :
    Calls Tryz.prog 76 #[.agg #[.int .i64 line, v], .int .i64 e] w fun en w' => en = .returned (.agg #[.int .i64 0, .int .i64 line, .int .i64 0, .int .i64 e]) ∧ Below w.heap.size w w' := by
  go_enter Tryz.func76, Tryz.ntmps76
  go_wp2
  obtain ⟨c0, c1, c2, c3, -⟩ := scan_cells (heap_new2 w (.cells #[.int .i64 line, v] 79) (.cells #[.int .i64 0, .int .i64 line, .int .i64 0, .int .i64 e] 98))
  exact end_prob1 rfl (w.heap.size + 1) _ _ _ _ rfl rfl c0 c1 c2 c3 ⟨rfl, (by repeat (first | exact Below.refl _ _ | refine ext_alloc ?_ _ | refine ext_drewN ?_ _ | refine ext_drew ?_ | refine ext_trans ?_ (by assumption)))⟩
set_option maxHeartbeats 4000000 in
theorem r2At_walk (line : Int) (F : Option Addr) (fs : List Fld) (c k : Nat) (e : Int) (w : World) (hF : FieldsAt w.heap.size w F fs) (hk : k < fs.length) :
    Calls Tryz.prog 77 #[.agg #[.int .i64 line, .slice F fs.length c], .int .i64 k, .int .i64 e] w fun en w' => en = .returned (.agg #[.int .i64 0, .int .i64 line, .int .i64 (colAt fs (k + 1)), .int .i64 e]) ∧ Below w.heap.size w w' := by
  obtain ⟨fb, fo, rfl, hfb, hfc⟩ := hF (by omega)
  obtain ⟨-, f1, -⟩ := hfc k hk
  have hcol : (fs[k]'hk).2.1 = colAt fs (k + 1) := by
    unfold colAt; rw [show k + 1 - 1 = k from rfl, List.getD_eq_getElem?_getD, List.getElem?_eq_getElem hk]; rfl
  rw [hcol] at f1
  have hfb1 : fb < w.heap.size + 1 := by omega
  have hk1 : (k : Int) < (fs.length : Int) := by omega
  have hk0 : (0 : Int) ≤ (k : Int) := by omega
  clear hcol hfc hF
  go_enter Tryz.func77, Tryz.ntmps77
  go_wp2_with fail
  go_region
  all_goals
    go_wp2_with fail
    obtain ⟨c0, c1, c2, c3, -⟩ := scan_cells (heap_new2 w (.cells #[.int .i64 line, .slice (some ⟨fb, fo, none⟩) fs.length c] 79) (.cells #[.int .i64 0, .int .i64 line, .int .i64 (colAt fs (k + 1)), .int .i64 e] 98))
    exact end_prob1 rfl (w.heap.size + 1) _ _ _ _ rfl rfl c0 c1 c2 c3 ⟨rfl, (by repeat (first | exact Below.refl _ _ | refine ext_alloc ?_ _ | refine ext_drewN ?_ _ | refine ext_drew ?_ | refine ext_trans ?_ (by assumption)))⟩
/-- The place of a problem: of a field, or (-1) of the record. -/
def placeOf (fs : List Fld) (k : Int) : Int := if k < 0 then 0 else colAt fs (k.toNat + 1)
set_option maxHeartbeats 4000000 in
theorem r7Found_walk (line : Int) (F : Option Addr) (fs : List Fld) (c : Nat) (k e : Int) (w : World) (hF : FieldsAt w.heap.size w F fs) (hk : k < fs.length) :
    Calls Tryz.prog 66 #[.agg #[.int .i64 line, .slice F fs.length c], .int .i64 k, .int .i64 e] w fun en w' => en = .returned (.agg #[.int .i64 0, .int .i64 line, .int .i64 (placeOf fs k), .int .i64 e]) ∧ Below w.heap.size w w' := by
  have hb0 : Below w.heap.size w ((w.alloc (.cells #[.int .i64 line, .slice F fs.length c] 79)).alloc (.cells #[.int .i64 0, .int .i64 0, .int .i64 0, .int .i64 0] 98)) := (by repeat (first | exact Below.refl _ _ | refine ext_alloc ?_ _ | refine ext_drewN ?_ _ | refine ext_drew ?_ | refine ext_trans ?_ (by assumption)))
  have hn := heap_new2 w (.cells #[.int .i64 line, .slice F fs.length c] 79) (.cells #[.int .i64 0, .int .i64 0, .int .i64 0, .int .i64 0] 98)
  obtain ⟨W, hW⟩ : ∃ W, (w.alloc (.cells #[.int .i64 line, .slice F fs.length c] 79)).alloc (.cells #[.int .i64 0, .int .i64 0, .int .i64 0, .int .i64 0] 98) = W := ⟨_, rfl⟩
  rw [hW] at hb0 hn
  have hl1 : w.heap.size + 1 < W.heap.size := blk_lt hn
  replace hW := hide hW
  by_cases h0 : k < 0
  · have hp : placeOf fs k = 0 := if_pos h0
    rw [hp]
    clear hF hk hp
    go_enter Tryz.func66, Tryz.ntmps66
    go_wp2_with fail
    rw [hW.out]
    refine (r2Whole_walk line _ e W).mono ?_
    rintro en w1 ⟨rfl, hb1⟩
    obtain ⟨c0, c1, c2, c3, hf⟩ := scan_cells hn
    have f0 := (hb1.frozen (p := ⟨w.heap.size + 1, 0, none⟩) hl1).trans (hf 0)
    have f1 := (hb1.frozen (p := ⟨w.heap.size + 1, 1, none⟩) hl1).trans (hf 1)
    have f2 := (hb1.frozen (p := ⟨w.heap.size + 1, 2, none⟩) hl1).trans (hf 2)
    have f3 := (hb1.frozen (p := ⟨w.heap.size + 1, 3, none⟩) hl1).trans (hf 3)
    replace c0 := cell_later hb1 c0
    replace c1 := cell_later hb1 c1
    replace c2 := cell_later hb1 c2
    replace c3 := cell_later hb1 c3
    have hb := ext_trans hb0 hb1
    have h4 := four_of hn hb1
    clear hW hn hb0 hb1 hf
    go_wp2
    exact end_prob rfl (w.heap.size + 1) _ _ _ _ rfl rfl h4 ⟨rfl, ext_set4 hb (by omega) _ _ _ _⟩
  · obtain ⟨j, rfl⟩ := Int.eq_ofNat_of_zero_le (by omega : 0 ≤ k)
    have hp : placeOf fs (j : Int) = colAt fs (j + 1) := by unfold placeOf; rw [if_neg h0, Int.toNat_natCast]
    rw [hp]
    have hFW := (hF.below hb0).more hb0.size
    clear hF hp
    go_enter Tryz.func66, Tryz.ntmps66
    go_wp2_with fail
    rw [hW.out]
    refine (r2At_walk line F fs c j e W hFW (by omega)).mono ?_
    rintro en w1 ⟨rfl, hb1⟩
    obtain ⟨c0, c1, c2, c3, hf⟩ := scan_cells hn
    have f0 := (hb1.frozen (p := ⟨w.heap.size + 1, 0, none⟩) hl1).trans (hf 0)
    have f1 := (hb1.frozen (p := ⟨w.heap.size + 1, 1, none⟩) hl1).trans (hf 1)
    have f2 := (hb1.frozen (p := ⟨w.heap.size + 1, 2, none⟩) hl1).trans (hf 2)
    have f3 := (hb1.frozen (p := ⟨w.heap.size + 1, 3, none⟩) hl1).trans (hf 3)
    replace c0 := cell_later hb1 c0
    replace c1 := cell_later hb1 c1
    replace c2 := cell_later hb1 c2
    replace c3 := cell_later hb1 c3
    have hb := ext_trans hb0 hb1
    have h4 := four_of hn hb1
    clear hW hn hb0 hb1 hf hFW
    go_wp2
    exact end_prob rfl (w.heap.size + 1) _ _ _ _ rfl rfl h4 ⟨rfl, ext_set4 hb (by omega) _ _ _ _⟩

end Go.Proofs.YtonpfohhedcjbaaGreatDoor

namespace Go.Proofs.YtonpfohhedcjbaaGreatDoor
open Go.RowKit
set_option maxRecDepth 100000

/-- The error of a list of codes of a curriculum. -/
def codesE (t : ByteArray) : Int := if (listV t).1 ≠ 0 then ((listV t).1 : Int) else if (listV t).2.length = 0 then 16 else if 8 < (listV t).2.length then 2 else 0
def oneC (fs : List Fld) (ls : List Curr) : Int × Int :=
  if fs.length ≠ 2 then (-1, 9) else
  if codeB (textAt fs 0) = false then (0, 10) else
  if codesE (textAt fs 1) ≠ 0 then (1, codesE (textAt fs 1)) else
  if 0 ≤ idxS (textAt fs 0) (namesC ls) then (-1, 11) else
  if ls.length = 16 then (-1, 2) else (0, 0)
theorem end_curr3 {fn : Func} {p u v : Tmp} (hr : fn.results = #[.cell p 36, .tmp u, .tmp v]) {Q : Ending → World → Prop} {act : Act} {w : World} (g : Nat) (a b x y : Value) (hd : act.defers = [])
    (hp : act.tmps.getD p undef = .pointer (some ⟨g, 0, none⟩)) (hx : act.tmps.getD u undef = x) (hy : act.tmps.getD v undef = y)
    (h0 : w.cell? ⟨g, 0, none⟩ = some a) (h1 : w.cell? ⟨g, 1, none⟩ = some b)
    (hQ : Q (.returned (.tuple #[.agg #[a, b], x, y])) w) : bodyPost Tryz.prog fn Q .ret act w := by
  refine bodyPost_ret (v := .tuple #[.agg #[a, b], x, y]) ?_ hd hQ
  simp only [results, hr]
  simp [Sem.run_bind, Result.andThen, -Array.getD_eq_getD_getElem?]
  rw [hp, hx, hy]
  simp only [asAddr, Sem.run_pure]
  rw [load2c w g a b h0 h1]
def OneCGives (fs : List Fld) (ls : List Curr) (w : World) (e : Ending) (w' : World) : Prop :=
  ∃ (code : ByteArray) (l : List ByteArray) (v : Value), e = .returned (.tuple #[.agg #[.string code, v], .int .i64 (oneC fs ls).1, .int .i64 (oneC fs ls).2]) ∧
    Own kStr 9 [] 0 w.heap.size w' v l ∧ ((oneC fs ls).2 = 0 → (code, l) = currOf fs) ∧ Below w.heap.size w w'
theorem pair_set {W : World} {g : Nat} {a b x y : Value} (h0 : W.cell? ⟨g, 0, none⟩ = some a) (h1 : W.cell? ⟨g, 1, none⟩ = some b) :
    ((W.setCell ⟨g, 0, none⟩ x).setCell ⟨g, 1, none⟩ y).cell? ⟨g, 0, none⟩ = some x ∧ ((W.setCell ⟨g, 0, none⟩ x).setCell ⟨g, 1, none⟩ y).cell? ⟨g, 1, none⟩ = some y :=
  ⟨(World.cell?_setCell_other _ _ _ _ (by simp)).trans (World.cell?_setCell_same _ _ _ h0), World.cell?_setCell_same _ _ _ ((World.cell?_setCell_other _ _ _ _ (by simp)).trans h1)⟩
theorem textC_at {fs : List Fld} {k : Nat} (h : k < fs.length) : (fs[k]'h).1 = textAt fs k := by
  unfold textAt; rw [List.getD_eq_getElem?_getD, List.getElem?_eq_getElem h]; rfl
theorem own_pset {g B : Nat} {i : Nat} {u v : Value} {W : World} {l : List ByteArray} (h : Own kStr 9 [] 0 B W v l) (hg : g < B) : Own kStr 9 [] 0 B (W.setCell ⟨g, i, none⟩ u) v l :=
  h.noting (only_setCell (Only.refl g W) (p := ⟨g, i, none⟩) (Or.inl rfl) u) hg
theorem heap3c (w : World) (o1 o2 o3 : Obj) : (((w.alloc o1).alloc o2).alloc o3).heap[w.heap.size]? = some o1 ∧ (((w.alloc o1).alloc o2).alloc o3).heap[w.heap.size + 1]? = some o2 ∧ (((w.alloc o1).alloc o2).alloc o3).heap[w.heap.size + 2]? = some o3 := by
  have s1 : (w.alloc o1).heap.size = w.heap.size + 1 := World.size_alloc _ _
  have s2 : ((w.alloc o1).alloc o2).heap.size = w.heap.size + 2 := by rw [World.size_alloc, s1]
  refine ⟨?_, ?_, heap_new3 _ _ _ _⟩
  · rw [Below.heap_alloc _ _ _ (by omega), Below.heap_alloc _ _ _ (by omega)]; exact heap_alloc_new _ _
  · rw [Below.heap_alloc _ _ _ (by omega)]; exact heap_new2 _ _ _
theorem pair_cells {w : World} {g : Nat} {a b : Value} {t : TypeId} (h : w.heap[g]? = some (.cells #[a, b] t (0, 0))) : w.cell? ⟨g, 0, none⟩ = some a ∧ w.cell? ⟨g, 1, none⟩ = some b ∧ w.frozen? ⟨g, 0, none⟩ = false ∧ w.frozen? ⟨g, 1, none⟩ = false := by
  refine ⟨?_, ?_, by simp [World.frozen?, h], by simp [World.frozen?, h]⟩ <;> rw [cell_of_row w g _ _ _ _ h] <;> rfl
set_option maxHeartbeats 8000000 in
theorem r11one_walk (line : Int) (F : Option Addr) (fs : List Fld) (c : Nat) (A : Option Addr) (ls : List Curr) (cr : Nat) (w : World) (hS : Std w)
    (hF : FieldsAt w.heap.size w F fs) (hq : ls.length ≤ 16) (hs : ∀ f ∈ fs, f.1.size < 1073741824) (hX : At kCurr (· < w.heap.size) w A ls) :
    Calls Tryz.prog 65 #[.agg #[.int .i64 line, .slice F fs.length c], .slice A ls.length cr] w fun e w' => OneCGives fs ls w e w' := by
  by_cases hm : fs.length = 2
  · obtain ⟨fb, fo, rfl, hfb, hfc⟩ := hF (by omega)
    obtain ⟨f0, -, -⟩ := hfc 0 (by omega)
    obtain ⟨f1, -, -⟩ := hfc 1 (by omega)
    rw [textC_at] at f0 f1
    rw [Nat.zero_mul, Nat.add_zero] at f0
    rw [Nat.one_mul] at f1
    have hs1 : (textAt fs 1).size < 1073741824 := by rw [← textC_at (by omega)]; exact hs _ (List.getElem_mem _)
    have hm2 : ((fs.length : Int) != 2) = false := by simp; omega
    obtain ⟨t0, ht0⟩ : ∃ t0, textAt fs 0 = t0 := ⟨_, rfl⟩
    obtain ⟨t1, ht1⟩ : ∃ t1, textAt fs 1 = t1 := ⟨_, rfl⟩
    have hKE : Hid (oneC fs ls = (if codeB t0 = false then (0, 10) else if codesE t1 ≠ 0 then (1, codesE t1) else if 0 ≤ idxS t0 (namesC ls) then (-1, 11) else if ls.length = 16 then (-1, 2) else (0, 0))) := by
      refine hide ?_; unfold oneC; rw [if_neg (by simp [hm]), ht0, ht1]
    have hOf : Hid (currOf fs = (t0, (listV t1).2)) := by refine hide ?_; unfold currOf; rw [ht0, ht1]
    rw [ht0] at f0
    rw [ht1] at f1 hs1
    clear ht0 ht1 hfc hF hs
    have hU4 := heap3c w (.cells #[.int .i64 line, .slice (some ⟨fb, fo, none⟩) fs.length c] 79) (.cells #[.string ⟨#[]⟩, .slice none 0 0] 36) (.cells #[.string t0, .slice none 0 0] 36)
    have hbU : Below w.heap.size w (((w.alloc (.cells #[.int .i64 line, .slice (some ⟨fb, fo, none⟩) fs.length c] 79)).alloc (.cells #[.string ⟨#[]⟩, .slice none 0 0] 36)).alloc (.cells #[.string t0, .slice none 0 0] 36)) := (by repeat (first | exact Below.refl _ _ | refine ext_alloc ?_ _ | refine ext_drewN ?_ _ | refine ext_drew ?_ | refine ext_trans ?_ (by assumption)))
    obtain ⟨U, hU⟩ : ∃ U, ((w.alloc (.cells #[.int .i64 line, .slice (some ⟨fb, fo, none⟩) fs.length c] 79)).alloc (.cells #[.string ⟨#[]⟩, .slice none 0 0] 36)).alloc (.cells #[.string t0, .slice none 0 0] 36) = U := ⟨_, rfl⟩
    rw [hU] at hbU hU4
    obtain ⟨u1, u2, u3⟩ := hU4
    obtain ⟨-, o1, -, -⟩ := pair_cells u1
    obtain ⟨r0, r1, r0f, r1f⟩ := pair_cells u2
    obtain ⟨b0, b1, b0f, b1f⟩ := pair_cells u3
    have hzU : w.heap.size + 2 < U.heap.size := blk_lt u3
    clear u1 u2 u3
    replace hU := hide hU
    replace hm := hide hm
    replace o1 := hide o1
    have hr := hide (And.intro r0 (And.intro r1 (And.intro r0f r1f)))
    have hbb := hide (And.intro b0 (And.intro b1 b1f))
    clear r0 r1 r0f r1f b0 b1 b0f b1f
    have hfb1 : fb < w.heap.size + 1 := by omega
    have hfb2 : fb < w.heap.size + 1 + 1 := by omega
    have hl0 : 0 < fs.length := by rw [hm.out]; omega
    have hl1 : 1 < fs.length := by rw [hm.out]; omega
    have hl2 : (1 : Int) < (fs.length : Int) := by omega
    have hl3 : (0 : Int) ≤ 1 := by omega
    go_enter Tryz.func65, Tryz.ntmps65
    go_wp2_with fail
    rw [hU.out]
    refine (r3valid_walk _ _).mono ?_
    rintro e W ⟨rfl, rfl⟩
    have f1U : U.cell? ⟨fb, fo + 3, none⟩ = some (.string t1) := (hbU.cell (p := ⟨fb, fo + 3, none⟩) hfb).trans f1
    have hSU := hS.after hbU
    replace o1 := o1.out
    obtain ⟨r0, r1, r0f, r1f⟩ := hr.out
    obtain ⟨b0, b1, b1f⟩ := hbb.out
    obtain ⟨g, hg⟩ : ∃ g, w.heap.size = g := ⟨_, rfl⟩
    rw [hg] at o1 r0 r1 r0f r1f b0 b1 b1f hzU hfb hfb1 hfb2 hbU hX ⊢
    clear hS f0 f1 hU hr hbb
    cases hv : codeB t0
    · have hK : Hid (oneC fs ls = (0, 10)) := hide (by rw [hKE.out, hv, if_pos rfl])
      clear hSU hX hOf hKE hv
      go_wp2
      refine end_curr3 rfl (g + 1) (.string t0) (.slice none 0 0) _ _ rfl rfl rfl rfl (pair_set r0 r1).1 (pair_set r0 r1).2 ⟨t0, [], _, by rw [hK.out]; rfl, Own.nil, (fun h => by rw [hK.out] at h; cases h), ?_⟩
      rw [hg]
      exact (hbU.setCell (p := ⟨g + 1, 0, none⟩) (by show g ≤ g + 1; omega) _).setCell (p := ⟨g + 1, 1, none⟩) (by show g ≤ g + 1; omega) _
    · have hcall := r3list_walk t1 U hSU hs1
      have hE : Hid (codesE t1 = if (listV t1).1 ≠ 0 then ((listV t1).1 : Int) else if (listV t1).2.length = 0 then 16 else if 8 < (listV t1).2.length then 2 else 0) := hide rfl
      obtain ⟨⟨en, l⟩, hlv⟩ : ∃ r, listV t1 = r := ⟨_, rfl⟩
      rw [hlv] at hcall hE hOf
      have hK := hKE.out
      rw [hv, if_neg (by simp)] at hK
      replace hK := hide hK
      clear hKE hv hlv
      go_wp2_with fail
      refine hcall.mono ?_
      clear hcall
      rintro e W ⟨v, rfl, hown, hb⟩
      dsimp only at hown hE hOf ⊢
      have hg1 : g + 1 < U.heap.size := by omega
      have hg2 : g + 1 + 1 < U.heap.size := by omega
      replace b0 := cell_later hb b0
      replace b1 := cell_later hb b1
      replace r0 := cell_later hb r0
      replace r1 := cell_later hb r1
      replace b1f := (hb.frozen (p := ⟨g + 1 + 1, 1, none⟩) hg2).trans b1f
      replace r0f := (hb.frozen (p := ⟨g + 1, 0, none⟩) hg1).trans r0f
      replace r1f := (hb.frozen (p := ⟨g + 1, 1, none⟩) hg1).trans r1f
      have hbw := hbU.trans (hb.mono (by omega))
      have hfin : ∀ (W' : World), Below g w W' → Below g w ((W'.setCell ⟨g + 1, 0, none⟩ (.string t0)).setCell ⟨g + 1, 1, none⟩ (.slice none 0 0)) := fun W' h => (h.setCell (p := ⟨g + 1, 0, none⟩) (by show g ≤ g + 1; omega) _).setCell (p := ⟨g + 1, 1, none⟩) (by show g ≤ g + 1; omega) _
      replace hfin := hide hfin
      obtain ⟨A6, c6, rfl⟩ := hown.form
      obtain ⟨L, hL⟩ : ∃ L, l.length = L := ⟨_, rfl⟩
      rw [hL] at hE hown ⊢
      replace hL := hide hL
      replace hb := hide hb
      have hWz := hbw.size
      clear hSU o1 f1U hfb1 hfb2
      by_cases he : en = 0
      · subst he
        have hE2 : Hid (codesE t1 = if L = 0 then 16 else if 8 < L then 2 else 0) := hide (by rw [hE.out, if_neg (by simp)])
        clear hE
        by_cases h0 : L = 0
        · have h0i : (L : Int) = 0 := by omega
          have hK2 : Hid (oneC fs ls = (1, 16)) := hide (by rw [hK.out, hE2.out, if_pos h0]; rfl)
          clear hK hE2 hOf h0 hown hX
          go_wp2
          refine end_curr3 rfl (g + 1) (.string t0) (.slice none 0 0) _ _ rfl rfl rfl rfl (pair_set r0 r1).1 (pair_set r0 r1).2 ⟨t0, [], _, by rw [hK2.out]; rfl, Own.nil, (fun h => by rw [hK2.out] at h; cases h), ?_⟩
          rw [hg]
          exact hfin.out _ hbw
        · have h0i : ¬ (L : Int) = 0 := by omega
          by_cases h8 : 8 < L
          · have h8i : (8 : Int) < (L : Int) := by omega
            have hK2 : Hid (oneC fs ls = (1, 2)) := hide (by rw [hK.out, hE2.out, if_neg h0, if_pos h8]; rfl)
            clear hK hE2 hOf h0 h8 hown hX
            go_wp2
            refine end_curr3 rfl (g + 1) (.string t0) (.slice none 0 0) _ _ rfl rfl rfl rfl (pair_set r0 r1).1 (pair_set r0 r1).2 ⟨t0, [], _, by rw [hK2.out]; rfl, Own.nil, (fun h => by rw [hK2.out] at h; cases h), ?_⟩
            rw [hg]
            exact hfin.out _ hbw
          · have h8i : ¬ (8 : Int) < (L : Int) := by omega
            have hK2 : Hid (oneC fs ls = if 0 ≤ idxS t0 (namesC ls) then (-1, 11) else if ls.length = 16 then (-1, 2) else (0, 0)) := hide (by rw [hK.out, hE2.out, if_neg h0, if_neg h8, if_neg (by simp)])
            clear hK hE2 h0 h8
            obtain ⟨V, hV⟩ : ∃ V, W.setCell ⟨g + 1 + 1, 1, none⟩ (.slice A6 L c6) = V := ⟨_, rfl⟩
            have v0 : V.cell? ⟨g + 1 + 1, 0, none⟩ = some (.string t0) := by rw [← hV]; exact (World.cell?_setCell_other _ _ _ _ (by simp)).trans b0
            have v1 : V.cell? ⟨g + 1 + 1, 1, none⟩ = some (.slice A6 L c6) := by rw [← hV]; exact World.cell?_setCell_same _ _ _ b1
            have x0 : V.cell? ⟨g + 1, 0, none⟩ = some (.string ⟨#[]⟩) := by rw [← hV]; exact (World.cell?_setCell_other _ _ _ _ (by simp)).trans r0
            have x1 : V.cell? ⟨g + 1, 1, none⟩ = some (.slice none 0 0) := by rw [← hV]; exact (World.cell?_setCell_other _ _ _ _ (by simp)).trans r1
            have y0 : V.frozen? ⟨g + 1, 0, none⟩ = false := by rw [← hV, World.frozen?_setCell]; exact r0f
            have y1 : V.frozen? ⟨g + 1, 1, none⟩ = false := by rw [← hV, World.frozen?_setCell]; exact r1f
            have hoV : Own kStr 9 [] 0 U.heap.size V (.slice A6 L c6) l := by rw [← hV]; exact own_pset hown hg2
            have hbV : Below g w V := by rw [← hV]; exact hbw.setCell (p := ⟨g + 1 + 1, 1, none⟩) (by show g ≤ g + 1 + 1; omega) _
            have hXV : At kCurr AnyB V A ls := (hX.below hbV).any
            have hidx := r11index_walk A ls cr t0 V (by omega) hXV
            obtain ⟨rr, hrr⟩ : ∃ rr, idxS t0 (namesC ls) = rr := ⟨_, rfl⟩
            obtain ⟨q, hqq⟩ : ∃ q, ls.length = q := ⟨_, rfl⟩
            have hK3 := hK2.out
            rw [hrr, hqq] at hK3
            rw [hrr, hqq] at hidx
            rw [hqq] at hq ⊢
            replace hK3 := hide hK3
            replace hqq := hide hqq
            replace hrr := hide hrr
            clear hX hown hbw r0 r1 r0f r1f hXV hK2
            replace hV := hide hV
            go_wp2_with fail
            rw [hV.out]
            refine hidx.mono ?_
            clear hidx hV b0 b1 b1f
            rintro e w4 ⟨rfl, rfl⟩
            have hlow : Own kStr 9 [] 0 g ((V.setCell ⟨g + 1, 0, none⟩ (.string t0)).setCell ⟨g + 1, 1, none⟩ (.slice A6 L c6)) (.slice A6 L c6) l := (own_pset (own_pset hoV hg1) hg1).lower (by omega)
            have hbelow : Below g w ((V.setCell ⟨g + 1, 0, none⟩ (.string t0)).setCell ⟨g + 1, 1, none⟩ (.slice A6 L c6)) := (hbV.setCell (p := ⟨g + 1, 0, none⟩) (by show g ≤ g + 1; omega) _).setCell (p := ⟨g + 1, 1, none⟩) (by show g ≤ g + 1; omega) _
            replace hlow := hide hlow
            replace hbelow := hide hbelow
            clear hoV hbV
            by_cases hr0 : 0 ≤ rr
            · have hK4 : Hid (oneC fs ls = (-1, 11)) := hide (by rw [hK3.out, if_pos hr0])
              clear hK3 hOf
              go_wp2
              refine end_curr3 rfl (g + 1) (.string t0) (.slice A6 L c6) _ _ rfl rfl rfl rfl (pair_set x0 x1).1 (pair_set x0 x1).2 ⟨t0, l, _, by rw [hK4.out]; rfl, by rw [hg]; exact hlow.out, (fun h => by rw [hK4.out] at h; cases h), by rw [hg]; exact hbelow.out⟩
            · by_cases h16 : q = 16
              · have hK4 : Hid (oneC fs ls = (-1, 2)) := hide (by rw [hK3.out, if_neg hr0, if_pos h16])
                have h16i : (q : Int) = 16 := by omega
                clear hK3 hOf h16
                go_wp2
                refine end_curr3 rfl (g + 1) (.string t0) (.slice A6 L c6) _ _ rfl rfl rfl rfl (pair_set x0 x1).1 (pair_set x0 x1).2 ⟨t0, l, _, by rw [hK4.out]; rfl, by rw [hg]; exact hlow.out, (fun h => by rw [hK4.out] at h; cases h), by rw [hg]; exact hbelow.out⟩
              · have hK4 : Hid (oneC fs ls = (0, 0)) := hide (by rw [hK3.out, if_neg hr0, if_neg h16])
                have h16i : ¬ (q : Int) = 16 := by omega
                clear hK3 h16
                go_wp2
                refine end_curr3 rfl (g + 1) (.string t0) (.slice A6 L c6) _ _ rfl rfl rfl rfl (pair_set x0 x1).1 (pair_set x0 x1).2 ⟨t0, l, _, by rw [hK4.out]; rfl, by rw [hg]; exact hlow.out, (fun _ => hOf.out.symm), by rw [hg]; exact hbelow.out⟩
      · have hE2 : Hid (codesE t1 = (en : Int)) := hide (by rw [hE.out, if_pos he])
        have hK2 : Hid (oneC fs ls = (1, (en : Int))) := hide (by rw [hK.out, hE2.out, if_pos (by omega)])
        have he2 : ((en : Int) == 0) = false := by simp; omega
        have he3 : ((en : Int) != 0) = true := by simp; omega
        have hei : ¬ (en : Int) = 0 := by omega
        have heh := hide he
        clear hE hE2 hK hOf hown hX he
        go_wp2
        refine end_curr3 rfl (g + 1) (.string t0) (.slice none 0 0) _ _ rfl rfl rfl rfl (pair_set r0 r1).1 (pair_set r0 r1).2 ⟨t0, [], _, by rw [hK2.out]; rfl, Own.nil, (fun h => by rw [hK2.out] at h; exact absurd h hei), ?_⟩
        rw [hg]
        exact hfin.out _ hbw
  · have hk : oneC fs ls = (-1, 9) := if_pos hm
    have hm2 : ((fs.length : Int) != 2) = true := by simp; omega
    clear hF hX hs hS
    replace hm := hide hm
    go_enter Tryz.func65, Tryz.ntmps65
    go_wp2
    refine end_curr3 rfl (w.heap.size + 1) (.string ⟨#[]⟩) (.slice none 0 0) _ _ rfl rfl rfl rfl ?_ ?_ ⟨_, [], _, by rw [hk]; rfl, Own.nil, (fun h => by rw [hk] at h; cases h), (by repeat (first | exact Below.refl _ _ | refine ext_alloc ?_ _ | refine ext_drewN ?_ _ | refine ext_drew ?_ | refine ext_trans ?_ (by assumption)))⟩
    · simp
    · simp
end Go.Proofs.YtonpfohhedcjbaaGreatDoor

namespace Go.Proofs.YtonpfohhedcjbaaGreatDoor
open Go.RowKit
set_option maxRecDepth 100000

theorem curr_err {line : Int} {fs : List Fld} {st : RG Curr} (h : (oneC fs st.ls).2 ≠ 0) : gathStep 2 currP currOf st (line, fs) = ⟨st.ls, st.lines, st.ps ++ [(line, placeOf fs (oneC fs st.ls).1, (oneC fs st.ls).2)]⟩ := by
  unfold gathStep
  dsimp only
  by_cases h2 : fs.length = 2
  · rw [if_pos h2]
    have hp : currP line fs st.ls = some (line, placeOf fs (oneC fs st.ls).1, (oneC fs st.ls).2) := by
      unfold oneC at h ⊢
      rw [if_neg (by simp [h2])] at h ⊢
      unfold currP
      cases hv : codeB (textAt fs 0) with
      | false => simp only [Bool.false_eq_true, if_false, if_pos]; rfl
      | true =>
        rw [hv, if_neg (by simp)] at h
        rw [if_pos rfl, if_neg (by simp)]
        unfold codesP codesE at *
        obtain ⟨⟨en, l⟩, hlv⟩ : ∃ r, listV (textAt fs 1) = r := ⟨_, rfl⟩
        rw [hlv] at h ⊢
        dsimp only at h ⊢
        by_cases he : en = 0
        · subst he
          by_cases h0 : l.length = 0
          · simp [h0, noted, placeOf]
          · by_cases h8 : 8 < l.length
            · simp [h0, h8, noted, placeOf]
            · by_cases hi : 0 ≤ idxS (textAt fs 0) (namesC st.ls)
              · simp [h0, h8, hi, noted, placeOf]
              · by_cases h16 : st.ls.length = 16
                · simp [h0, h8, hi, h16, noted, placeOf]
                · simp [h0, h8, hi, h16] at h
        · simp [he, noted, placeOf]
    rw [hp]
  · rw [if_neg h2]
    unfold oneC
    rw [if_pos h2]
    rfl
theorem curr_ok {line : Int} {fs : List Fld} {st : RG Curr} (hl : st.ls.length ≤ 16) (h : (oneC fs st.ls).2 = 0) : gathStep 2 currP currOf st (line, fs) = ⟨st.ls ++ [currOf fs], st.lines ++ [line], st.ps⟩ := by
  unfold gathStep
  dsimp only
  unfold oneC at h
  by_cases h2 : fs.length = 2
  · rw [if_pos h2]
    rw [if_neg (by simp [h2])] at h
    have hp : currP line fs st.ls = none := by
      unfold currP
      cases hv : codeB (textAt fs 0) with
      | false => rw [hv, if_pos rfl] at h; cases h
      | true =>
        rw [hv, if_neg (by simp)] at h
        rw [if_pos rfl]
        unfold codesP codesE at *
        obtain ⟨⟨en, l⟩, hlv⟩ : ∃ r, listV (textAt fs 1) = r := ⟨_, rfl⟩
        rw [hlv] at h ⊢
        dsimp only at h ⊢
        by_cases he : en = 0
        · subst he
          by_cases h0 : l.length = 0
          · simp [h0] at h
          · by_cases h8 : 8 < l.length
            · simp [h0, h8] at h
            · by_cases hi : 0 ≤ idxS (textAt fs 0) (namesC st.ls)
              · simp [h0, h8, hi] at h
              · by_cases h16 : st.ls.length = 16
                · simp [h0, h8, hi, h16] at h
                · have : ¬ 16 ≤ st.ls.length := by omega
                  simp [h0, h8, hi, this, noted]
        · simp [he] at h
    rw [hp]
  · rw [if_pos h2] at h; cases h
theorem curr_place (fs : List Fld) (ls : List Curr) : (oneC fs ls).1 < fs.length := by
  unfold oneC
  by_cases h2 : fs.length = 2
  · rw [if_neg (by simp [h2]), h2]
    split
    · show (0 : Int) < (2 : Nat); decide
    · split
      · show (1 : Int) < (2 : Nat); decide
      · split
        · show (-1 : Int) < (2 : Nat); decide
        · split
          · show (-1 : Int) < (2 : Nat); decide
          · show (0 : Int) < (2 : Nat); decide
  · rw [if_pos h2]
    show (-1 : Int) < _
    omega
set_option maxHeartbeats 8000000 in
theorem r11lines_walk (A : Option Addr) (rs : List Rec) (cap : Nat) (w : World) (hS : Std w) (hR : RecsAt w.heap.size w A rs) (hN : rs.length ≤ 4000000000000) (hs : ∀ r ∈ rs, ∀ f ∈ r.2, f.1.size < 1073741824) :
    Calls Tryz.prog 51 #[.slice A rs.length cap] w fun e w' => ReadCGives rs w e w' := by
  obtain ⟨iP, hiP, hP0, hP1, hP2⟩ := info_parts infoProb
  obtain ⟨N, hNN⟩ : ∃ N, rs.length = N := ⟨_, rfl⟩
  rw [hNN] at hN ⊢
  replace hNN := hide hNN
  replace hs := hide hs
  go_enter Tryz.func51, Tryz.ntmps51
  go_wp2
  go_loopw [5, 6, 7, 8] (fun v6 v7 v8 i wr => ReadCLoop rs w v6 v7 v8 i wr) (fun _ _ _ i _ => N - (intOf i).toNat)
  case atStart => exact ⟨0, Nat.zero_le _, rfl, Own.nil, Own.nil, World.ownsRow_nil _ _ _ _, Below.refl _ _⟩
  case round =>
    obtain ⟨j, hj, rfl, hG⟩ := hrel
    rw [hNN.out] at hj
    by_cases hlt : j < N
    · obtain ⟨r, hr⟩ : ∃ r, rs[j]? = some r := ⟨_, List.getElem?_eq_getElem (by rw [hNN.out]; exact hlt)⟩
      obtain ⟨rb, off, rfl, hrb, hcell⟩ := hR (by rw [hNN.out]; omega)
      obtain ⟨F, c, kw0, kw1, hFw⟩ := hcell j r hr
      have hsr := hide (hs.out r (List.mem_of_getElem? hr))
      have hstep := hide (readAll_take (n := 2) (P := currP) (f := currOf) rs j r hr)
      obtain ⟨st, hst⟩ : ∃ st, readAll 2 currP currOf (rs.take j) = st := ⟨_, rfl⟩
      have hlen := readCurr_len (rs.take j)
      rw [List.length_take, hNN.out] at hlen
      unfold readCurr at hG hlen
      rw [hst] at hG hlen hstep
      obtain ⟨n1, n2, n3⟩ := hlen
      obtain ⟨line, fs⟩ := r
      dsimp only at kw0 kw1 hFw hsr
      have k0 := (hG.below.cell (p := ⟨rb, _, none⟩) hrb).trans kw0
      have k1 := (hG.below.cell (p := ⟨rb, _, none⟩) hrb).trans kw1
      have hF := hFw.below hG.below
      replace kw0 := hide kw0
      clear kw1 hFw
      have hz := hG.below.size
      have hrb2 : rb < wr.heap.size := by omega
      have h3N : st.ps.length ≤ 4000000000000 := by omega
      have hSr := hS.after hG.below
      obtain ⟨A6, c6, hv6⟩ := hG.ls.form
      subst hv6
      have hat := hG.ls.any'
      have hcall := r11one_walk line F fs c A6 st.ls c6 wr hSr (hF.more hz) n1 hsr.out hat
      have herr := fun h => curr_err (line := line) (fs := fs) (st := st) h
      have hok := fun h => curr_ok (line := line) (fs := fs) (st := st) n1 h
      have hpl := curr_place fs st.ls
      unfold OneCGives at hcall
      obtain ⟨⟨k, er⟩, hke⟩ : ∃ p, oneC fs st.ls = p := ⟨_, rfl⟩
      rw [hke] at hcall herr hok hpl
      dsimp only at hcall herr hok hpl
      replace herr := hide herr
      replace hok := hide hok
      replace hcall := hide hcall
      replace n2 := hide n2
      have hj0 : (0 : Int) ≤ (j : Int) := by omega
      have hj1 : (j : Int) < (N : Int) := by omega
      clear hcell hr hst hR n3 hke hat hSr
      go_wp2_with fail
      refine hcall.out.mono ?_
      clear hcall
      rintro e w2 ⟨code, l, v, rfl, hown, hcd, hb2⟩
      obtain ⟨A9, c9, rfl⟩ := hown.form
      have hG2 := hG.later hb2
      have hown2 := hown.lower hz
      replace k0 := cell_later hb2 k0
      replace k1 := cell_later hb2 k1
      have hF2 := (hF.below (hb2.mono hz)).more hG2.below.size
      have hrb3 : rb < w2.heap.size := by have := hb2.size; omega
      clear hG hown hF hb2
      by_cases he : er = 0
      · subst he
        have hcur := hcd rfl
        have hst2 := hide (hstep.out.trans (hok.out rfl))
        rw [← hcur] at hst2
        have n32 : st.lines.length ≤ 100000 := by rw [n2.out]; omega
        have n31 : st.ls.length ≤ 100000 := by omega
        clear hcur hcd hstep herr hok hpl hF2 k1
        go_upto_region 10 with fail
        have hG4 := hG2.alloc (.cells #[.string code, .slice A9 l.length c9] 36)
        have hown4 := hown2.alloc (.cells #[.string code, .slice A9 l.length c9] 36)
        have x0 : (w2.alloc (.cells #[.string code, .slice A9 l.length c9] 36)).cell? ⟨w2.heap.size, 0, none⟩ = some (.string code) := by simp
        have x1 : (w2.alloc (.cells #[.string code, .slice A9 l.length c9] 36)).cell? ⟨w2.heap.size, 1, none⟩ = some (.slice A9 l.length c9) := by simp
        generalize w2.heap.size = g at *
        generalize w2.alloc (.cells #[.string code, .slice A9 l.length c9] 36) = w4 at *
        clear k0 hG2 hown2
        go_upto_region 11 with (at_builtin; refine wpg_ls apart_curr apd_curr (by decide) (by decide) rfl _ _ rfl rfl (hG4.alloc _) n31 ⟨w4.heap.size, 0, none⟩ 1 rfl (code, l) [.string code, .slice A9 l.length c9] ⟨[_], [_], rfl, rfl, Own.rep (hown4.alloc _)⟩ (World.news_of_block (cs := #[.string code, .slice A9 l.length c9]) (t := 36) (fr := (0, 0)) (heap_alloc_new _ _)) ?_; intro v5 w5 hG5)
        have k0 := (hG5.below.cell (p := ⟨rb, _, none⟩) hrb).trans kw0.out
        have hrb5 : rb < w5.heap.size := by have := hG5.below.size; omega
        clear hG4 hown4 x0 x1
        go_wp2_with (at_builtin; refine wpg_ins apart_curr rfl _ _ rfl rfl (hG5.alloc _) n32 ⟨w5.heap.size, 0, none⟩ 1 rfl line (World.news_of_block (cs := #[.int .i64 line]) (t := 3) (fr := (0, 0)) (heap_alloc_new _ _)) ?_; intro v6 w6 hG6)
        clear hG5 k0
        go_roundw
        case rel => exact ⟨j + 1, by rw [hNN.out]; omega, by go_num, by unfold readCurr; rw [hst2.out]; exact hG6⟩
        case measure => simp [intOf]; omega
      · have he2 : (er != 0) = true := by simpa using he
        have hst2 := hide (hstep.out.trans (herr.out he))
        have hk : k < fs.length := hpl
        replace he := hide he
        clear hstep herr hok hcd hpl hown2
        go_wp2_with fail
        refine (r7Found_walk line F fs c k er _ ((hF2.below (ext_alloc (Below.refl _ _) _)).more (by rw [World.size_alloc]; omega)) hk).mono ?_
        rintro e w3 ⟨rfl, hb3⟩
        have hG3 := (hG2.alloc _).later hb3
        have hz3 := hG3.below.size
        clear hG2 hF2 hb3 k0 k1
        go_wp2_with (at_builtin; refine wpList_append_own _ rfl _ _ 57 rfl w.heap.size 98 iP (.agg #[.int .i64 0, .int .i64 0, .int .i64 0, .int .i64 0]) 4 32 Tryz.underlying57 hiP hP0 hP1 hP2 rfl (by decide) _ _ _ rfl (hG3.alloc _).ps ⟨w3.heap.size, 0, none⟩ 1 1 (encP (line, placeOf fs k, er)) rfl rfl (new_prob _ _ _ _ _) (one_prob _) ?c3 ?c4 ?c5 ?_)
        case c3 => unfold maxLen; omega
        case c4 => omega
        case c5 => rw [World.size_alloc]; omega
        intro v' w4 hPn hgrow _
        have hGn := (hG3.alloc _).prob (p := (line, placeOf fs k, er)) apart_curr hgrow hPn
        clear hG3 hPn hgrow
        go_wp2
        go_roundw
        case rel => exact ⟨j + 1, by rw [hNN.out]; omega, by go_num, by unfold readCurr; rw [hst2.out]; exact hGn⟩
        case measure => simp [intOf]; omega
    · obtain rfl : j = N := by omega
      have hall : Hid (rs.take j = rs) := hide (by rw [← hNN.out]; exact List.take_length)
      rw [hall.out] at hG
      clear hall
      go_wp2
      go_ret3
      exact ⟨_, _, _, rfl, hG⟩
theorem r11Read_walk (A : Option Addr) (rs : List Rec) (cap : Nat) (w : World) (hS : Std w) (hR : RecsAt w.heap.size w A rs) (hN : rs.length ≤ 4000000000000) (hs : ∀ r ∈ rs, ∀ f ∈ r.2, f.1.size < 1073741824) :
    Calls Tryz.prog 34 #[.slice A rs.length cap] w fun e w' => CurrReads rs w e w' := by
  have hcall := r11lines_walk A rs cap w hS hR hN hs
  clear hR hN hs hS
  obtain ⟨N, hNN⟩ : ∃ N, rs.length = N := ⟨_, rfl⟩
  rw [hNN] at hcall ⊢
  clear hNN
  go_enter Tryz.func34, Tryz.ntmps34
  go_wp2_with fail
  refine hcall.mono ?_
  clear hcall
  rintro e w' ⟨v6, v7, v8, rfl, hG⟩
  go_wp2
  go_ret2
  exact ⟨_, _, rfl, hG.ls, hG.ps, hG.below⟩
end Go.Proofs.YtonpfohhedcjbaaGreatDoor

namespace Go.Proofs.YtonpfohhedcjbaaGreatDoor
open Go.RowKit
set_option maxRecDepth 100000

set_option maxHeartbeats 8000000 in
theorem r11Same_walk (A A' : Option Addr) (l : List Curr) (c c' : Nat) (w : World) (hn : l.length ≤ 9223372036854775807) (hm : ∀ x ∈ l, x.2.length ≤ 9223372036854775807) (h1 : At kCurr AnyB w A l) (h2 : At kCurr AnyB w A' l) :
    Calls Tryz.prog 24 #[.slice A l.length c, .slice A' l.length c'] w fun e w' => e = .returned (.bool true) ∧ Below w.heap.size w w' := by
  obtain ⟨n, hnn⟩ : ∃ n, l.length = n := ⟨_, rfl⟩
  rw [hnn] at hn ⊢
  replace hnn := hide hnn
  replace hm := hide hm
  go_enter Tryz.func24, Tryz.ntmps24
  go_wp2
  go_loopw [5] (fun i wr => ∃ j : Nat, j ≤ n ∧ i = .int .i64 j ∧ Below w.heap.size w wr) (fun i _ => n - (intOf i).toNat)
  case atStart => exact ⟨0, Nat.zero_le _, rfl, Below.refl _ _⟩
  case round =>
    obtain ⟨j, hj, rfl, hb⟩ := hrel
    by_cases hlt : j < n
    · obtain ⟨⟨code, xs⟩, hx⟩ : ∃ x, l[j]? = some x := ⟨_, List.getElem?_eq_getElem (by rw [hnn.out]; exact hlt)⟩
      have hxl := hm.out _ (List.mem_of_getElem? hx)
      obtain ⟨b1, o1, F1, c1, rfl, -, hb1, a0, a1, -, t1⟩ := (h1.later hb).curr hx
      obtain ⟨b2, o2, F2, c2, rfl, -, hb2, e0, e1, -, t2⟩ := (h2.later hb).curr hx
      dsimp only at a0 a1 e0 e1 t1 t2 hxl
      have hj0 : (0 : Int) ≤ (j : Int) := by omega
      have hj1 : (j : Int) < (n : Int) := by omega
      obtain ⟨k, hk⟩ : ∃ k, xs.length = k := ⟨_, rfl⟩
      have hcall0 := hide (fun (W : World) (hW : Below wr.heap.size wr W) => r2SameS_walk F1 F2 xs c1 c2 W hxl (t1.later hW) (t2.later hW))
      rw [hk] at a1 e1 hcall0
      clear hk
      have hSL : Cn4 b1 ((o1 + j * 2)) (.string code) b1 ((o1 + j * 2 + 1)) (.slice F1 k c1) b2 ((o2 + j * 2)) (.string code) b2 ((o2 + j * 2 + 1)) (.slice F2 k c2) wr := ⟨a0, a1, e0, e1⟩
      have hcall := hide (fun (W : World) (hW : Below wr.heap.size wr W) => (hcall0.out W hW).mono fun e w' ⟨he, hb⟩ => (⟨he, ext_trans hW hb, hSL.later (ext_trans hW hb)⟩ : e = Ending.returned (.bool true) ∧ Below wr.heap.size wr w' ∧ Cn4 b1 ((o1 + j * 2)) (.string code) b1 ((o1 + j * 2 + 1)) (.slice F1 k c1) b2 ((o2 + j * 2)) (.string code) b2 ((o2 + j * 2 + 1)) (.slice F2 k c2) w'))
      have hSd := hSL.drew
      have hrefl := Below.refl wr.heap.size wr
      clear h1 h2 hx t1 t2 hcall0 hxl
      go_wp2_with fail
      go_region_held3 (fun W' => W'.cell? ⟨b1, (o1 + j * 2), none⟩ = some (.string code) ∧ W'.cell? ⟨b1, (o1 + j * 2 + 1), none⟩ = some (.slice F1 k c1) ∧ W'.cell? ⟨b2, (o2 + j * 2), none⟩ = some (.string code) ∧ W'.cell? ⟨b2, (o2 + j * 2 + 1), none⟩ = some (.slice F2 k c2)) (first | ((repeat (first | (with_reducible assumption) | (with_reducible refine Cn4.alloc ?_ _) | (with_reducible refine Cn4.drew ?_) | (with_reducible refine Cn4.set ?_ ?_ ?_ ?_ ?_ _) | omega)); done)) (first | (go_at_call 41; refine (hcall.out _ (by repeat (first | (with_reducible assumption) | (with_reducible refine ext_alloc ?_ _) | (with_reducible refine ext_drew ?_)))).mono ?_; rintro e w2 ⟨rfl, hb2, hc2⟩))
      all_goals
        have hbn := ext_trans hb hb2
        go_wp2
        go_roundw
        case rel => exact ⟨j + 1, by omega, by go_num, by first | exact ext_drew hbn | exact hbn⟩
        case measure => simp [intOf]; omega
    · obtain rfl : j = n := by omega
      go_wp2
      go_ret
      exact ⟨rfl, hb⟩
end Go.Proofs.YtonpfohhedcjbaaGreatDoor

namespace Go.Proofs.YtonpfohhedcjbaaGreatDoor
open Go.RowKit
set_option maxRecDepth 100000

def csB : ByteArray := ⟨#[67, 83]⟩
def acB : ByteArray := ⟨#[65, 59, 67]⟩
def clsL (c : UInt8) : Cls := (⟨#[]⟩, ⟨#[c]⟩, ⟨#[76]⟩, 0, [], 0, [], [], [])
theorem read11 : (readCurr (plainR 1 [[csB, acB]])).ls = [(csB, [⟨#[65]⟩, ⟨#[67]⟩])] ∧ (readCurr (plainR 1 [[csB, acB]])).ps = [] := ⟨by kernel_rfl, by kernel_rfl⟩
theorem pairs11 : pairsV [⟨#[65]⟩, ⟨#[67]⟩] [clsL 65, clsL 66, clsL 67] = [(0, 2)] := by kernel_rfl
def clsV (c : UInt8) : List Value := [.string ⟨#[]⟩, .string ⟨#[c]⟩, .string ⟨#[76]⟩, .int .i64 0, .slice none 0 0, .int .i64 0, .slice none 0 0, .slice none 0 0, .slice none 0 0]
theorem rep_clsL (S : Nat → Prop) (w : World) (c : UInt8) : kCls.rep S w (clsL c) (clsV c) := by
  refine ⟨[_], _, rfl, rfl, [_], _, rfl, rfl, [_], _, rfl, rfl, [_], _, rfl, rfl, [_], _, rfl, ⟨none, 0, rfl, Nat.le_refl _, fun h => absurd h (Nat.lt_irrefl 0)⟩, [_], _, rfl, rfl, [_], _, rfl, ⟨none, 0, rfl, Nat.le_refl _, fun h => absurd h (Nat.lt_irrefl 0)⟩, [_], [_], rfl, ⟨none, 0, rfl, Nat.le_refl _, fun h => absurd h (Nat.lt_irrefl 0)⟩, ⟨none, 0, rfl, Nat.le_refl _, fun h => absurd h (Nat.lt_irrefl 0)⟩⟩
theorem at_cls11 {w : World} {g : Nat} {t : TypeId} {cs : Array Value} (h : w.heap[g]? = some (.cells cs t (0, 0))) (hc : cs.toList = clsV 65 ++ clsV 66 ++ clsV 67) : At kCls AnyB w (some ⟨g, 0, none⟩) [clsL 65, clsL 66, clsL 67] := by
  have := Own.lit (K := kCls) (ts := []) (B0 := 0) (B := 0) h [clsL 65, clsL 66, clsL 67] [clsV 65, clsV 66, clsV 67] rfl (by rw [hc]; simp) (by decide) (fun j x vs hj hv => by
    match j, hj, hv with
    | 0, hj, hv => simp at hj hv; subst hj hv; exact rep_clsL _ _ _
    | 1, hj, hv => simp at hj hv; subst hj hv; exact rep_clsL _ _ _
    | 2, hj, hv => simp at hj hv; subst hj hv; exact rep_clsL _ _ _
    | j + 3, hj, hv => simp at hj) (Nat.zero_le _)
  exact this.any'.any
theorem lists_one {U : World} {b1 b2 : Nat} {t1 t2 : TypeId} {a b : ByteArray} (h1 : U.heap[b1]? = some (.cells #[.string a, .string b] t1 (0, 0))) (h2 : U.heap[b2]? = some (.cells #[.slice (some ⟨b1, 0, none⟩) 2 2] t2 (0, 0))) : ListsIn U.heap.size U (some ⟨b2, 0, none⟩) [[a, b]] := by
  intro _
  refine ⟨b2, 0, rfl, blk_lt h2, fun j x hx => ?_⟩
  match j, hx with
  | 0, hx =>
    simp at hx
    subst hx
    refine ⟨some ⟨b1, 0, none⟩, 2, by rw [cell_of_row U b2 _ _ _ _ h2]; rfl, fun _ => ⟨b1, 0, rfl, blk_lt h1, fun k z hz => ?_⟩⟩
    match k, hz with
    | 0, hz => simp at hz; subst hz; rw [cell_of_row U b1 _ _ _ _ h1]; rfl
    | 1, hz => simp at hz; subst hz; rw [cell_of_row U b1 _ _ _ _ h1]; rfl
    | k + 2, hz => simp at hz
  | j + 1, hx => simp at hx
theorem start02 {w : World} {g : Nat} {t : TypeId} (h : w.heap[g]? = some (.cells #[.int .i64 0, .int .i64 2] t (0, 0))) : At kStart AnyB w (some ⟨g, 0, none⟩) [(0, 2)] := by
  have := Own.lit (K := kStart) (ts := []) (B0 := 0) (B := 0) h [(0, 2)] [[.int .i64 0, .int .i64 2]] rfl rfl (by decide) (fun j x vs hj hv => by
    match j, hj, hv with
    | 0, hj, hv => simp at hj hv; subst hj hv; exact ⟨[_], [_], rfl, rfl, rfl⟩
    | j + 1, hj, hv => simp at hj) (Nat.zero_le _)
  exact this.any'.any
set_option maxHeartbeats 8000000 in
theorem awake11_walk (w : World) (hS : Std w) :
    Calls Tryz.prog 7 #[] w fun e w' => e = .returned (.bool true) ∧ Below w.heap.size w w' := by
  obtain ⟨u1, u2, u3⟩ := heap3c w (.cells #[.string ⟨#[]⟩, .string ⟨#[65]⟩, .string ⟨#[76]⟩, .int .i64 0, .slice none 0 0, .int .i64 0, .slice none 0 0, .slice none 0 0, .slice none 0 0, .string ⟨#[]⟩, .string ⟨#[66]⟩, .string ⟨#[76]⟩, .int .i64 0, .slice none 0 0, .int .i64 0, .slice none 0 0, .slice none 0 0, .slice none 0 0, .string ⟨#[]⟩, .string ⟨#[67]⟩, .string ⟨#[76]⟩, .int .i64 0, .slice none 0 0, .int .i64 0, .slice none 0 0, .slice none 0 0, .slice none 0 0] 43) (.cells #[.string ⟨#[67, 83]⟩, .string ⟨#[65, 59, 67]⟩] 9) (.cells #[.slice (some ⟨w.heap.size + 1, 0, none⟩) 2 2] 34)
  have hb0 : Below w.heap.size w (((w.alloc (.cells #[.string ⟨#[]⟩, .string ⟨#[65]⟩, .string ⟨#[76]⟩, .int .i64 0, .slice none 0 0, .int .i64 0, .slice none 0 0, .slice none 0 0, .slice none 0 0, .string ⟨#[]⟩, .string ⟨#[66]⟩, .string ⟨#[76]⟩, .int .i64 0, .slice none 0 0, .int .i64 0, .slice none 0 0, .slice none 0 0, .slice none 0 0, .string ⟨#[]⟩, .string ⟨#[67]⟩, .string ⟨#[76]⟩, .int .i64 0, .slice none 0 0, .int .i64 0, .slice none 0 0, .slice none 0 0, .slice none 0 0] 43)).alloc (.cells #[.string ⟨#[67, 83]⟩, .string ⟨#[65, 59, 67]⟩] 9)).alloc (.cells #[.slice (some ⟨w.heap.size + 1, 0, none⟩) 2 2] 34)) := (by repeat (first | exact Below.refl _ _ | refine ext_alloc ?_ _ | refine ext_drewN ?_ _ | refine ext_drew ?_ | refine ext_trans ?_ (by assumption)))
  obtain ⟨U, hU⟩ : ∃ U, ((w.alloc (.cells #[.string ⟨#[]⟩, .string ⟨#[65]⟩, .string ⟨#[76]⟩, .int .i64 0, .slice none 0 0, .int .i64 0, .slice none 0 0, .slice none 0 0, .slice none 0 0, .string ⟨#[]⟩, .string ⟨#[66]⟩, .string ⟨#[76]⟩, .int .i64 0, .slice none 0 0, .int .i64 0, .slice none 0 0, .slice none 0 0, .slice none 0 0, .string ⟨#[]⟩, .string ⟨#[67]⟩, .string ⟨#[76]⟩, .int .i64 0, .slice none 0 0, .int .i64 0, .slice none 0 0, .slice none 0 0, .slice none 0 0] 43)).alloc (.cells #[.string ⟨#[67, 83]⟩, .string ⟨#[65, 59, 67]⟩] 9)).alloc (.cells #[.slice (some ⟨w.heap.size + 1, 0, none⟩) 2 2] 34) = U := ⟨_, rfl⟩
  rw [hU] at u1 u2 u3 hb0
  have hpl := plain_walk (some ⟨w.heap.size + 2, 0, none⟩) [[csB, acB]] 1 U (lists_one u2 u3) (by decide) (by decide)
  have hcls := at_cls11 u1 rfl
  have hS0 := hS.after hb0
  replace hU := hide hU
  clear u1 u2 u3 hS
  go_enter Tryz.func7, Tryz.ntmps7
  go_wp2_with fail
  rw [hU.out]
  refine hpl.mono ?_
  clear hpl
  rintro e w1 ⟨v, rfl, hR, hb1⟩
  obtain ⟨A1, c1, rfl⟩ : ∃ A1 c1, v = .slice A1 1 c1 := by obtain ⟨us, -, h, -⟩ := hR; exact owns_form h
  have hR1 := recs_at hR
  have hread := cRead_walk A1 (plainR 1 [[csB, acB]]) c1 w1 (hS0.after hb1) hR1 (by decide) (by decide)
  replace hcls := hcls.later hb1
  replace hb0 := ext_trans hb0 hb1
  clear hR hR1 hb1 hS0 hU
  go_wp2_with fail
  refine hread.mono ?_
  clear hread
  rintro e w2 ⟨v6, v8, rfl, hL, hP, hb2⟩
  rw [read11.1] at hL
  rw [read11.2] at hP
  obtain ⟨A6, c6, rfl⟩ : ∃ A6 c6, v6 = .slice A6 1 c6 := hL.form
  obtain ⟨A8, c8, rfl⟩ : ∃ A8 c8, v8 = .slice A8 0 c8 := owns_form hP
  obtain ⟨b, off, F, cF, rfl, -, hbl, k0, k1, -, hF⟩ := hL.any'.curr (j := 0) rfl
  dsimp only at k0 k1 hF
  rw [Nat.zero_mul, Nat.add_zero] at k0 k1
  have hpairs := pairs_walk csB F [⟨#[65]⟩, ⟨#[67]⟩] cF (some ⟨w.heap.size, 0, none⟩) [clsL 65, clsL 66, clsL 67] 3 w2 (by decide) (by decide) hF.any (hcls.later hb2)
  rw [pairs11] at hpairs
  replace hb0 := ext_trans hb0 hb2
  clear hL hP hb2 hcls hF
  go_wp2_with fail
  refine hpairs.mono ?_
  clear hpairs
  rintro e w3 ⟨v3, rfl, hO, hb3⟩
  obtain ⟨A3, c3, rfl⟩ : ∃ A3 c3, v3 = .slice A3 1 c3 := hO.form
  replace hb0 := ext_trans hb0 hb3
  clear k0 k1 hb3
  have hsame := samepairs_walk A3 (some ⟨w3.heap.size, 0, none⟩) [(0, 2)] c3 1 (w3.alloc (.cells #[.int .i64 0, .int .i64 2] 39)) (by decide) (hO.alloc _).any'.any (start02 (heap_alloc_new _ _))
  clear hO
  go_wp2_with fail
  refine hsame.mono ?_
  rintro e w4 ⟨rfl, hb4⟩
  have hb9 := ext_trans (ext_alloc hb0 _) hb4
  clear hsame hb0 hb4
  go_wp2
  go_ret
  exact ⟨rfl, hb9⟩
end Go.Proofs.YtonpfohhedcjbaaGreatDoor
