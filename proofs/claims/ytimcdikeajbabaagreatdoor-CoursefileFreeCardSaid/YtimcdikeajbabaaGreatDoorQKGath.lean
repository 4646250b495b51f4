/- What fields.Read gathers at classes: some of their rows are of the lines' type, but apart from them. No condition. -/
import Derived.Test.YtimcdikeajbabaaGreatDoorShelfS
import Derived.Test.YtimcdikeajbabaaGreatDoorRows
import Derived.WalkKit
import Derived.WalkSpells
import Derived.WalkLawsBesides
import Derived.BigGuardPart
import Derived.Lib.Hide
import Derived.Laws.BitsAllLaws
import Derived.Laws.BitsLemmas
import Derived.Lib.LaidTab
import Derived.Test.YtimcdikeajbabaaGreatDoorShelf
import Derived.Lib.ConvBytes
import Derived.Deep.QuietTactic
import Derived.BigQuiet
import Derived.Laws.ResultCell
import Derived.RegionTactic
import Derived.BigRegion
import Derived.Deep.RegionHeld3
import Derived.Deep.DeepCutAuto
import Derived.Lib.SmallJoins
import Derived.Lib.SplitLaws
import Derived.Lib.CountLaws
import Derived.Lib.IndexMore
import Derived.Lib.Split
import Derived.Lib.Join
import Derived.Lib.ItoaNum
import Derived.Laws.AppendOwn
import Derived.Test.YtimcdikeajbabaaGreatDoorShelfT
import Derived.Lib.ItoaLen
import Derived.Lib.AppendIntMem
import Derived.Deep.AppendLies
import Derived.Lib.PathFns
import Derived.Maps.Range
import Derived.Lib.OwnBridge
import Derived.Sort.OwnSorted
import Derived.Test.YtimcdikeajbabaaGreatDoorQFound
import Derived.Test.YtimcdikeajbabaaGreatDoorQClsOwn
namespace Go.Proofs.YtimcdikeajbabaaGreatDoor
open Go.RowKit
set_option maxRecDepth 100000

/-- A row of its own; what its elements point to lies in S. -/
def OwnO {α : Type} (K : Kind α) (t : TypeId) (S : Nat → Prop) (B : Nat) (w : World) (v : Value) (l : List α) : Prop :=
  ∃ vss : List (List Value), vss.length = l.length ∧ w.ownsRow B t K.k v l.length vss.flatten ∧ ∀ (j : Nat) (x : α) (vs : List Value), l[j]? = some x → vss[j]? = some vs → K.rep S w x vs
/-- Rows of these types from B on, but not the one of u. -/
def Off (ts : List TypeId) (B : Nat) (u : Value) (w : World) : Nat → Prop := fun b => (B ≤ b ∧ TyAt ts w b) ∧ some b ≠ u.ownBlock
theorem tyAt_same {ts : List TypeId} {w w' : World} {b : Nat} (h : TyAt ts w b) (e : w'.heap[b]? = w.heap[b]?) : TyAt ts w' b := by
  obtain ⟨cs, t, h1, h2⟩ := h
  exact ⟨cs, t, e.trans h1, h2⟩
theorem Off.same {ts : List TypeId} {B b : Nat} {u : Value} {w w' : World} (h : Off ts B u w b) (e : w'.heap[b]? = w.heap[b]?) : Off ts B u w' b := ⟨⟨h.1.1, tyAt_same h.1.2 e⟩, h.2⟩
theorem tyAt_ne {ts : List TypeId} {w : World} {b g : Nat} {cs : Array Value} {e : TypeId} {fr : Nat × Nat} (h : TyAt ts w b) (hg : w.heap[g]? = some (.cells cs e fr)) (he : e ∉ ts) : b ≠ g := by
  rintro rfl
  obtain ⟨cs', t', hc, ht⟩ := h
  rw [hg] at hc
  injection hc with h3
  injection h3 with _ h4
  exact he (h4 ▸ ht)
section
variable {α : Type} {K : Kind α} {t : TypeId} {S S' : Nat → Prop} {B : Nat} {w w' : World} {v : Value} {l : List α}
theorem OwnO.nil : OwnO K t S B w (.slice none 0 0) ([] : List α) := ⟨[], rfl, World.ownsRow_nil _ _ _ _, fun j x vs h => by simp at h⟩
theorem OwnO.kept {row : Option Nat} (h : OwnO K t S B w v l) (hg : w.grownBy w' row) (h1 : v.ownBlock = none ∨ v.ownBlock ≠ row) (h2 : ∀ b, S b → b < w.heap.size → some b ≠ row ∧ (w'.heap[b]? = w.heap[b]? → S' b)) : OwnO K t S' B w' v l := by
  obtain ⟨vss, e1, e2, e3⟩ := h
  refine ⟨vss, e1, e2.kept hg h1, fun j x vs hj hv => K.kept (e3 j x vs hj hv) fun b hs hlt => ?_⟩
  obtain ⟨h3, h4⟩ := h2 b hs hlt
  have hb := hg.block b hlt h3
  exact ⟨h4 hb, Nat.lt_of_lt_of_le hlt hg.size, hb⟩
theorem OwnO.own {ts : List TypeId} (h : OwnO K t S B w v l) (hS : ∀ b, S b → B ≤ b ∧ TyAt ts w b) : Own K t ts 0 B w v l := by
  obtain ⟨vss, e1, e2, e3⟩ := h
  exact ⟨vss, e1, e2, fun j x vs hj hv => K.more (e3 j x vs hj hv) fun b hs => .inr (hS b hs)⟩
/-- Its row, if it has one, is of its type. -/
theorem owns_ne {e : TypeId} {k n g : Nat} {xs : List Value} {cs : Array Value} {t2 : TypeId} {fr : Nat × Nat} (h : w.ownsRow B e k v n xs) (hg : w.heap[g]? = some (.cells cs t2 fr)) (he : e ≠ t2) : v.ownBlock = none ∨ v.ownBlock ≠ some g := by
  rcases h.2 with ⟨rfl, _⟩ | ⟨x, cap, cur, rfl, _, hx, _⟩
  · exact .inl rfl
  · refine .inr fun e2 => ?_
    have : x = g := by simpa [Value.ownBlock] using e2
    subst this
    rw [hx] at hg
    injection hg with h3
    injection h3 with _ h4
    exact he h4
/-- Whatever rows of type e another one has, blocks of types apart are not among them. -/
theorem tyAt_far {ts : List TypeId} {e : TypeId} {k n b : Nat} {xs : List Value} (h : w.ownsRow B e k v n xs) (hb : TyAt ts w b) (he : e ∉ ts) : some b ≠ v.ownBlock := by
  rcases h.2 with ⟨rfl, _⟩ | ⟨x, cap, cur, rfl, _, hx, _⟩
  · intro e2; simp [Value.ownBlock] at e2
  · intro e2
    have : b = x := by simpa [Value.ownBlock] using e2
    exact tyAt_ne hb hx he this
end
/-- Rows from B on, as parts of a datum: apart from the row of u, which lies below. -/
theorem own_repS {α : Type} {K : Kind α} {t : TypeId} {ts : List TypeId} {B C : Nat} {w : World} {v u : Value} {l : List α} (h : Own K t [] 0 B w v l) (ht : t ∈ ts) (hC : C ≤ B) (hu : ∀ y, u.ownBlock = some y → y < B) : (kSlice K).rep (Off ts C u w) w l [v] := by
  obtain ⟨A, c, rfl, h1, h2⟩ := h.at
  refine ⟨A, c, rfl, h1, h2.more fun b hb => ?_⟩
  rcases hb with hb | ⟨hB, cs, t', hc, hm⟩
  · exact absurd hb (Nat.not_lt_zero _)
  · refine ⟨⟨Nat.le_trans hC hB, cs, t', hc, by simp at hm; rw [hm]; exact ht⟩, fun e => ?_⟩
    have := hu b e.symm
    omega
/-- What is gathered at classes. -/
structure GK (w0 : World) (u6 u7 u8 : Value) (ls : List Cls) (lines : List Int) (ps : List Prob) (W : World) : Prop where
  ls : OwnO kCls 47 (Off clsTs w0.heap.size u7 W) w0.heap.size W u6 ls
  ins : Own kInt 3 [] 0 w0.heap.size W u7 lines
  ps : ProbsOwn w0.heap.size W u8 ps
  below : Below w0.heap.size w0 W
section
variable {w0 W W' : World} {u6 u7 u8 : Value} {ls : List Cls} {lines : List Int} {ps : List Prob}
theorem GK.own (h : GK w0 u6 u7 u8 ls lines ps W) : Own kCls 47 clsTs 0 w0.heap.size W u6 ls := h.ls.own fun _ hb => hb.1
theorem GK.later (h : GK w0 u6 u7 u8 ls lines ps W) (hb : Below W.heap.size W W') : GK w0 u6 u7 u8 ls lines ps W' :=
  ⟨h.ls.kept (row := none) ⟨hb.os, hb.tape, hb.output, hb.size, fun k hk _ => hb.block k hk⟩ (by cases u6.ownBlock <;> simp) (fun b hs _ => ⟨by simp, fun e => hs.same e⟩), h.ins.later hb, owns_later h.ps hb, ext_trans h.below hb⟩
theorem GK.alloc (h : GK w0 u6 u7 u8 ls lines ps W) (o : Obj) : GK w0 u6 u7 u8 ls lines ps (W.alloc o) := h.later (ext_alloc (Below.refl _ _) _)
theorem GK.drew (h : GK w0 u6 u7 u8 ls lines ps W) : GK w0 u6 u7 u8 ls lines ps W.drew := h.later (ext_drew (Below.refl _ _))
theorem GK.scan {g : Nat} {line : Int} {F : Option Addr} {m c j : Nat} {pr : Option Prob} (h : GK w0 u6 u7 u8 ls lines ps W) (hs : Scan W g line F m c j pr) (ho : Only g W W') (hg : w0.heap.size ≤ g) : GK w0 u6 u7 u8 ls lines ps W' := by
  have hs' := hs
  obtain ⟨v, hgb, -⟩ := hs'
  refine ⟨h.ls.kept ho ?_ (fun b hb _ => ⟨fun e => tyAt_ne hb.1.2 hgb (by decide) (by injection e), fun e => hb.same e⟩), h.ins.only ho hgb (Nat.zero_le _) (by decide) (by decide), owns_scan h.ps hs (by decide) ho, h.below.trans (Only.below ho hg h.below.size)⟩
  obtain ⟨vss, -, e2, -⟩ := h.ls
  exact owns_ne e2 hgb (by decide)
theorem GK.prob {v' : Value} {p : Prob} (h : GK w0 u6 u7 u8 ls lines ps W) (hg : W.grownBy W' u8.ownBlock) (hn : W'.ownsRow w0.heap.size 74 4 v' (ps.length + 1) (ps.flatMap encP ++ encP p)) : GK w0 u6 u7 v' ls lines (ps ++ [p]) W' := by
  refine ⟨h.ls.kept hg ?_ (fun b hb _ => ⟨tyAt_far h.ps hb.1.2 (by decide), fun e => hb.same e⟩), h.ins.grown h.ps (Nat.zero_le _) hg (by decide) (by decide), by unfold ProbsOwn; rw [List.length_append, flatP_snoc]; exact hn, Below.grown h.below hg h.below.size (fun j hj => (h.ps.lt j hj).1)⟩
  obtain ⟨vss, -, e2, -⟩ := h.ls
  exact own_ne e2 h.ps (by decide)
theorem stepk_ls {ops : Array Oper} {o : Oper} {a : Act} {K' : Act → World → Prop} {Q : Exit → Act → World → Prop} {E : Prop} {S : World → Prop} (hgd : o.guard = none) (s x : Operand)
    (ho : o.op = .call { callee := .builtin .append, args := #[s, x], argTypes := #[29, 29] }) (hs : a.eval s = u6) (h : GK w0 u6 u7 u8 ls lines ps W) (hl : ls.length ≤ 100000)
    (ad : Addr) (c : Nat) (hx : a.eval x = .slice (some ad) 1 c) (e : Cls) (vs : List Value) (hrep : kCls.rep (Off clsTs w0.heap.size u7 W) W e vs) (hnews : ∀ j u, vs[j]? = some u → W.cell? (ad.add j) = some u) (hS : ∀ w', W.grownBy w' u6.ownBlock → S w')
    (hk : ∀ g cap w', GK w0 (.slice (some ⟨g, 0, none⟩) (ls.length + 1) cap) u7 u8 (ls ++ [e]) lines ps w' → W.grownBy w' u6.ownBlock → S w' → K' (a.put o.dst (.slice (some ⟨g, 0, none⟩) (ls.length + 1) cap)) w') :
    if Region.wanted o (yielded ops a.tmps) = true then Oper.wp Tryz.prog o a W K' Q else E := by
  obtain ⟨i, z, hi, hz, h1, h2, h3⟩ := apd_clss.i
  obtain ⟨vss, e1, e2, e3⟩ := h.ls
  refine step_append_lies W hgd s x 29 ho w0.heap.size 47 i z 9 160 apd_clss.u hi hz h1 h2 h3 (by decide) u6 ls.length vss.flatten hs e2 ad 1 c vs hx (by rw [kCls.len hrep]; rfl) hnews (kCls.one hrep) (by omega) (by unfold maxLen; omega) (by omega) h.below.size W.heap.size rfl fun g cap w' hn hg _ _ => hk g cap w' ⟨?_, h.ins.grown e2 (Nat.zero_le _) hg (by decide) (by simp), World.ownsRow.kept h.ps hg (own_ne h.ps e2 (by decide)), Below.grown h.below hg h.below.size (fun j hj => (e2.lt j hj).1)⟩ hg (hS w' hg)
  have hk : ∀ {a : Cls} {us : List Value}, kCls.rep (Off clsTs w0.heap.size u7 W) W a us → kCls.rep (Off clsTs w0.heap.size u7 w') w' a us := fun h => kCls.kept h fun b hb hlt => by
    have hbb := hg.block b hlt (tyAt_far e2 hb.1.2 (by decide))
    exact ⟨hb.same hbb, Nat.lt_of_lt_of_le hlt hg.size, hbb⟩
  refine ⟨vss ++ [vs], by simp [e1], ?_, fun j y us hj hv => ?_⟩
  · rw [show (vss ++ [vs]).flatten = vss.flatten ++ vs from by simp, show (ls ++ [e]).length = ls.length + 1 from by simp]
    exact hn
  · rcases Nat.lt_or_ge j ls.length with hlt | hge
    · rw [List.getElem?_append_left hlt] at hj
      rw [List.getElem?_append_left (by omega)] at hv
      exact hk (e3 j y us hj hv)
    · rw [List.getElem?_append_right hge] at hj
      rw [List.getElem?_append_right (by omega)] at hv
      have hj0 : j - ls.length = 0 := by
        have := (List.getElem?_eq_some_iff.1 hj).1
        simp at this; omega
      rw [hj0] at hj
      rw [e1, hj0] at hv
      simp at hj hv
      subst hj hv
      exact hk hrep
theorem stepk_ins {ops : Array Oper} {o : Oper} {a : Act} {K' : Act → World → Prop} {Q : Exit → Act → World → Prop} {E : Prop} {S : World → Prop} (hgd : o.guard = none) (s x : Operand)
    (ho : o.op = .call { callee := .builtin .append, args := #[s, x], argTypes := #[36, 36] }) (hs : a.eval s = u7) (h : GK w0 u6 u7 u8 ls lines ps W) (hl : lines.length ≤ 100000)
    (ad : Addr) (c : Nat) (hx : a.eval x = .slice (some ad) 1 c) (e : Int) (hnews : ∀ j u, [Value.int .i64 e][j]? = some u → W.cell? (ad.add j) = some u) (hS : ∀ w', W.grownBy w' u7.ownBlock → S w')
    (hk : ∀ g cap w', GK w0 u6 (.slice (some ⟨g, 0, none⟩) (lines.length + 1) cap) u8 ls (lines ++ [e]) ps w' → W.grownBy w' u7.ownBlock → S w' → K' (a.put o.dst (.slice (some ⟨g, 0, none⟩) (lines.length + 1) cap)) w') :
    if Region.wanted o (yielded ops a.tmps) = true then Oper.wp Tryz.prog o a W K' Q else E := by
  obtain ⟨i, z, hi, hz, h1, h2, h3⟩ := apd_intsG.i
  obtain ⟨vss, e1, e2, e3⟩ := h.ins
  refine step_append_lies W hgd s x 36 ho w0.heap.size 3 i z 1 8 apd_intsG.u hi hz h1 h2 h3 (by decide) u7 lines.length vss.flatten hs e2 ad 1 c [.int .i64 e] hx rfl hnews (kInt.one (S := AnyB) (w := W) (a := e) rfl) (by omega) (by unfold maxLen; omega) (by omega) h.below.size W.heap.size rfl fun g cap w' hn hg hwh _ => hk g cap w' ⟨?_, Own.snoc vss e1 e2 e3 rfl (by simp) (Nat.zero_le _) hg hn, World.ownsRow.kept h.ps hg (own_ne h.ps e2 (by decide)), Below.grown h.below hg h.below.size (fun j hj => (e2.lt j hj).1)⟩ hg (hS w' hg)
  refine h.ls.kept hg ?_ fun b hb hlt => ⟨hb.2, fun hbb => ⟨⟨hb.1.1, tyAt_same hb.1.2 hbb⟩, fun e => ?_⟩⟩
  · obtain ⟨vss', -, e2', -⟩ := h.ls
    exact own_ne e2' e2 (by decide)
  · have e : b = g := by simpa [Value.ownBlock] using e
    subst e
    rcases hwh with h4 | h4
    · exact hb.2 h4.symm
    · omega
end
end Go.Proofs.YtimcdikeajbabaaGreatDoor
