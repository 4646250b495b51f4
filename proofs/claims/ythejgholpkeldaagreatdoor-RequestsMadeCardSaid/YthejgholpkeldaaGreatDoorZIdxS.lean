/- Rows of their own, on: what they point to is written; several elements are appended. No condition. Walks of slices.Index and Contains at strings, and timetableref08.place. Conditions: the cells. -/
import Derived.Test.YthejgholpkeldaaGreatDoorRows
import Derived.WalkKit
import Derived.WalkSpells
import Derived.WalkLawsBesides
import Derived.BigGuardPart
import Derived.Lib.Hide
import Derived.Laws.BitsAllLaws
import Derived.Laws.BitsLemmas
import Derived.Lib.LaidTab
import Derived.Test.YthejgholpkeldaaGreatDoorShelf
import Derived.Lib.ConvBytes
import Derived.Deep.QuietTactic
import Derived.BigQuiet
import Derived.Lib.SmallJoins
import Derived.Lib.SplitLaws
import Derived.Lib.CountLaws
import Derived.Lib.IndexMore
import Derived.Lib.Split
import Derived.Lib.Join
import Derived.Lib.ItoaNum
import Derived.Laws.AppendOwn
import Derived.Laws.ResultCell
import Derived.RegionTactic
import Derived.BigRegion
import Derived.Deep.RegionHeld3
import Derived.Deep.DeepCutAuto
import Derived.Deep.AppendLies
import Derived.Lib.PathFns
import Derived.Test.YthejgholpkeldaaGreatDoorZSameL
namespace Go.Proofs.YthejgholpkeldaaGreatDoor
open Go.RowKit
set_option maxRecDepth 100000

theorem TyAt.free {ts : List TypeId} {w : World} {b : Nat} (h : TyAt ts w b) (o : Nat) : w.frozen? ⟨b, o, none⟩ = false := by
  obtain ⟨cs, t, h, -⟩ := h
  simp [World.frozen?, h]
theorem list_choice {α β : Type} {R : Nat → α → β → Prop} : ∀ (xs : List α), (∀ (j : Nat) (x : α), xs[j]? = some x → ∃ y, R j x y) → ∃ ys : List β, ys.length = xs.length ∧ ∀ (j : Nat) (x : α) (y : β), xs[j]? = some x → ys[j]? = some y → R j x y := by
  intro xs
  induction xs generalizing R with
  | nil => exact fun _ => ⟨[], rfl, fun j x y h => by simp at h⟩
  | cons x xs ih =>
    intro h
    obtain ⟨y, hy⟩ := h 0 x rfl
    obtain ⟨ys, h1, h2⟩ := ih (R := fun j => R (j + 1)) (fun j x hx => h (j + 1) x (by simpa using hx))
    refine ⟨y :: ys, by simp [h1], fun j a b ha hb => ?_⟩
    cases j with
    | zero => simp at ha hb; subst ha; subst hb; exact hy
    | succ j => exact h2 j a b (by simpa using ha) (by simpa using hb)
section
variable {w : World} {B B0 : Nat} {t t1 : TypeId} {ts : List TypeId} {v : Value} {xs : List (List ByteArray)}
/-- The slice that stands for row k, and its strings. -/
theorem Own.row_at {α : Type} {K : Kind α} {xs : List (List α)} (h : Own (kSlice K) t ts B0 B w v xs) {k : Nat} {x : List α} (hk : xs[k]? = some x) :
    ∃ g c F cF, v = .slice (some ⟨g, 0, none⟩) xs.length c ∧ xs.length ≤ c ∧ B ≤ g ∧ g < w.heap.size ∧ w.cell? ⟨g, k, none⟩ = some (.slice F x.length cF) ∧ x.length ≤ cF ∧ At K (Ty ts B0 B w) w F x := by
  have hcap := h.at
  obtain ⟨vss, e1, e2, e3⟩ := h
  have hkl := (List.getElem?_eq_some_iff.1 hk).1
  obtain ⟨A, c, rfl, hc, -⟩ := hcap
  rcases e2.2 with ⟨_, h0⟩ | ⟨g, cap, cur, he, hB, hg, _, _, _, htake⟩
  · omega
  · injection he with he hc2 hc3
    subst he
    have hv : vss[k]? = some (vss[k]'(by omega)) := List.getElem?_eq_getElem (by omega)
    obtain ⟨F, cF, hvs, h1, h2⟩ := e3 k x _ hk hv
    have hall : ∀ vs ∈ vss, vs.length = 1 := by
      intro vs hvm
      obtain ⟨j, hj⟩ := List.getElem?_of_mem hvm
      have hjl := (List.getElem?_eq_some_iff.1 hj).1
      exact (kSlice K).len (e3 j _ vs (List.getElem?_eq_getElem (by omega)) hj)
    have hcell := e2.cells (g := g) rfl (k * 1 + 0) _ ((flatten_at vss hall k 0 _ hv (by omega)).trans (by rw [hvs]; rfl))
    rw [show (⟨g, 0, none⟩ : Addr).add (k * 1 + 0) = ⟨g, k, none⟩ from by rw [Addr.add_lit]; simp] at hcell
    exact ⟨g, c, F, cF, rfl, hc, hB, blk_lt hg, hcell, h1, h2⟩
/-- A string of a row is written anew: each row reads as one of the same length, of the same strings and the new one. -/
theorem Own.restore (h : Own (kSlice kStr) t [t1] 0 B w v xs) {b' o' : Nat} {cs : Array Value} {z : ByteArray} (hb : w.heap[b']? = some (.cells cs t1 (0, 0))) (hts : t ≠ t1) (hB : B ≤ b') :
    ∃ xs', Own (kSlice kStr) t [t1] 0 B (w.setCell ⟨b', o', none⟩ (.string z)) v xs' ∧ xs'.length = xs.length ∧ ∀ (j : Nat) (x' : List ByteArray), xs'[j]? = some x' → ∃ x : List ByteArray, xs[j]? = some x ∧ x'.length = x.length ∧ ∀ y ∈ x', y ∈ x ∨ y = z := by
  obtain ⟨vss, e1, e2, e3⟩ := h
  obtain ⟨w', hw'⟩ : ∃ w', w.setCell ⟨b', o', none⟩ (.string z) = w' := ⟨_, rfl⟩
  have hz : w'.heap.size = w.heap.size := by rw [← hw']; simp [World.setCell]
  have hother : ∀ b, b ≠ b' → w'.heap[b]? = w.heap[b]? := fun b hne => by rw [← hw']; exact Below.heap_setCell w ⟨b', o', none⟩ (.string z) b hne
  have hsame : ∃ cs', w'.heap[b']? = some (.cells cs' t1 (0, 0)) := by
    rw [← hw']
    simp only [World.setCell, Array.getElem?_modify, hb]
    exact ⟨_, rfl⟩
  have hTy : ∀ b, Ty [t1] 0 B w b → Ty [t1] 0 B w' b := by
    intro b hs
    rcases hs with hs | ⟨hs, cs2, t2, hc, ht⟩
    · exact .inl hs
    · by_cases hbb : b = b'
      · subst hbb
        obtain ⟨cs', hc'⟩ := hsame
        exact .inr ⟨hs, cs', t1, hc', by simp⟩
      · exact .inr ⟨hs, cs2, t2, (hother b hbb).trans hc, ht⟩
  have hrow : ∀ (j : Nat) (x : List ByteArray), xs[j]? = some x → ∃ x' : List ByteArray, (∀ vs, vss[j]? = some vs → (kSlice kStr).rep (Ty [t1] 0 B w') w' x' vs) ∧ x'.length = x.length ∧ ∀ y ∈ x', y ∈ x ∨ y = z := by
    intro j x hx
    have hjl := (List.getElem?_eq_some_iff.1 hx).1
    have hv : vss[j]? = some (vss[j]'(by omega)) := List.getElem?_eq_getElem (by omega)
    obtain ⟨F, cF, hvs, hc, hF⟩ := e3 j x _ hx hv
    by_cases hn : 0 < x.length
    · obtain ⟨b, off, rfl, hS, hlt, hcell⟩ := hF hn
      refine ⟨x.mapIdx fun i y => if b = b' ∧ off + i = o' then z else y, fun vs hvs' => ?_, by simp, fun y hy => ?_⟩
      · rw [hv] at hvs'
        obtain rfl := Option.some.inj hvs'
        refine ⟨some ⟨b, off, none⟩, cF, by simpa using hvs, by simpa using hc, fun _ => ⟨b, off, rfl, hTy b hS, by omega, fun i y hy => ⟨[.string y], rfl, fun q u hu => ?_⟩⟩⟩
        have hq : q = 0 := by
          have := (List.getElem?_eq_some_iff.1 hu).1
          simpa using this
        subst hq
        simp at hu
        subst hu
        obtain ⟨y0, hy0, hyy⟩ : ∃ y0, x[i]? = some y0 ∧ (if b = b' ∧ off + i = o' then z else y0) = y := by
          rw [List.getElem?_mapIdx] at hy
          obtain ⟨y0, h1, h2⟩ := Option.map_eq_some_iff.1 hy
          exact ⟨y0, h1, h2⟩
        obtain ⟨us, rfl, hus⟩ := hcell i y0 hy0
        have hold : w.cell? ⟨b, off + i, none⟩ = some (.string y0) := by simpa [kStr] using hus 0 _ rfl
        have hgoal : w'.cell? ⟨b, off + i, none⟩ = some (.string y) := by
          rw [← hyy, ← hw']
          by_cases hh : b = b' ∧ off + i = o'
          · rw [if_pos hh]
            obtain ⟨rfl, rfl⟩ := hh
            exact World.cell?_setCell_same _ _ _ hold
          · rw [if_neg hh]
            exact (World.cell?_setCell_other _ _ _ _ (fun e => hh (by injection e with h1 h2; exact ⟨h1.symm, h2.symm⟩))).trans hold
        simpa [kStr] using hgoal
      · obtain ⟨i, hi⟩ := List.getElem?_of_mem hy
        rw [List.getElem?_mapIdx] at hi
        obtain ⟨y0, h1, h2⟩ := Option.map_eq_some_iff.1 hi
        split at h2
        · exact .inr h2.symm
        · exact .inl (by rw [← h2]; exact List.mem_of_getElem? h1)
    · have hx0 : x = [] := List.eq_nil_of_length_eq_zero (by omega)
      subst hx0
      refine ⟨[], fun vs hvs' => ?_, rfl, fun y hy => by simp at hy⟩
      rw [hv] at hvs'
      obtain rfl := Option.some.inj hvs'
      exact ⟨F, cF, hvs, hc, fun h0 => absurd h0 (Nat.lt_irrefl 0)⟩
  obtain ⟨xs', l1, l2⟩ := list_choice xs hrow
  rw [hw']
  refine ⟨xs', ⟨vss, by omega, ?_, fun j x' vs hx' hvs => ?_⟩, l1, fun j x' hx' => ?_⟩
  · have hg : w.grownBy w' (some b') := by rw [← hw']; exact only_setCell (World.grownBy.refl _ _) (Or.inl rfl) _
    have := e2.kept hg (by
      rcases e2.2 with ⟨rfl, _⟩ | ⟨g, cap, cur, rfl, _, hgg, _⟩
      · exact .inl rfl
      · refine .inr fun e => hts ?_
        have : g = b' := by simpa [Value.ownBlock] using e
        subst this
        rw [hgg] at hb
        injection hb with h1
        injection h1)
    rw [l1]; exact this
  · have hjl := (List.getElem?_eq_some_iff.1 hx').1
    have hx : xs[j]? = some (xs[j]'(by omega)) := List.getElem?_eq_getElem (by omega)
    exact (l2 j _ x' hx hx').1 vs hvs
  · have hjl := (List.getElem?_eq_some_iff.1 hx').1
    have hx : xs[j]? = some (xs[j]'(by omega)) := List.getElem?_eq_getElem (by omega)
    exact ⟨_, hx, (l2 j _ x' hx hx').2⟩
end
section
variable {α : Type} {P : Program} {K : Kind α} {t2 t : TypeId} {ts : List TypeId} {B0 B bytes : Nat} {w w' : World} {v v' : Value} {l : List α}
/-- Several elements are appended. -/
theorem Own.append (es : List α) (ess : List (List Value)) (vss : List (List Value)) (e1 : vss.length = l.length) (e2 : w.ownsRow B t K.k v l.length vss.flatten)
    (e3 : ∀ (j : Nat) (x : α) (vs : List Value), l[j]? = some x → vss[j]? = some vs → K.rep (Ty ts B0 B w) w x vs) (he : ess.length = es.length) (hx : ∀ (j : Nat) (x : α) (vs : List Value), es[j]? = some x → ess[j]? = some vs → K.rep (Ty ts B0 B w) w x vs) (ht : t ∉ ts) (hB : B0 ≤ B) (hg : w.grownBy w' v.ownBlock)
    (hn : w'.ownsRow B t K.k v' (l.length + es.length) (vss.flatten ++ ess.flatten)) : Own K t ts B0 B w' v' (l ++ es) := by
  have hk : ∀ {a : α} {us : List Value}, K.rep (Ty ts B0 B w) w a us → K.rep (Ty ts B0 B w') w' a us := fun h => K.kept h fun b hs hlt => by
    have hb : w'.heap[b]? = w.heap[b]? := hg.block b hlt fun e => by
      rcases e2.2 with ⟨rfl, _⟩ | ⟨y, cap', cur', rfl, hy0, hy, _⟩
      · simp [Value.ownBlock] at e
      · have : b = y := by simpa [Value.ownBlock] using e
        subst this
        rcases hs with hs | ⟨_, cs, t', hc, ht'⟩
        · omega
        · rw [hy] at hc
          injection hc with h3
          injection h3 with _ h4
          rw [← h4] at ht'; exact ht ht'
    refine ⟨?_, Nat.lt_of_lt_of_le hlt hg.size, hb⟩
    rcases hs with hs | ⟨hs, cs, t', hc, ht'⟩
    · exact .inl hs
    · exact .inr ⟨hs, cs, t', hb.trans hc, ht'⟩
  refine ⟨vss ++ ess, by simp [e1, he], ?_, fun j y us hy hu => ?_⟩
  · rw [List.length_append, List.flatten_append]
    exact hn
  · by_cases hj : j < l.length
    · rw [List.getElem?_append_left hj] at hy
      rw [List.getElem?_append_left (by omega)] at hu
      exact hk (e3 j y us hy hu)
    · rw [List.getElem?_append_right (by omega)] at hy
      rw [List.getElem?_append_right (by omega), e1] at hu
      exact hk (hx _ y us hy hu)
theorem reps_len {S : Nat → Prop} : ∀ (es : List α) (ess : List (List Value)), ess.length = es.length → (∀ (j : Nat) (x : α) (vs : List Value), es[j]? = some x → ess[j]? = some vs → K.rep S w x vs) → ess.flatten.length = es.length * K.k ∧ ∀ u ∈ ess.flatten, u.oneCell' = true
  | [], [], _, _ => by simp
  | [], _ :: _, h, _ => by simp at h
  | _ :: _, [], h, _ => by simp at h
  | x :: es, vs :: ess, h, hx => by
    obtain ⟨h1, h2⟩ := reps_len es ess (by simpa using h) (fun j x vs hj hv => hx (j + 1) x vs (by simpa using hj) (by simpa using hv))
    have h0 := hx 0 x vs rfl rfl
    refine ⟨?_, fun u hu => ?_⟩
    · rw [List.flatten_cons, List.length_append, h1, K.len h0, List.length_cons, Nat.add_mul]; omega
    · rw [List.flatten_cons] at hu
      rcases List.mem_append.1 hu with hu | hu
      · exact K.one h0 u hu
      · exact h2 u hu
theorem wpList_own_many {ops : Array Oper} {rest : List Oper} {o : Oper} {a : Act} {Q : Exit → Act → World → Prop} (hgd : o.guard = none) (s x : Operand)
    (ho : o.op = .call { callee := .builtin .append, args := #[s, x], argTypes := #[t2, t2] }) (hA : Apd P t2 t K.k bytes) (hk0 : 0 < K.k) (hs : a.eval s = v) (h : Own K t ts B0 B w v l)
    (es : List α) (ess : List (List Value)) (he : ess.length = es.length) (hl : l.length + es.length ≤ 4000000000) (hby : bytes ≤ 1000) (ad : Addr) (m c : Nat) (hm : m = es.length) (hx : a.eval x = .slice (some ad) m c)
    (hrep : ∀ (j : Nat) (x : α) (vs : List Value), es[j]? = some x → ess[j]? = some vs → K.rep (Ty ts B0 B w) w x vs) (hnews : ∀ j u, ess.flatten[j]? = some u → w.cell? (ad.add j) = some u)
    (ht : t ∉ ts) (hB0 : B0 ≤ B) (hB : B ≤ w.heap.size)
    (hk : ∀ v' w', Own K t ts B0 B w' v' (l ++ es) → w.grownBy w' v.ownBlock → wpList P ops Q rest (a.put o.dst v') w') : wpList P ops Q (o :: rest) a w := by
  subst hm
  obtain ⟨i, z, hi, hz, h1, h2, h3⟩ := hA.i
  obtain ⟨vss, e1, e2, e3⟩ := h
  obtain ⟨r1, r2⟩ := reps_len es ess he hrep
  refine wpList_append_own w hgd s x t2 ho B t i z K.k bytes hA.u hi hz h1 h2 h3 hk0 v l.length vss.flatten hs e2 ad es.length c ess.flatten hx r1 hnews r2 (by unfold maxLen; omega) ?_ hB fun v' w' hn hg _ => hk v' w' (Own.append es ess vss e1 e2 e3 he hrep ht hB0 hg hn) hg
  exact Nat.le_trans (Nat.mul_le_mul hl hby) (by decide)
/-- The cells of data, one behind the other. -/
theorem At.rows {S : Nat → Prop} {A : Option Addr} (h : At K S w A l) (hn : 0 < l.length) : ∃ (b off : Nat) (vss : List (List Value)), A = some ⟨b, off, none⟩ ∧ b < w.heap.size ∧ vss.length = l.length ∧ (∀ (j : Nat) (x : α) (vs : List Value), l[j]? = some x → vss[j]? = some vs → K.rep S w x vs) ∧ ∀ i u, vss.flatten[i]? = some u → w.cell? ⟨b, off + i, none⟩ = some u := by
  obtain ⟨b, off, e, -, hlt, hc⟩ := h hn
  obtain ⟨vss, h1, h2⟩ := list_choice (R := fun j x vs => K.rep S w x vs ∧ ∀ i u, vs[i]? = some u → w.cell? ⟨b, off + j * K.k + i, none⟩ = some u) l hc
  refine ⟨b, off, vss, e, hlt, h1, fun j x vs hj hv => (h2 j x vs hj hv).1, ?_⟩
  have key : ∀ (vss : List (List Value)) (q : Nat), (∀ j vs, vss[j]? = some vs → vs.length = K.k ∧ ∀ i u, vs[i]? = some u → w.cell? ⟨b, off + (q + j) * K.k + i, none⟩ = some u) → ∀ i u, vss.flatten[i]? = some u → w.cell? ⟨b, off + q * K.k + i, none⟩ = some u := by
    intro vss
    induction vss with
    | nil => intro q _ i u hu; simp at hu
    | cons vs vss ih =>
      intro q hall i u hu
      obtain ⟨k1, k2⟩ := hall 0 vs rfl
      rw [List.flatten_cons] at hu
      by_cases hi : i < vs.length
      · rw [List.getElem?_append_left hi] at hu
        have := k2 i u hu
        simpa using this
      · rw [List.getElem?_append_right (by omega)] at hu
        have := ih (q + 1) (fun j vs hj => by
          have := hall (j + 1) vs (by simpa using hj)
          rw [show q + (j + 1) = q + 1 + j from by omega] at this
          exact this) (i - vs.length) u hu
        rw [show off + (q + 1) * K.k + (i - vs.length) = off + q * K.k + i from by rw [k1, Nat.add_mul]; omega] at this
        exact this
  have := key vss 0 (fun j vs hj => by
    have hjl := (List.getElem?_eq_some_iff.1 hj).1
    have hx : l[j]? = some (l[j]'(by omega)) := List.getElem?_eq_getElem (by omega)
    obtain ⟨a1, a2⟩ := h2 j _ vs hx hj
    refine ⟨K.len a1, fun i u hu => ?_⟩
    rw [Nat.zero_add]; exact a2 i u hu)
  intro i u hu
  have h3 := this i u hu
  simpa using h3
/-- A row that was just laid. -/
theorem Own.lit {g : Nat} {cs : Array Value} (h : w.heap[g]? = some (.cells cs t (0, 0))) (es : List α) (ess : List (List Value)) (he : ess.length = es.length) (hc : cs.toList = ess.flatten) (hl : es.length ≤ 1000000)
    (hx : ∀ (j : Nat) (x : α) (vs : List Value), es[j]? = some x → ess[j]? = some vs → K.rep (Ty ts B0 B w) w x vs) (hB : B ≤ g) : Own K t ts B0 B w (.slice (some ⟨g, 0, none⟩) es.length es.length) es := by
  obtain ⟨r1, -⟩ := reps_len es ess he hx
  have hcs : cs.size = es.length * K.k := by rw [← Array.length_toList, hc, r1]
  refine ⟨ess, he, ⟨r1, .inr ⟨g, es.length, cs, rfl, hB, h, Nat.le_refl _, by unfold maxLen; omega, hcs, ?_⟩⟩, hx⟩
  rw [List.take_of_length_le (by rw [Array.length_toList]; omega)]; exact hc
theorem flatten_set {k : Nat} : ∀ (vss : List (List Value)), (∀ vs ∈ vss, vs.length = k) → ∀ (j i : Nat) (vs : List Value) (u : Value), vss[j]? = some vs → i < k → vss.flatten.set (j * k + i) u = (vss.set j (vs.set i u)).flatten
  | [], _, j, i, vs, u, h, _ => by simp at h
  | us :: vss, hk, 0, i, vs, u, h, hi => by
    have h1 := hk us (by simp)
    simp at h
    subst h
    simp only [List.flatten_cons, Nat.zero_mul, Nat.zero_add, List.set_cons_zero]
    exact List.set_append_left _ _ (by omega)
  | us :: vss, hk, j + 1, i, vs, u, h, hi => by
    have h1 := hk us (by simp)
    simp only [List.getElem?_cons_succ] at h
    have ih := flatten_set vss (fun vs hv => hk vs (by simp [hv])) j i vs u h hi
    rw [List.flatten_cons, List.set_append_right _ _ (by rw [h1, Nat.add_mul]; omega), show (j + 1) * k + i - us.length = j * k + i from by rw [h1, Nat.add_mul]; omega, ih]
    simp
/-- A cell of element k is written. -/
theorem Own.set {g n c k i : Nat} {x x' : α} {u : Value} (h : Own K t ts B0 B w (.slice (some ⟨g, 0, none⟩) n c) l) (hk : l[k]? = some x) (hi : i < K.k) (ht : t ∉ ts) (hB : B0 ≤ B)
    (hr : ∀ vs, K.rep (Ty ts B0 B w) w x vs → K.rep (Ty ts B0 B w) w x' (vs.set i u)) :
    Own K t ts B0 B (w.setCell ⟨g, k * K.k + i, none⟩ u) (.slice (some ⟨g, 0, none⟩) n c) (l.set k x') ∧ w.grownBy (w.setCell ⟨g, k * K.k + i, none⟩ u) (some g) := by
  obtain ⟨vss, e1, e2, e3⟩ := h
  have hkl := (List.getElem?_eq_some_iff.1 hk).1
  have hv : vss[k]? = some (vss[k]'(by omega)) := List.getElem?_eq_getElem (by omega)
  have hall : ∀ vs ∈ vss, vs.length = K.k := by
    intro vs hvm
    obtain ⟨j, hj⟩ := List.getElem?_of_mem hvm
    have hjl := (List.getElem?_eq_some_iff.1 hj).1
    exact K.len (e3 j _ vs (List.getElem?_eq_getElem (by omega)) hj)
  have hn : n = l.length := by
    rcases e2.2 with ⟨h1, _⟩ | ⟨g', cap, cur, h1, _⟩
    · simp at h1
    · injection h1
  subst hn
  obtain ⟨s1, s2⟩ := e2.stored (k * K.k + i) u
  obtain ⟨g', cap, cur, hgB, hgg⟩ : ∃ g' cap, ∃ cur : Array Value, B ≤ g ∧ w.heap[g]? = some (.cells cur t (0, 0)) := by
    rcases e2.2 with ⟨h1, _⟩ | ⟨g', cap, cur, h1, hB', hg', _⟩
    · simp at h1
    · injection h1 with h2 h3 h4
      injection h2 with h2
      injection h2 with h2
      subst h2
      exact ⟨g, cap, cur, hB', hg'⟩
  have hkk : ∀ {a : α} {us : List Value}, K.rep (Ty ts B0 B w) w a us → K.rep (Ty ts B0 B (w.setCell ⟨g, k * K.k + i, none⟩ u)) (w.setCell ⟨g, k * K.k + i, none⟩ u) a us := fun h => K.kept h fun b hs hlt => by
    have hb : (w.setCell ⟨g, k * K.k + i, none⟩ u).heap[b]? = w.heap[b]? := s2.block b hlt fun e => by
      injection e with e
      subst e
      rcases hs with hs | ⟨_, cs, t', hc, ht'⟩
      · omega
      · rw [hgg] at hc
        injection hc with h3
        injection h3 with _ h4
        rw [← h4] at ht'; exact ht ht'
    refine ⟨?_, Nat.lt_of_lt_of_le hlt s2.size, hb⟩
    rcases hs with hs | ⟨hs, cs, t', hc, ht'⟩
    · exact .inl hs
    · exact .inr ⟨hs, cs, t', hb.trans hc, ht'⟩
  refine ⟨⟨vss.set k ((vss[k]'(by omega)).set i u), by simp [e1], ?_, fun j y us hy hu => ?_⟩, s2⟩
  · rw [List.length_set, ← flatten_set vss hall k i _ u hv hi]
    exact s1
  · by_cases hj : k = j
    · subst hj
      rw [List.getElem?_set_self (by omega)] at hy
      rw [List.getElem?_set_self (by omega)] at hu
      obtain rfl := Option.some.inj hy
      obtain rfl := Option.some.inj hu
      exact hkk (hr _ (e3 k x _ hk hv))
    · rw [List.getElem?_set_ne hj] at hy hu
      exact hkk (e3 j y us hy hu)
end
theorem Own.any' {α : Type} {K : Kind α} {t : TypeId} {ts : List TypeId} {B0 B n c : Nat} {w : World} {A : Option Addr} {l : List α} (h : Own K t ts B0 B w (.slice A n c) l) : At K (· < w.heap.size) w A l := by
  obtain ⟨A', c', e, -, h2⟩ := h.any
  injection e with e
  subst e
  exact h2
end Go.Proofs.YthejgholpkeldaaGreatDoor

namespace Go.Proofs.YthejgholpkeldaaGreatDoor
open Go.RowKit
set_option maxRecDepth 100000

/-- The first index of a string, -1 if there is none. -/
def idxFrom (z : ByteArray) : List ByteArray → Int → Int
  | [], _ => -1
  | x :: r, i => if x.toList == z.toList then i else idxFrom z r (i + 1)
def idxS (z : ByteArray) (xs : List ByteArray) : Int := idxFrom z xs 0
theorem idxFrom_miss (z : ByteArray) : ∀ (l r : List ByteArray) (i : Int), (∀ x ∈ l, (x.toList == z.toList) = false) → idxFrom z (l ++ r) i = idxFrom z r (i + l.length)
  | [], r, i, _ => by simp
  | x :: l, r, i, h => by
    rw [List.cons_append, idxFrom, if_neg (by simp [h x (by simp)]), idxFrom_miss z l r (i + 1) (fun y hy => h y (by simp [hy]))]
    congr 1
    simp only [List.length_cons]
    omega
theorem idxS_hit {z x : ByteArray} {xs : List ByteArray} {j : Nat} (hx : xs[j]? = some x) (h0 : ∀ y ∈ xs.take j, (y.toList == z.toList) = false) (h : (x.toList == z.toList) = true) : idxS z xs = j := by
  have hjl := (List.getElem?_eq_some_iff.1 hx).1
  have he : xs = xs.take j ++ x :: xs.drop (j + 1) := by
    conv => lhs; rw [← List.take_append_drop j xs]
    rw [List.drop_eq_getElem_cons hjl]
    congr 2
    have := List.getElem?_eq_getElem hjl
    rw [hx] at this
    exact (Option.some.inj this).symm
  unfold idxS
  rw [he, idxFrom_miss z _ _ _ h0, idxFrom, if_pos h, List.length_take]
  omega
theorem idxS_none {z : ByteArray} {xs : List ByteArray} (h0 : ∀ y ∈ xs, (y.toList == z.toList) = false) : idxS z xs = -1 := by
  have := idxFrom_miss z xs [] 0 h0
  rw [List.append_nil] at this
  exact this
theorem take_miss {z x : ByteArray} {xs : List ByteArray} {j : Nat} (hx : xs[j]? = some x) (h0 : ∀ y ∈ xs.take j, (y.toList == z.toList) = false) (h : (x.toList == z.toList) = false) : ∀ y ∈ xs.take (j + 1), (y.toList == z.toList) = false := by
  intro y hy
  rw [List.take_add_one, hx] at hy
  rcases List.mem_append.1 hy with h1 | h1
  · exact h0 y h1
  · simp at h1; subst h1; exact h
-- <index>
set_option maxHeartbeats 2000000 in
theorem sindex_walk (A : Option Addr) (xs : List ByteArray) (c : Nat) (z : ByteArray) (w : World) (hn : xs.length ≤ 9223372036854775807) (h : At kStr AnyB w A xs) :
    Calls Tryz.prog 93 #[.slice A xs.length c, .string z] w fun e w' => e = .returned (.int .i64 (idxS z xs)) ∧ w = w' := by
  obtain ⟨n, hnn⟩ : ∃ n, xs.length = n := ⟨_, rfl⟩
  rw [hnn] at hn ⊢
  replace hnn := hide hnn
  go_enter Tryz.func93, Tryz.ntmps93
  go_wp2
  go_loop [5, 8] (fun _ i => ∃ j : Nat, j ≤ n ∧ i = .int .i64 j ∧ Hid (∀ y ∈ xs.take j, (y.toList == z.toList) = false)) (fun _ i => n - (intOf i).toNat)
  case atStart => exact ⟨0, Nat.zero_le _, rfl, hide (fun y hy => by simp at hy)⟩
  case round =>
    obtain ⟨j, hj, rfl, ho⟩ := hrel
    by_cases hlt : j < n
    · obtain ⟨x, hx⟩ : ∃ x, xs[j]? = some x := ⟨_, List.getElem?_eq_getElem (by rw [hnn.out]; exact hlt)⟩
      obtain ⟨b, off, rfl, -, hb, k0⟩ := h.str hx
      have hj0 : (0 : Int) ≤ (j : Int) := by omega
      have hj1 : (j : Int) < (n : Int) := by omega
      cases hq : (x.toList == z.toList) with
      | true =>
        have hq' : (z.toList == x.toList) = true := by rw [beq_iff_eq] at hq ⊢; exact hq.symm
        have hit := hide (idxS_hit hx ho.out hq)
        clear hx h ho
        go_wp2
        go_ret
        exact ⟨by rw [hit.out]; rfl, rfl⟩
      | false =>
        have hq' : (z.toList == x.toList) = false := by rw [beq_eq_false_iff_ne] at hq ⊢; exact fun e => hq e.symm
        have miss := hide (take_miss hx ho.out hq)
        clear hx h ho
        go_wp2
        go_round
        case rel => exact ⟨j + 1, by omega, by go_num, miss⟩
        case measure => simp [intOf]; omega
    · obtain rfl : j = n := by omega
      have hall : Hid (idxS z xs = -1) := hide (idxS_none fun y hy => ho.out y (by rw [← hnn.out, List.take_length]; exact hy))
      go_wp2
      go_ret
      exact ⟨by rw [hall.out]; rfl, rfl⟩
-- </index>
theorem scontains_walk (A : Option Addr) (xs : List ByteArray) (c : Nat) (z : ByteArray) (w : World) (hn : xs.length ≤ 9223372036854775807) (h : At kStr AnyB w A xs) :
    Calls Tryz.prog 67 #[.slice A xs.length c, .string z] w fun e w' => e = .returned (.bool (decide (0 ≤ idxS z xs))) ∧ w = w' := by
  go_enter Tryz.func67, Tryz.ntmps67
  go_wp2_with fail
  refine (sindex_walk A xs c z w hn h).mono ?_
  rintro e w' ⟨rfl, rfl⟩
  go_wp2
  go_ret
  exact ⟨rfl, rfl⟩
end Go.Proofs.YthejgholpkeldaaGreatDoor
