/- Rows of their own, on: what they point to is written; several elements are appended. No condition. Walks of slices.Index and Contains at strings, and timetableref08.place. Conditions: the cells. -/
import Derived.Lib.PathFns
import Derived.Test.YtdnnahdafhddlaaGreatDoorYSameL
namespace Go.Proofs.YtdnnahdafhddlaaGreatDoor
open Go.RowKit
set_option maxRecDepth 100000

section
variable {w : World} {B B0 : Nat} {t t1 : TypeId} {ts : List TypeId} {v : Value} {xs : List (List ByteArray)}
end
section
variable {α : Type} {P : Program} {K : Kind α} {t2 t : TypeId} {ts : List TypeId} {B0 B bytes : Nat} {w w' : World} {v v' : Value} {l : List α}
/-- Several elements are appended. -/
theorem Own.append (es : List α) (ess : List (List Value)) (vss : List (List Value)) (e1 : vss.length = l.length) (e2 : w.ownsRow B t K.k v l.length vss.flatten)
    (e3 : ∀ (j : Nat) (x : α) (vs : List Value), l[j]? = some x → vss[j]? = some vs → K.rep (Ty ts B0 B w) w x vs) (he : ess.length = es.length) (hx : ∀ (j : Nat) (x : α) (vs : List Value), es[j]? = some x → ess[j]? = some vs → K.rep (Ty ts B0 B w) w x vs) (ht : t ∉ ts) (hB : B0 ≤ B) (hg : w.grownBy w' v.ownBlock)
    (hn : w'.ownsRow B t K.k v' (l.length + es.length) (vss.flatten ++ ess.flatten)) : Own K t ts B0 B w' v' (l ++ es) := by
  have hk : ∀ {a : α} {us : List Value}, K.rep (Ty ts B0 B w) w a us → K.rep (Ty ts B0 B w') w' a us := fun h => K.kept h fun b hs hlt => by
    have hb : w'.heap[b]? = w.heap[b]? := hg.block b hlt fun e => by
      rcases e2.2 with ⟨rfl, _⟩ | ⟨y, cap', cur', rfl, hy0, hy, _⟩
      · simp [Value.ownBlock] at e
      · have : b = y := by simpa [Value.ownBlock] using e
        subst this
        rcases hs with hs | ⟨_, cs, t', hc, ht'⟩
        · omega
        · rw [hy] at hc
          injection hc with h3
          injection h3 with _ h4
          rw [← h4] at ht'; exact ht ht'
    refine ⟨?_, Nat.lt_of_lt_of_le hlt hg.size, hb⟩
    rcases hs with hs | ⟨hs, cs, t', hc, ht'⟩
    · exact .inl hs
    · exact .inr ⟨hs, cs, t', hb.trans hc, ht'⟩
  refine ⟨vss ++ ess, by simp [e1, he], ?_, fun j y us hy hu => ?_⟩
  · rw [List.length_append, List.flatten_append]
    exact hn
  · by_cases hj : j < l.length
    · rw [List.getElem?_append_left hj] at hy
      rw [List.getElem?_append_left (by omega)] at hu
      exact hk (e3 j y us hy hu)
    · rw [List.getElem?_append_right (by omega)] at hy
      rw [List.getElem?_append_right (by omega), e1] at hu
      exact hk (hx _ y us hy hu)
theorem reps_len {S : Nat → Prop} : ∀ (es : List α) (ess : List (List Value)), ess.length = es.length → (∀ (j : Nat) (x : α) (vs : List Value), es[j]? = some x → ess[j]? = some vs → K.rep S w x vs) → ess.flatten.length = es.length * K.k ∧ ∀ u ∈ ess.flatten, u.oneCell' = true
  | [], [], _, _ => by simp
  | [], _ :: _, h, _ => by simp at h
  | _ :: _, [], h, _ => by simp at h
  | x :: es, vs :: ess, h, hx => by
    obtain ⟨h1, h2⟩ := reps_len es ess (by simpa using h) (fun j x vs hj hv => hx (j + 1) x vs (by simpa using hj) (by simpa using hv))
    have h0 := hx 0 x vs rfl rfl
    refine ⟨?_, fun u hu => ?_⟩
    · rw [List.flatten_cons, List.length_append, h1, K.len h0, List.length_cons, Nat.add_mul]; omega
    · rw [List.flatten_cons] at hu
      rcases List.mem_append.1 hu with hu | hu
      · exact K.one h0 u hu
      · exact h2 u hu
theorem wpList_own_many {ops : Array Oper} {rest : List Oper} {o : Oper} {a : Act} {Q : Exit → Act → World → Prop} (hgd : o.guard = none) (s x : Operand)
    (ho : o.op = .call { callee := .builtin .append, args := #[s, x], argTypes := #[t2, t2] }) (hA : Apd P t2 t K.k bytes) (hk0 : 0 < K.k) (hs : a.eval s = v) (h : Own K t ts B0 B w v l)
    (es : List α) (ess : List (List Value)) (he : ess.length = es.length) (hl : l.length + es.length ≤ 4000000000) (hby : bytes ≤ 1000) (ad : Addr) (m c : Nat) (hm : m = es.length) (hx : a.eval x = .slice (some ad) m c)
    (hrep : ∀ (j : Nat) (x : α) (vs : List Value), es[j]? = some x → ess[j]? = some vs → K.rep (Ty ts B0 B w) w x vs) (hnews : ∀ j u, ess.flatten[j]? = some u → w.cell? (ad.add j) = some u)
    (ht : t ∉ ts) (hB0 : B0 ≤ B) (hB : B ≤ w.heap.size)
    (hk : ∀ v' w', Own K t ts B0 B w' v' (l ++ es) → w.grownBy w' v.ownBlock → wpList P ops Q rest (a.put o.dst v') w') : wpList P ops Q (o :: rest) a w := by
  subst hm
  obtain ⟨i, z, hi, hz, h1, h2, h3⟩ := hA.i
  obtain ⟨vss, e1, e2, e3⟩ := h
  obtain ⟨r1, r2⟩ := reps_len es ess he hrep
  refine wpList_append_own w hgd s x t2 ho B t i z K.k bytes hA.u hi hz h1 h2 h3 hk0 v l.length vss.flatten hs e2 ad es.length c ess.flatten hx r1 hnews r2 (by unfold maxLen; omega) ?_ hB fun v' w' hn hg _ => hk v' w' (Own.append es ess vss e1 e2 e3 he hrep ht hB0 hg hn) hg
  exact Nat.le_trans (Nat.mul_le_mul hl hby) (by decide)
end
theorem Own.any' {α : Type} {K : Kind α} {t : TypeId} {ts : List TypeId} {B0 B n c : Nat} {w : World} {A : Option Addr} {l : List α} (h : Own K t ts B0 B w (.slice A n c) l) : At K (· < w.heap.size) w A l := by
  obtain ⟨A', c', e, -, h2⟩ := h.any
  injection e with e
  subst e
  exact h2
end Go.Proofs.YtdnnahdafhddlaaGreatDoor

namespace Go.Proofs.YtdnnahdafhddlaaGreatDoor
open Go.RowKit
set_option maxRecDepth 100000

/-- The first index of a string, -1 if there is none. -/
def idxFrom (z : ByteArray) : List ByteArray → Int → Int
  | [], _ => -1
  | x :: r, i => if x.toList == z.toList then i else idxFrom z r (i + 1)
def idxS (z : ByteArray) (xs : List ByteArray) : Int := idxFrom z xs 0
theorem idxFrom_miss (z : ByteArray) : ∀ (l r : List ByteArray) (i : Int), (∀ x ∈ l, (x.toList == z.toList) = false) → idxFrom z (l ++ r) i = idxFrom z r (i + l.length)
  | [], r, i, _ => by simp
  | x :: l, r, i, h => by
    rw [List.cons_append, idxFrom, if_neg (by simp [h x (by simp)]), idxFrom_miss z l r (i + 1) (fun y hy => h y (by simp [hy]))]
    congr 1
    simp only [List.length_cons]
    omega
theorem idxS_hit {z x : ByteArray} {xs : List ByteArray} {j : Nat} (hx : xs[j]? = some x) (h0 : ∀ y ∈ xs.take j, (y.toList == z.toList) = false) (h : (x.toList == z.toList) = true) : idxS z xs = j := by
  have hjl := (List.getElem?_eq_some_iff.1 hx).1
  have he : xs = xs.take j ++ x :: xs.drop (j + 1) := by
    conv => lhs; rw [← List.take_append_drop j xs]
    rw [List.drop_eq_getElem_cons hjl]
    congr 2
    have := List.getElem?_eq_getElem hjl
    rw [hx] at this
    exact (Option.some.inj this).symm
  unfold idxS
  rw [he, idxFrom_miss z _ _ _ h0, idxFrom, if_pos h, List.length_take]
  omega
theorem idxS_none {z : ByteArray} {xs : List ByteArray} (h0 : ∀ y ∈ xs, (y.toList == z.toList) = false) : idxS z xs = -1 := by
  have := idxFrom_miss z xs [] 0 h0
  rw [List.append_nil] at this
  exact this
theorem take_miss {z x : ByteArray} {xs : List ByteArray} {j : Nat} (hx : xs[j]? = some x) (h0 : ∀ y ∈ xs.take j, (y.toList == z.toList) = false) (h : (x.toList == z.toList) = false) : ∀ y ∈ xs.take (j + 1), (y.toList == z.toList) = false := by
  intro y hy
  rw [List.take_add_one, hx] at hy
  rcases List.mem_append.1 hy with h1 | h1
  · exact h0 y h1
  · simp at h1; subst h1; exact h
-- <index>
set_option maxHeartbeats 2000000 in
theorem sindex_walk (A : Option Addr) (xs : List ByteArray) (c : Nat) (z : ByteArray) (w : World) (hn : xs.length ≤ 9223372036854775807) (h : At kStr AnyB w A xs) :
    Calls Tryz.prog 115 #[.slice A xs.length c, .string z] w fun e w' => e = .returned (.int .i64 (idxS z xs)) ∧ w = w' := by
  obtain ⟨n, hnn⟩ : ∃ n, xs.length = n := ⟨_, rfl⟩
  rw [hnn] at hn ⊢
  replace hnn := hide hnn
  go_enter Tryz.func115, Tryz.ntmps115
  go_wp2
  go_loop [5, 8] (fun _ i => ∃ j : Nat, j ≤ n ∧ i = .int .i64 j ∧ Hid (∀ y ∈ xs.take j, (y.toList == z.toList) = false)) (fun _ i => n - (intOf i).toNat)
  case atStart => exact ⟨0, Nat.zero_le _, rfl, hide (fun y hy => by simp at hy)⟩
  case round =>
    obtain ⟨j, hj, rfl, ho⟩ := hrel
    by_cases hlt : j < n
    · obtain ⟨x, hx⟩ : ∃ x, xs[j]? = some x := ⟨_, List.getElem?_eq_getElem (by rw [hnn.out]; exact hlt)⟩
      obtain ⟨b, off, rfl, -, hb, k0⟩ := h.str hx
      have hj0 : (0 : Int) ≤ (j : Int) := by omega
      have hj1 : (j : Int) < (n : Int) := by omega
      cases hq : (x.toList == z.toList) with
      | true =>
        have hq' : (z.toList == x.toList) = true := by rw [beq_iff_eq] at hq ⊢; exact hq.symm
        have hit := hide (idxS_hit hx ho.out hq)
        clear hx h ho
        go_wp2
        go_ret
        exact ⟨by rw [hit.out]; rfl, rfl⟩
      | false =>
        have hq' : (z.toList == x.toList) = false := by rw [beq_eq_false_iff_ne] at hq ⊢; exact fun e => hq e.symm
        have miss := hide (take_miss hx ho.out hq)
        clear hx h ho
        go_wp2
        go_round
        case rel => exact ⟨j + 1, by omega, by go_num, miss⟩
        case measure => simp [intOf]; omega
    · obtain rfl : j = n := by omega
      have hall : Hid (idxS z xs = -1) := hide (idxS_none fun y hy => ho.out y (by rw [← hnn.out, List.take_length]; exact hy))
      go_wp2
      go_ret
      exact ⟨by rw [hall.out]; rfl, rfl⟩
-- </index>
theorem scontains_walk (A : Option Addr) (xs : List ByteArray) (c : Nat) (z : ByteArray) (w : World) (hn : xs.length ≤ 9223372036854775807) (h : At kStr AnyB w A xs) :
    Calls Tryz.prog 70 #[.slice A xs.length c, .string z] w fun e w' => e = .returned (.bool (decide (0 ≤ idxS z xs))) ∧ w = w' := by
  go_enter Tryz.func70, Tryz.ntmps70
  go_wp2_with fail
  refine (sindex_walk A xs c z w hn h).mono ?_
  rintro e w' ⟨rfl, rfl⟩
  go_wp2
  go_ret
  exact ⟨rfl, rfl⟩
end Go.Proofs.YtdnnahdafhddlaaGreatDoor
