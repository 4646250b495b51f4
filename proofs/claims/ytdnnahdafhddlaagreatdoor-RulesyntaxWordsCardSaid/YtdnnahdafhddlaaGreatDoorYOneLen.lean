/- What the listed variables of law 14 give. No condition. Valid selections: the program's count of parts against the reference's depth, number of parts and fields (plain). No walk. Lecturers and times as kinds of data. No condition. Plain: a list says at most 64 codes. No condition. -/
import Derived.StillTailTactics
import Derived.Test.YtdnnahdafhddlaaGreatDoorYRrG
import Derived.Test.YtdnnahdafhddlaaGreatDoorYStaffB
import Derived.Test.YtdnnahdafhddlaaGreatDoorYListC
namespace Go.Proofs.YtdnnahdafhddlaaGreatDoor
open Go.ChangeShapes Go.WideShapes Go.ChangeAt Go.RowKit
set_option maxRecDepth 100000

theorem lvs_of {L : List (String × DataW Unit)} {W : World} (hL : laidMetH Tryz.prog L W) (hplain : (L.all fun x => x.2.handleName?.isNone) = true) (hw : (L.filter fun x => x.1 == "timetable/timetableref14.leaves") = [("timetable/timetableref14.leaves", Rows.laid_timetable_timetableref14_leaves)]) : Lvs W := by
  rw [MakeChecks.laidMetH_plain _ _ _ hplain] at hL
  have h := laidMet.filter (fun x => x.1 == "timetable/timetableref14.leaves") hL
  rw [hw] at h
  exact strs_of_head (zs := selWs) (rest := []) (g := 1) (t := 110) (e := 9) (n := 6) (by kernel_rfl) (by kernel_rfl) Tryz.underlying110 Tryz.underlying9 (by kernel_rfl) (by kernel_rfl) h
theorem nms_of {L : List (String × DataW Unit)} {W : World} (hL : laidMetH Tryz.prog L W) (hplain : (L.all fun x => x.2.handleName?.isNone) = true) (hw : (L.filter fun x => x.1 == "timetable/timetableref14.names") = [("timetable/timetableref14.names", Rows.laid_timetable_timetableref14_names)]) : Nms W := by
  rw [MakeChecks.laidMetH_plain _ _ _ hplain] at hL
  have h := laidMet.filter (fun x => x.1 == "timetable/timetableref14.names") hL
  rw [hw] at h
  exact strs_of_head (zs := kindWs) (rest := []) (g := 0) (t := 82) (e := 9) (n := 12) (by kernel_rfl) (by kernel_rfl) Tryz.underlying82 Tryz.underlying9 (by kernel_rfl) (by kernel_rfl) h
end Go.Proofs.YtdnnahdafhddlaaGreatDoor

namespace Go.Proofs.YtdnnahdafhddlaaGreatDoor
set_option maxRecDepth 100000

/-- What holds of a selection whose parts it holds of, holds of all. -/
theorem Sel.ind {P : Sel → Prop} (h : ∀ k n ks, (∀ s, s ∈ ks → P s) → P (.mk k n ks)) : ∀ s, P s
  | .mk k n ks => h k n ks fun s hs => by
    have : SizeOf.sizeOf s < SizeOf.sizeOf (Sel.mk k n ks) := by have := List.sizeOf_lt_of_mem hs; simp only [Sel.mk.sizeOf_spec]; omega
    exact Sel.ind h s
  termination_by s => SizeOf.sizeOf s
/-- One part behind the other, with a number that is handed on; it stops at the first that fails. -/
def eachS {α : Type} (g : α → Nat → Bool × Nat) : List α → Nat → Bool × Nat
  | [], p => (true, p)
  | s :: r, p => if (g s p).1 then eachS g r (g s p).2 else (false, (g s p).2)
theorem eachS_map {α β : Type} (g : β → Nat → Bool × Nat) (f : α → β) : ∀ (l : List α) (p : Nat), eachS g (l.map f) p = eachS (fun a => g (f a)) l p
  | [], _ => rfl
  | s :: r, p => by
    simp only [List.map_cons, eachS]
    rw [eachS_map g f r]
theorem eachS_attach (g : Sel → Nat → Bool × Nat) (l : List Sel) (p : Nat) : eachS (fun s : {x // x ∈ l} => g s.1) l.attach p = eachS g l p := by
  rw [← eachS_map g Subtype.val l.attach p, List.attach_map_subtype_val]
def sumS {α : Type} (g : α → Nat) : List α → Nat
  | [] => 0
  | s :: r => g s + sumS g r
def maxS {α : Type} (g : α → Nat) : List α → Nat
  | [] => 0
  | s :: r => max (g s) (maxS g r)
theorem sumS_map {α β : Type} (g : β → Nat) (f : α → β) : ∀ (l : List α), sumS g (l.map f) = sumS (fun a => g (f a)) l
  | [] => rfl
  | s :: r => by simp only [List.map_cons, sumS]; rw [sumS_map g f r]
theorem maxS_map {α β : Type} (g : β → Nat) (f : α → β) : ∀ (l : List α), maxS g (l.map f) = maxS (fun a => g (f a)) l
  | [] => rfl
  | s :: r => by simp only [List.map_cons, maxS]; rw [maxS_map g f r]
theorem sumS_attach (g : Sel → Nat) (l : List Sel) : sumS (fun s : {x // x ∈ l} => g s.1) l.attach = sumS g l := by
  rw [← sumS_map g Subtype.val l.attach, List.attach_map_subtype_val]
theorem maxS_attach (g : Sel → Nat) (l : List Sel) : maxS (fun s : {x // x ∈ l} => g s.1) l.attach = maxS g l := by
  rw [← maxS_map g Subtype.val l.attach, List.attach_map_subtype_val]
theorem kid_lt {s : Sel} {k : Int} {n : ByteArray} {ks : List Sel} (h : s ∈ ks) : SizeOf.sizeOf s < SizeOf.sizeOf (Sel.mk k n ks) := by
  have := List.sizeOf_lt_of_mem h
  simp only [Sel.mk.sizeOf_spec]
  omega
def selSize : Sel → Nat
  | .mk _ _ ks => 1 + sumS (fun s : {x // x ∈ ks} => selSize s.1) ks.attach
  termination_by s => SizeOf.sizeOf s
  decreasing_by exact kid_lt s.2
def selDepth : Sel → Nat
  | .mk _ _ ks => 1 + maxS (fun s : {x // x ∈ ks} => selDepth s.1) ks.attach
  termination_by s => SizeOf.sizeOf s
  decreasing_by exact kid_lt s.2
theorem selSize_mk (k : Int) (n : ByteArray) (ks : List Sel) : selSize (.mk k n ks) = 1 + sumS selSize ks := by rw [selSize, sumS_attach selSize]
theorem selDepth_mk (k : Int) (n : ByteArray) (ks : List Sel) : selDepth (.mk k n ks) = 1 + maxS selDepth ks := by rw [selDepth, maxS_attach selDepth]
def namedK (k : Int) : Bool := decide (2 ≤ k) && decide (k ≤ 7)
/-- The fields of one part are right. -/
def fieldsS (ok : ByteArray → Bool) (k : Int) (n : ByteArray) (c : Nat) : Bool :=
  decide (1 ≤ k) && decide (k ≤ 10) && (namedK k == decide (n.size ≠ 0)) && (!namedK k || ok n) && (if k = 8 ∨ k = 9 then decide (2 ≤ c) else if k = 10 then decide (c = 1) else decide (c = 0))
def soundS (ok : ByteArray → Bool) : Sel → Bool
  | .mk k n ks => ks.attach.all (fun s : {x // x ∈ ks} => soundS ok s.1) && fieldsS ok k n ks.length
  termination_by s => SizeOf.sizeOf s
  decreasing_by exact kid_lt s.2
theorem all_attach (g : Sel → Bool) (l : List Sel) : l.attach.all (fun s : {x // x ∈ l} => g s.1) = l.all g := by
  have h : (l.attach.map Subtype.val).all g = l.attach.all (fun s : {x // x ∈ l} => g s.1) := by rw [List.all_map]; rfl
  rw [← h, List.attach_map_subtype_val]
theorem soundS_mk (ok : ByteArray → Bool) (k : Int) (n : ByteArray) (ks : List Sel) : soundS ok (.mk k n ks) = (ks.all (soundS ok) && fieldsS ok k n ks.length) := by rw [soundS, all_attach (soundS ok)]
/-- The program's check: what is left of the depth, the parts that were met; whether the selection is valid, and the parts that are met then. -/
def validN (ok : ByteArray → Bool) : Sel → Int → Nat → Bool × Nat
  | .mk k n ks, d, p =>
    if d < 1 ∨ 64 < p + 1 ∨ fieldsS ok k n ks.length = false then (false, p + 1) else eachS (fun (s : {x // x ∈ ks}) q => validN ok s.1 (d - 1) q) ks.attach (p + 1)
  termination_by s => SizeOf.sizeOf s
  decreasing_by exact kid_lt s.2
def kidsN (ok : ByteArray → Bool) (l : List Sel) (d : Int) (p : Nat) : Bool × Nat := eachS (fun s q => validN ok s d q) l p
theorem validN_mk (ok : ByteArray → Bool) (k : Int) (n : ByteArray) (ks : List Sel) (d : Int) (p : Nat) : validN ok (.mk k n ks) d p = if d < 1 ∨ 64 < p + 1 ∨ fieldsS ok k n ks.length = false then (false, p + 1) else kidsN ok ks (d - 1) (p + 1) := by
  rw [validN]
  unfold kidsN
  rw [eachS_attach (fun s q => validN ok s (d - 1) q)]
theorem kidsN_nil (ok : ByteArray → Bool) (d : Int) (p : Nat) : kidsN ok [] d p = (true, p) := rfl
theorem kidsN_cons (ok : ByteArray → Bool) (s : Sel) (r : List Sel) (d : Int) (p : Nat) : kidsN ok (s :: r) d p = if (validN ok s d p).1 then kidsN ok r d (validN ok s d p).2 else (false, (validN ok s d p).2) := rfl
theorem selSize_pos (s : Sel) : 1 ≤ selSize s := by cases s; rw [selSize_mk]; omega
/-- What the program's check says. -/
def Says (ok : ByteArray → Bool) (s : Sel) : Prop := ∀ (d : Int) (p : Nat), (validN ok s d p).1 = (soundS ok s && decide ((selDepth s : Int) ≤ d) && decide (p + selSize s ≤ 64)) ∧ ((validN ok s d p).1 = true → (validN ok s d p).2 = p + selSize s)
theorem kidsN_says (ok : ByteArray → Bool) : ∀ (l : List Sel), (∀ s, s ∈ l → Says ok s) → ∀ (d : Int) (p : Nat), 0 ≤ d → p ≤ 64 → ((kidsN ok l d p).1 = (l.all (soundS ok) && decide ((maxS selDepth l : Int) ≤ d) && decide (p + sumS selSize l ≤ 64))) ∧ ((kidsN ok l d p).1 = true → (kidsN ok l d p).2 = p + sumS selSize l)
  | [], _, d, p, hd, hp => by
    rw [kidsN_nil]
    simp [maxS, sumS, hd, hp]
  | s :: r, h, d, p, hd, hp => by
    obtain ⟨hs1, hs2⟩ := h s (by simp) d p
    rw [kidsN_cons]
    show _ = ((soundS ok s && r.all (soundS ok)) && decide ((max (selDepth s) (maxS selDepth r) : Nat) ≤ d) && decide (p + (selSize s + sumS selSize r) ≤ 64)) ∧ (_ → _ = p + (selSize s + sumS selSize r))
    cases hv : (validN ok s d p).1 with
    | false =>
      simp only [Bool.false_eq_true, if_false]
      refine ⟨?_, fun e => by cases e⟩
      symm
      rw [hv] at hs1
      have hs1 := hs1.symm
      simp only [Bool.and_eq_false_iff, decide_eq_false_iff_not] at hs1 ⊢
      rcases hs1 with (h | h) | h
      · exact .inl (.inl (.inl h))
      · exact .inl (.inr (by omega))
      · exact .inr (by omega)
    | true =>
      simp only [if_true]
      have e2 := hs2 hv
      rw [hv] at hs1
      have hs1 := hs1.symm
      simp only [Bool.and_eq_true, decide_eq_true_iff] at hs1
      obtain ⟨⟨q1, q2⟩, q3⟩ := hs1
      obtain ⟨hk1, hk2⟩ := kidsN_says ok r (fun x hx => h x (by simp [hx])) d (p + selSize s) hd q3
      rw [e2]
      refine ⟨?_, fun e => by rw [hk2 e]; omega⟩
      rw [hk1, q1, Bool.true_and]
      congr 1
      · congr 1
        exact decide_eq_decide.2 (by omega)
      · exact decide_eq_decide.2 (by omega)
theorem validN_says (ok : ByteArray → Bool) : ∀ s, Says ok s := by
  refine Sel.ind fun k n ks ih d p => ?_
  rw [validN_mk, soundS_mk, selDepth_mk, selSize_mk]
  by_cases h : d < 1 ∨ 64 < p + 1 ∨ fieldsS ok k n ks.length = false
  · rw [if_pos h]
    refine ⟨?_, fun e => by cases e⟩
    symm
    simp only [Bool.and_eq_false_iff, decide_eq_false_iff_not]
    rcases h with h | h | h
    · exact .inl (.inr (by omega))
    · exact .inr (by omega)
    · exact .inl (.inl (.inr h))
  · rw [if_neg h]
    have h1 : ¬ d < 1 := fun e => h (.inl e)
    have h2 : ¬ 64 < p + 1 := fun e => h (.inr (.inl e))
    have h3 : fieldsS ok k n ks.length = true := by
      cases hf : fieldsS ok k n ks.length with
      | true => rfl
      | false => exact absurd (.inr (.inr hf)) h
    rw [h3, Bool.and_true]
    obtain ⟨hk1, hk2⟩ := kidsN_says ok ks ih (d - 1) (p + 1) (by omega) (by omega)
    refine ⟨?_, fun e => by rw [hk2 e]; omega⟩
    rw [hk1]
    congr 1
    · congr 1
      exact decide_eq_decide.2 (by omega)
    · exact decide_eq_decide.2 (by omega)
/-! The reference's depth and number of parts, which stop early. -/
def deepS {α : Type} (g : α → Nat) : List α → Nat → Nat
  | [], n => n
  | s :: r, n => deepS g r (max n (g s))
def restS {α : Type} (g : α → Nat) : List α → Nat → Nat
  | [], n => n
  | s :: r, n => if n ≤ 1000 then restS g r (n + g s) else n
theorem deepS_map {α β : Type} (g : β → Nat) (f : α → β) : ∀ (l : List α) (n : Nat), deepS g (l.map f) n = deepS (fun a => g (f a)) l n
  | [], _ => rfl
  | s :: r, n => by simp only [List.map_cons, deepS]; rw [deepS_map g f r]
theorem restS_map {α β : Type} (g : β → Nat) (f : α → β) : ∀ (l : List α) (n : Nat), restS g (l.map f) n = restS (fun a => g (f a)) l n
  | [], _ => rfl
  | s :: r, n => by simp only [List.map_cons, restS]; rw [restS_map g f r]
def depthR : Sel → Nat → Nat
  | .mk _ _ ks, m => if m ≤ 1 then m else deepS (fun s : {x // x ∈ ks} => depthR s.1 (m - 1)) ks.attach 0 + 1
  termination_by s => SizeOf.sizeOf s
  decreasing_by exact kid_lt s.2
def partsR : Sel → Nat
  | .mk _ _ ks => restS (fun s : {x // x ∈ ks} => partsR s.1) ks.attach 1
  termination_by s => SizeOf.sizeOf s
  decreasing_by exact kid_lt s.2
theorem depthR_mk (k : Int) (n : ByteArray) (ks : List Sel) (m : Nat) : depthR (.mk k n ks) m = if m ≤ 1 then m else deepS (fun s => depthR s (m - 1)) ks 0 + 1 := by
  rw [depthR, ← deepS_map (fun s => depthR s (m - 1)) Subtype.val ks.attach 0, List.attach_map_subtype_val]
theorem partsR_mk (k : Int) (n : ByteArray) (ks : List Sel) : partsR (.mk k n ks) = restS partsR ks 1 := by
  rw [partsR, ← restS_map partsR Subtype.val ks.attach 1, List.attach_map_subtype_val]
theorem deepS_eq (m : Nat) : ∀ (l : List Sel), (∀ s, s ∈ l → depthR s m = min (selDepth s) m) → ∀ n, n ≤ m → deepS (fun s => depthR s m) l n = min (max n (maxS selDepth l)) m
  | [], _, n, hn => by show n = min (max n 0) m; omega
  | s :: r, h, n, hn => by
    show deepS (fun s => depthR s m) r (max n (depthR s m)) = min (max n (max (selDepth s) (maxS selDepth r))) m
    rw [h s (by simp), deepS_eq m r (fun x hx => h x (by simp [hx])) _ (by omega)]
    omega
theorem depthR_eq : ∀ (s : Sel) (m : Nat), depthR s m = min (selDepth s) m := by
  refine Sel.ind fun k n ks ih m => ?_
  rw [depthR_mk, selDepth_mk]
  split
  · omega
  · rw [deepS_eq (m - 1) ks (fun s hs => ih s hs _) 0 (by omega)]; omega
/-- What is said of a number of parts that stops early. -/
def Early (a b : Nat) : Prop := a ≤ b ∧ 1 ≤ a ∧ (b ≤ 1000 → a = b) ∧ (1000 < b → 1000 < a)
theorem restS_eq : ∀ (l : List Sel), (∀ s, s ∈ l → Early (partsR s) (selSize s)) → ∀ n, 1 ≤ n → Early (restS partsR l n) (n + sumS selSize l)
  | [], _, n, hn => by show Early n (n + 0); unfold Early; omega
  | s :: r, h, n, hn => by
    obtain ⟨h1, h2, h3, h4⟩ := h s (by simp)
    obtain ⟨q1, q2, q3, q4⟩ := restS_eq r (fun x hx => h x (by simp [hx])) (n + partsR s) (by omega)
    show Early (if n ≤ 1000 then restS partsR r (n + partsR s) else n) (n + (selSize s + sumS selSize r))
    have hp := selSize_pos s
    unfold Early
    split <;> omega
theorem partsR_eq : ∀ s : Sel, Early (partsR s) (selSize s) := by
  refine Sel.ind fun k n ks ih => ?_
  rw [partsR_mk, selSize_mk]
  exact restS_eq ks ih 1 (Nat.le_refl _)
/-- Both checks of a selection say the same. -/
theorem selOk_same (ok : ByteArray → Bool) (s : Sel) : (validN ok s 8 0).1 = (decide (depthR s 101 ≤ 8) && decide (partsR s ≤ 64) && soundS ok s) := by
  rw [(validN_says ok s 8 0).1, depthR_eq]
  obtain ⟨h1, h2, h3, h4⟩ := partsR_eq s
  rw [Bool.and_comm (soundS ok s), Bool.and_assoc, Bool.and_comm (soundS ok s), ← Bool.and_assoc]
  congr 1
  congr 1
  · exact decide_eq_decide.2 (by omega)
  · exact decide_eq_decide.2 (by omega)
end Go.Proofs.YtdnnahdafhddlaaGreatDoor

namespace Go.Proofs.YtdnnahdafhddlaaGreatDoor
open Go.RowKit
set_option maxRecDepth 100000

def kTime : Kind T4 := kPair kInt (kPair kInt (kPair kInt kInt))
theorem rep_time {S : Nat → Prop} {w : World} {t : T4} {vs : List Value} (h : kTime.rep S w t vs) : vs = encT t := by
  obtain ⟨us1, ts1, rfl, h1, us2, ts2, rfl, h2, us3, ts3, rfl, h3, h4⟩ := h
  rw [rep_int] at h1 h2 h3 h4
  subst h1 h2 h3 h4
  rfl
theorem cells_of_at {B : Nat} {w : World} {A : Option Addr} {ts : List T4} (h : At kTime (· < B) w A ts) : CellsAt B w A 4 ts.length fun k => encT (ts.getD k (0, 0, 0, 0)) := by
  intro hn
  obtain ⟨b, off, e, hb, hlt, hc⟩ := h hn
  refine ⟨b, off, e, hb, fun j hj i u hu => ?_⟩
  have hx : ts[j]? = some (ts.getD j (0, 0, 0, 0)) := by rw [List.getD_eq_getElem?_getD, List.getElem?_eq_getElem hj]; rfl
  obtain ⟨vs, hr, hcell⟩ := hc j _ hx
  rw [rep_time hr] at hcell
  exact hcell i u hu
end Go.Proofs.YtdnnahdafhddlaaGreatDoor

namespace Go.Proofs.YtdnnahdafhddlaaGreatDoor
open Go.RowKit
set_option maxRecDepth 100000

theorem listF_len64 : ∀ (ps out : List ByteArray), out.length ≤ 64 → (listF out ps).2.length ≤ 64
  | [], out, h => by
    rw [listF]
    split
    · exact h
    · exact Nat.zero_le _
  | p :: ps, out, h => by
    by_cases h1 : (partV p (64 - out.length)).1 ≠ 0
    · rw [listF_err h1]; exact Nat.zero_le _
    · obtain ⟨more, hm⟩ : ∃ more, partV p (64 - out.length) = (0, more) := ⟨_, Prod.ext (by omega) rfl⟩
      rw [listF_ok hm]
      by_cases h2 : 64 < (out ++ more).length
      · rw [if_pos h2]; exact Nat.zero_le _
      · rw [if_neg h2]; exact listF_len64 ps _ (by omega)
theorem listV_len64 (s : ByteArray) : (listV s).2.length ≤ 64 := by
  unfold listV
  split
  · exact Nat.zero_le _
  · exact listF_len64 _ _ (Nat.zero_le _)
end Go.Proofs.YtdnnahdafhddlaaGreatDoor
