/- Lecturers and times as kinds of data. No condition. Walks of Dice.Times and Dice.Staff: what is made, told by bounds. Conditions: the dice's cells; the variable people. Walk of Dice.Staff: lecturers that are made, told by bounds. Conditions: the dice's cells; the variable people. Walk of Dice.OddStaff. Conditions: the dice's cells; the lecturers in memory of their own. -/
import Derived.Test.YtonpfohhedcjbaaGreatDoorKVars
import Derived.Test.YtonpfohhedcjbaaGreatDoorKValC
import Derived.Test.YtonpfohhedcjbaaGreatDoorKSameL
import Derived.Test.YtonpfohhedcjbaaGreatDoorKWriteT
import Derived.Test.YtonpfohhedcjbaaGreatDoorKSpoilB
import Derived.Test.YtonpfohhedcjbaaGreatDoorKIdxS
import Derived.Laws.AppendOwnNone
namespace Go.Proofs.YtonpfohhedcjbaaGreatDoor
open Go.RowKit
set_option maxRecDepth 100000

def kTime : Kind T4 := kPair kInt (kPair kInt (kPair kInt kInt))
def kLect : Kind Lect := kPair kStr (kSlice kTime)
theorem rep_time {S : Nat → Prop} {w : World} {t : T4} {vs : List Value} (h : kTime.rep S w t vs) : vs = encT t := by
  obtain ⟨us1, ts1, rfl, h1, us2, ts2, rfl, h2, us3, ts3, rfl, h3, h4⟩ := h
  rw [rep_int] at h1 h2 h3 h4
  subst h1 h2 h3 h4
  rfl
theorem cells_of_at {B : Nat} {w : World} {A : Option Addr} {ts : List T4} (h : At kTime (· < B) w A ts) : CellsAt B w A 4 ts.length fun k => encT (ts.getD k (0, 0, 0, 0)) := by
  intro hn
  obtain ⟨b, off, e, hb, hlt, hc⟩ := h hn
  refine ⟨b, off, e, hb, fun j hj i u hu => ?_⟩
  have hx : ts[j]? = some (ts.getD j (0, 0, 0, 0)) := by rw [List.getD_eq_getElem?_getD, List.getElem?_eq_getElem hj]; rfl
  obtain ⟨vs, hr, hcell⟩ := hc j _ hx
  rw [rep_time hr] at hcell
  exact hcell i u hu
theorem lects_of_at {B : Nat} {w : World} {A : Option Addr} {ls : List Lect} (h : At kLect (· < B) w A ls) : LectsAt B w A ls := by
  intro hn
  obtain ⟨b, off, e, hb, hlt, hc⟩ := h hn
  refine ⟨b, off, e, hb, fun j l hl => ?_⟩
  obtain ⟨vs, ⟨us, ts, rfl, h1, T, c, rfl, -, hT⟩, hcell⟩ := hc j l hl
  rw [rep_str] at h1
  subst h1
  exact ⟨T, c, hcell 0 _ rfl, hcell 1 _ rfl, cells_of_at hT⟩
theorem opens_time (G : Good) : Opens G Tryz.prog 232 kTime fun _ => True ∧ True ∧ True ∧ True := by
  have h := opensF_cons (G := G) (P := Tryz.prog) (f := ⟨"Weeks", 3, 0, false, "", "", 0⟩) (o := 0) rfl (opens_int Tryz.underlying3 (by kernel_rfl)) (opensF_cons (f := ⟨"Day", 3, 1, false, "", "", 8⟩) rfl (opens_int Tryz.underlying3 (by kernel_rfl)) (opensF_cons (f := ⟨"Start", 3, 2, false, "", "", 16⟩) rfl (opens_int Tryz.underlying3 (by kernel_rfl)) (opensF_one (f := ⟨"Length", 3, 3, false, "", "", 24⟩) rfl (opens_int Tryz.underlying3 (by kernel_rfl)))))
  exact opens_struct Tryz.underlying232 (by kernel_rfl) h
theorem opens_times (G : Good) : Opens G Tryz.prog 65 (kSlice kTime) fun l => G.len l.length ∧ l.length ≤ maxLen ∧ ∀ x ∈ l, True ∧ True ∧ True ∧ True :=
  opens_slice Tryz.underlying65 (by kernel_rfl) (by decide) (opens_time G)
theorem opens_lect (G : Good) : Opens G Tryz.prog 67 kLect fun l => (G.str l.1 ∧ l.1.size ≤ maxLen) ∧ G.len l.2.length ∧ l.2.length ≤ maxLen ∧ ∀ x ∈ l.2, True ∧ True ∧ True ∧ True := by
  have h := opensF_cons (G := G) (P := Tryz.prog) (f := ⟨"Code", 9, 0, false, "", "", 0⟩) (o := 0) rfl (opens_str Tryz.underlying9 (by kernel_rfl)) (opensF_one (f := ⟨"Away", 65, 1, false, "", "", 16⟩) rfl (opens_times G))
  exact opens_struct Tryz.underlying67 (by kernel_rfl) h
theorem opens_lects (G : Good) : Opens G Tryz.prog 64 (kSlice kLect) fun ls => G.len ls.length ∧ ls.length ≤ maxLen ∧ ∀ l ∈ ls, (G.str l.1 ∧ l.1.size ≤ maxLen) ∧ G.len l.2.length ∧ l.2.length ≤ maxLen ∧ ∀ x ∈ l.2, True ∧ True ∧ True ∧ True :=
  opens_slice Tryz.underlying64 (by kernel_rfl) (by decide) (opens_lect G)
end Go.Proofs.YtonpfohhedcjbaaGreatDoor

namespace Go.Proofs.YtonpfohhedcjbaaGreatDoor
open Go.RowKit
set_option maxRecDepth 100000

theorem apd_times : Apd Tryz.prog 65 232 4 32 := apd Tryz.underlying65 (z := .agg #[.int .i64 0, .int .i64 0, .int .i64 0, .int .i64 0]) (by kernel_rfl) rfl
theorem apd_lects : Apd Tryz.prog 64 67 2 40 := apd Tryz.underlying64 (z := .agg #[.string ⟨#[]⟩, .slice none 0 0]) (by kernel_rfl) rfl
theorem rep_of_time {S : Nat → Prop} {w : World} (x1 x2 x3 x4 : Int) : kTime.rep S w (x1, x2, x3, x4) [.int .i64 x1, .int .i64 x2, .int .i64 x3, .int .i64 x4] :=
  ⟨[_], [_, _, _], rfl, rfl, [_], [_, _], rfl, rfl, [_], [_], rfl, rfl, rfl⟩
/-- A row grown, or new memory: the dice stay. -/
theorem Thrown.grown {B : Nat} {a b c : World} {g : Nat} {v : Value} (h : Thrown B a g b) (hg : b.grownBy c v.ownBlock) (hv : ∀ y, v.ownBlock = some y → a.heap.size ≤ y) : Thrown B a g c :=
  h.far (Below.grown (Below.refl a.heap.size b) hg h.size hv)
/-- Times that were made. -/
def TimesMade (N : Nat) (d s : Int) (most : Nat) (ts : List T4) : Prop := ts.length ≤ most ∧ ∀ t ∈ ts, TimeB N d s t.1 t.2.1 t.2.2.1 t.2.2.2
def DTimes (B N : Nat) (d s : Int) (most : Nat) (w : World) (g : Nat) (e : Ending) (w' : World) : Prop :=
  ∃ v ts, e = .returned v ∧ TimesMade N d s most ts ∧ Own kTime 232 [] 0 w.heap.size w' v ts ∧ Thrown B w g w'
def DTLoop (B N : Nat) (d s b m : Int) (most : Nat) (w1 : World) (g gb : Nat) (v i : Value) (wr : World) : Prop :=
  ∃ (k : Nat) (ts : List T4), i = .int .i64 k ∧ ts.length + k ≤ most ∧ (∀ t ∈ ts, TimeB N d s t.1 t.2.1 t.2.2.1 t.2.2.2) ∧ Own kTime 232 [] 0 w1.heap.size wr v ts ∧ Thrown B w1 g wr ∧ Box4 wr gb (.int .i64 d) (.int .i64 s) (.int .i64 b) (.int .i64 m)
end Go.Proofs.YtonpfohhedcjbaaGreatDoor

namespace Go.Proofs.YtonpfohhedcjbaaGreatDoor
open Go.RowKit
set_option maxRecDepth 100000

def peopleL : List ByteArray := [⟨#[97, 100, 97]⟩, ⟨#[98, 111, 98]⟩, ⟨#[99, 121]⟩]
/-- Lecturers that were made. -/
def StaffMade (N : Nat) (d s : Int) (ls : List Lect) : Prop := ls.length ≤ 3 ∧ ∀ (j : Nat) (l : Lect), ls[j]? = some l → peopleL[j]? = some l.1 ∧ TimesMade N d s 2 l.2
theorem Own.thrown {α : Type} {K : Kind α} {t : TypeId} {ts : List TypeId} {B B0 C g : Nat} {w w' : World} {v : Value} {l : List α} (h : Own K t ts B0 C w v l) (T : Thrown B w g w') (hg : g < C) (hB : B0 ≤ g) : Own K t ts B0 C w' v l :=
  h.kept T.only (by
    cases hv : v.ownBlock with
    | none => exact .inl rfl
    | some y => exact .inr fun e => by injection e with e; have := (h.lt y hv).1; omega) (fun y hy => by injection hy with hy; subst hy; exact ⟨hB, fun h => by have := h.1; omega⟩)
section
variable {B : Nat} {w1 V V' : World} {g gb pb po pc q : Nat} {z : ByteArray} {d s b m : Int} {u : Value} {ls : List Lect}
end
def DStaff (B N : Nat) (d s : Int) (w : World) (g : Nat) (e : Ending) (w' : World) : Prop :=
  ∃ v ls, e = .returned v ∧ StaffMade N d s ls ∧ Own kLect 67 [232] 0 w.heap.size w' v ls ∧ Thrown B w g w'
end Go.Proofs.YtonpfohhedcjbaaGreatDoor

namespace Go.Proofs.YtonpfohhedcjbaaGreatDoor
open Go.RowKit
set_option maxRecDepth 100000

section
variable {α : Type} {P : Program} {K : Kind α} {t2 t : TypeId} {ts : List TypeId} {B0 B bytes : Nat} {w : World} {v : Value} {l : List α}
/-- A copy of a row. -/
theorem wpList_own_copy {ops : Array Oper} {rest : List Oper} {o : Oper} {a : Act} {Q : Exit → Act → World → Prop} (hgd : o.guard = none) (s x : Operand)
    (ho : o.op = .call { callee := .builtin .append, args := #[s, x], argTypes := #[t2, t2] }) (hA : Apd P t2 t K.k bytes) (hk0 : 0 < K.k) (hs : a.eval s = .slice none 0 0) (hx : a.eval x = v) (h : Own K t ts B0 B w v l)
    (hl : l.length ≤ 4000000000) (hby : bytes ≤ 1000) (hB : B ≤ w.heap.size)
    (hk : ∀ v' w', Own K t ts B0 B w' v' l → (∀ y, v'.ownBlock = some y → w.heap.size ≤ y) → w.grownBy w' none → wpList P ops Q rest (a.put o.dst v') w') : wpList P ops Q (o :: rest) a w := by
  obtain ⟨i, z, hi, hz, i1, i2, i3⟩ := hA.i
  obtain ⟨vss, e1, e2, e3⟩ := h
  obtain ⟨r1, r2⟩ := reps_len l vss e1 e3
  rcases e2.2 with ⟨rfl, h0⟩ | ⟨g, cap, cur, rfl, -, hg, -⟩
  · obtain rfl := List.eq_nil_of_length_eq_zero h0
    exact wpList_append_own_none hgd s x t2 ho w.heap.size t i K.k hA.u hi (.slice none 0 0) 0 [] hs (World.ownsRow_nil _ _ _ _) hx (hk _ w Own.nil (fun y e => by simp [Value.ownBlock] at e) (World.grownBy.refl _ _))
  · refine wpList_append_own w hgd s x t2 ho w.heap.size t i z K.k bytes hA.u hi hz i1 i2 i3 hk0 (.slice none 0 0) 0 [] hs (World.ownsRow_nil _ _ _ _) ⟨g, 0, none⟩ l.length cap vss.flatten hx r1 (e2.cells rfl) r2 (by unfold maxLen; omega) ?_ (Nat.le_refl _) fun v' w' hn hgr _ => hk v' w' ⟨vss, e1, owns_lower (by simpa using hn) hB, fun j x vs hj hv => K.kept (e3 j x vs hj hv) fun b hs hlt => ?_⟩ (fun y hy => (World.ownsRow.lt hn y hy).1) hgr
    · exact Nat.le_trans (Nat.mul_le_mul (by omega : 0 + l.length ≤ 4000000000) hby) (by decide)
    · have hb : w'.heap[b]? = w.heap[b]? := hgr.block b hlt (by simp [Value.ownBlock])
      refine ⟨?_, Nat.lt_of_lt_of_le hlt hgr.size, hb⟩
      rcases hs with hs | ⟨hs, cs, t', hc, ht'⟩
      · exact .inl hs
      · exact .inr ⟨hs, cs, t', hb.trans hc, ht'⟩
end
theorem Kind.tyLater {α : Type} (K : Kind α) {ts : List TypeId} {B0 B : Nat} {w w' : World} {a : α} {vs : List Value} (h : K.rep (Ty ts B0 B w) w a vs) (hb : Below w.heap.size w w') : K.rep (Ty ts B0 B w') w' a vs :=
  K.kept h fun b hs hlt => ⟨by
    rcases hs with hs | ⟨hs, cs, t, hc, ht⟩
    · exact .inl hs
    · exact .inr ⟨hs, cs, t, (hb.block b hlt).trans hc, ht⟩, Nat.lt_of_lt_of_le hlt hb.size, hb.block b hlt⟩
theorem Own.lect_at {t : TypeId} {ts : List TypeId} {B0 B n c k : Nat} {w : World} {A : Option Addr} {ls : List Lect} {l : Lect} (h : Own kLect t ts B0 B w (.slice A n c) ls) (hk : ls[k]? = some l) :
    ∃ g T cT, A = some ⟨g, 0, none⟩ ∧ B ≤ g ∧ g < w.heap.size ∧ w.cell? ⟨g, k * 2, none⟩ = some (.string l.1) ∧ w.cell? ⟨g, k * 2 + 1, none⟩ = some (.slice T l.2.length cT) ∧ l.2.length ≤ cT ∧ (∀ j, w.frozen? ⟨g, j, none⟩ = false) ∧ (kSlice kTime).rep (Ty ts B0 B w) w l.2 [.slice T l.2.length cT] := by
  obtain ⟨vss, e1, e2, e3⟩ := h
  have hkl := (List.getElem?_eq_some_iff.1 hk).1
  have hv : vss[k]? = some (vss[k]'(by omega)) := List.getElem?_eq_getElem (by omega)
  have hr := e3 k l _ hk hv
  obtain ⟨us, ts', hvs, h1, T, cT, rfl, h2, h3⟩ := hr
  rw [rep_str] at h1
  subst h1
  have hall : ∀ vs ∈ vss, vs.length = 2 := by
    intro vs hvm
    obtain ⟨j, hj⟩ := List.getElem?_of_mem hvm
    have hjl := (List.getElem?_eq_some_iff.1 hj).1
    exact kLect.len (e3 j _ vs (List.getElem?_eq_getElem (by omega)) hj)
  rcases e2.2 with ⟨h4, h0⟩ | ⟨g, cap, cur, h4, hB, hg, _, _, _, htake⟩
  · injection h4; omega
  · injection h4 with h4 h5 h6
    subst h4
    have c0 := e2.cells (g := g) rfl (k * 2 + 0) (.string l.1) ((flatten_at vss hall k 0 _ hv (by omega)).trans (by rw [hvs]; rfl))
    have c1 := e2.cells (g := g) rfl (k * 2 + 1) (.slice T l.2.length cT) ((flatten_at vss hall k 1 _ hv (by omega)).trans (by rw [hvs]; rfl))
    rw [show (⟨g, 0, none⟩ : Addr).add (k * 2 + 0) = ⟨g, k * 2, none⟩ from by rw [Addr.add_lit]; simp] at c0
    rw [show (⟨g, 0, none⟩ : Addr).add (k * 2 + 1) = ⟨g, k * 2 + 1, none⟩ from by rw [Addr.add_lit]; simp] at c1
    exact ⟨g, T, cT, rfl, hB, blk_lt hg, c0, c1, h2, fun j => by simp [World.frozen?, hg], T, cT, rfl, h2, h3⟩
def DOdd (B C : Nat) (w : World) (g : Nat) (e : Ending) (w' : World) : Prop :=
  ∃ v ls', e = .returned v ∧ ls'.length ≤ 5 ∧ (∀ l ∈ ls', l.2.length ≤ 5) ∧ Own kLect 67 [232] 0 C w' v ls' ∧ Thrown B w g w'
end Go.Proofs.YtonpfohhedcjbaaGreatDoor
