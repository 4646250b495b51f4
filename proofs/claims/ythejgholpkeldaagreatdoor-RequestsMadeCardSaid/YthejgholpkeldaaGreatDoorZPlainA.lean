/- Walks of slices.IndexFunc, slices.ContainsFunc at lecturers and at times, and of stafffile.has, fields.Apart. No condition. Walk of the closure of stafffile.Lines: one lecturer is read. Conditions: the scanner's cells are as Scan says; texts shorter than 2^30 bytes. Walk of fields.Read at lecturers. Conditions: texts shorter than 2^30 bytes. Walk of timetableref02.Plain: records out of lists of texts. Conditions: at most 1000 fields a record, texts shorter than 2^30 bytes. Walks of stafffile.Lines, stafffile.Read, and the check at the head of law 09. Conditions: texts shorter than 2^30 bytes. Records that were laid out of plain lists: their texts are those of the lists. No condition. -/
import Derived.Test.YthejgholpkeldaaGreatDoorRows
import Derived.WalkKit
import Derived.WalkSpells
import Derived.WalkLawsBesides
import Derived.BigGuardPart
import Derived.Lib.Hide
import Derived.Laws.BitsAllLaws
import Derived.Laws.BitsLemmas
import Derived.Lib.LaidTab
import Derived.Test.YthejgholpkeldaaGreatDoorShelf
import Derived.Lib.ConvBytes
import Derived.Deep.QuietTactic
import Derived.BigQuiet
import Derived.Laws.ResultCell
import Derived.RegionTactic
import Derived.BigRegion
import Derived.Deep.RegionHeld3
import Derived.Deep.DeepCutAuto
import Derived.Lib.SmallJoins
import Derived.Lib.SplitLaws
import Derived.Lib.CountLaws
import Derived.Lib.IndexMore
import Derived.Lib.Split
import Derived.Lib.Join
import Derived.Lib.ItoaNum
import Derived.Laws.AppendOwn
import Derived.Test.YthejgholpkeldaaGreatDoorZTwo
import Derived.Test.YthejgholpkeldaaGreatDoorZFieldsC
import Derived.Deep.AppendLies
import Derived.Test.YthejgholpkeldaaGreatDoorZSameL
namespace Go.Proofs.YthejgholpkeldaaGreatDoor
open Go.RowKit
set_option maxRecDepth 100000

/-- The cells of a row of n elements of k cells, in blocks below B. -/
def CellsAt (B : Nat) (w : World) (A : Option Addr) (k n : Nat) (X : Nat → List Value) : Prop :=
  0 < n → ∃ b off, A = some ⟨b, off, none⟩ ∧ b < B ∧ ∀ j, j < n → ∀ i u, (X j)[i]? = some u → w.cell? ⟨b, off + j * k + i, none⟩ = some u
theorem CellsAt.below {B k n : Nat} {w w' : World} {A : Option Addr} {X : Nat → List Value} (h : CellsAt B w A k n X) (hb : Below B w w') : CellsAt B w' A k n X := by
  intro hn
  obtain ⟨b, off, e, h1, hc⟩ := h hn
  exact ⟨b, off, e, h1, fun j hj i u hu => (hb.cell (p := ⟨b, off + j * k + i, none⟩) h1).trans (hc j hj i u hu)⟩
end Go.Proofs.YthejgholpkeldaaGreatDoor

namespace Go.Proofs.YthejgholpkeldaaGreatDoor
open Go.RowKit
set_option maxRecDepth 100000

def pr1 (line : Int) (fs : List Fld) : Option Prob := if codeB (textAt fs 0) then none else some (line, colAt fs 1, 10)
theorem scan_set {w : World} {g x j : Nat} {line : Int} {F : Option Addr} {m c k : Nat} {pr : Option Prob} {z : ByteArray} {u : Value} (h : Scan w g line F m c k pr) (hx : w.cell? ⟨x, 0, none⟩ = some (.string z)) (hne : x ≠ g) : Scan (w.setCell ⟨x, j, none⟩ u) g line F m c k pr := by
  obtain ⟨v, hg, hp⟩ := h
  refine ⟨v, (Below.heap_setCell w ⟨x, j, none⟩ u g (fun e => hne e.symm)).trans hg, ?_⟩
  cases pr with
  | none => exact hp
  | some p =>
    obtain ⟨y, e, hy⟩ := hp
    refine ⟨y, e, hy.of_block (Below.heap_setCell w ⟨x, j, none⟩ u y (fun e2 => ?_))⟩
    have e3 : y = x := e2
    subst e3
    rw [cell_of_row w y 0 _ _ _ hy] at hx
    simp at hx
theorem owns_set {w : World} {B x j n k : Nat} {e : TypeId} {v u : Value} {xs : List Value} (h : w.ownsRow B e k v n xs) (hx : v.ownBlock ≠ some x) : (w.setCell ⟨x, j, none⟩ u).ownsRow B e k v n xs :=
  h.kept (only_setCell (g := x) (World.grownBy.refl _ _) (Or.inl rfl) u) (.inr hx)
end Go.Proofs.YthejgholpkeldaaGreatDoor

namespace Go.Proofs.YthejgholpkeldaaGreatDoor
open Go.RowKit
set_option maxRecDepth 100000

/-- A record: its line, its fields. -/
abbrev Rec := Int × List Fld
/-- A lecturer: the code, the times. -/
abbrev Lect := ByteArray × List T4
/-- Records, in blocks below B. -/
def RecsAt (B : Nat) (w : World) (A : Option Addr) (rs : List Rec) : Prop :=
  0 < rs.length → ∃ b off, A = some ⟨b, off, none⟩ ∧ b < B ∧ ∀ j r, rs[j]? = some r → ∃ F c, w.cell? ⟨b, off + j * 2, none⟩ = some (.int .i64 r.1) ∧ w.cell? ⟨b, off + j * 2 + 1, none⟩ = some (.slice F r.2.length c) ∧ FieldsAt B w F r.2
theorem RecsAt.below {B : Nat} {w w' : World} {A : Option Addr} {rs : List Rec} (h : RecsAt B w A rs) (hb : Below B w w') : RecsAt B w' A rs := by
  intro hn
  obtain ⟨b, off, e, h1, hc⟩ := h hn
  refine ⟨b, off, e, h1, fun j r hr => ?_⟩
  obtain ⟨F, c, c0, c1, hF⟩ := hc j r hr
  exact ⟨F, c, (hb.cell (p := ⟨b, off + j * 2, none⟩) h1).trans c0, (hb.cell (p := ⟨b, off + j * 2 + 1, none⟩) h1).trans c1, hF.below hb⟩
theorem infoProb : (Tryz.prog.info? 102).map (fun i => (i.zero, i.size, i.bytes)) = some (some (.agg #[.int .i64 0, .int .i64 0, .int .i64 0, .int .i64 0]), 4, 32) := by kernel_rfl
def encP (p : Prob) : List Value := [.int .i64 0, .int .i64 p.1, .int .i64 p.2.1, .int .i64 p.2.2]
/-- Problems, in memory of their own. -/
def ProbsOwn (B : Nat) (w : World) (v : Value) (ps : List Prob) : Prop := w.ownsRow B 102 4 v ps.length (ps.flatMap encP)
/-- Two rows of other element types lie in other blocks. -/
theorem own_ne {w : World} {B C n m s t : Nat} {e f : TypeId} {v u : Value} {xs ys : List Value} (h : w.ownsRow B e s v n xs) (h' : w.ownsRow C f t u m ys) (hne : e ≠ f) : v.ownBlock = none ∨ v.ownBlock ≠ u.ownBlock := by
  rcases h.2 with ⟨rfl, _⟩ | ⟨g, cap, cur, rfl, _, hg, _⟩
  · exact .inl rfl
  · refine .inr fun e2 => ?_
    rcases h'.2 with ⟨rfl, _⟩ | ⟨g', cap', cur', rfl, _, hg', _⟩
    · simp [Value.ownBlock] at e2
    · have : g = g' := by simpa [Value.ownBlock] using e2
      subst this
      rw [hg] at hg'
      injection hg' with h1
      injection h1 with _ h2
      exact hne h2
/-- What the reading of records has gathered. -/
structure RS where
  ls : List Lect
  lines : List Int
  ps : List Prob
theorem noted_none {pr : Option Prob} {b : Bool} {p : Prob} (h : noted pr b p = none) : pr = none ∧ b = false := by
  cases pr with
  | some q => cases h
  | none => cases b with
    | true => cases h
    | false => exact ⟨rfl, rfl⟩
theorem owns_scan {w w' : World} {B g k n : Nat} {e : TypeId} {v : Value} {xs : List Value} {line : Int} {F : Option Addr} {m c j : Nat} {pr : Option Prob} (h : w.ownsRow B e k v n xs) (hs : Scan w g line F m c j pr) (hne : e ≠ 129) (ho : Only g w w') : w'.ownsRow B e k v n xs := by
  refine h.kept ho ?_
  rcases h.2 with ⟨rfl, _⟩ | ⟨y, cap, cur, rfl, _, hg, _⟩
  · exact .inl rfl
  · refine .inr fun e2 => ?_
    have e3 : y = g := by simpa [Value.ownBlock] using e2
    subst e3
    obtain ⟨u, hgg, _⟩ := hs
    rw [hg] at hgg
    injection hgg with h1
    injection h1 with _ h2
    exact hne h2
theorem one_prob (p : Prob) : ∀ u ∈ encP p, u.oneCell' = true := by
  intro u hu; simp [encP] at hu; rcases hu with rfl | rfl | rfl | rfl <;> rfl
theorem flatP_snoc (ps : List Prob) (p : Prob) : (ps ++ [p]).flatMap encP = ps.flatMap encP ++ encP p := by simp
theorem new_prob (w : World) (a b c : Int) (t : TypeId) : ∀ (j : Nat) (u : Value), (encP (a, b, c))[j]? = some u → (w.alloc (.cells #[.int .i64 0, .int .i64 a, .int .i64 b, .int .i64 c] t)).cell? ((⟨w.heap.size, 0, none⟩ : Addr).add j) = some u :=
  new_four w 0 a b c t
theorem new_prob2 (w : World) (o : Obj) (a b c : Int) (t : TypeId) : ∀ (j : Nat) (u : Value), (encP (a, b, c))[j]? = some u → ((w.alloc o).alloc (.cells #[.int .i64 0, .int .i64 a, .int .i64 b, .int .i64 c] t)).cell? ((⟨w.heap.size + 1, 0, none⟩ : Addr).add j) = some u := by
  have := new_prob (w.alloc o) a b c t
  rw [World.size_alloc] at this
  exact this
theorem scan_some {w : World} {g : Nat} {line : Int} {F : Option Addr} {m c k : Nat} {p : Prob} (h : Scan w g line F m c k (some p)) :
    ∃ h, w.cell? ⟨g, 3, none⟩ = some (.pointer (some ⟨h, 0, none⟩)) ∧ w.cell? ⟨h, 0, none⟩ = some (.int .i64 0) ∧ w.cell? ⟨h, 1, none⟩ = some (.int .i64 p.1) ∧ w.cell? ⟨h, 2, none⟩ = some (.int .i64 p.2.1) ∧ w.cell? ⟨h, 3, none⟩ = some (.int .i64 p.2.2) := by
  obtain ⟨v, hg, x, rfl, hx⟩ := h
  obtain ⟨-, -, -, c3, -⟩ := scan_cells hg
  obtain ⟨p0, p1, p2, p3, -⟩ := scan_cells hx
  exact ⟨x, c3, p0, p1, p2, p3⟩
theorem scan_none {w : World} {g : Nat} {line : Int} {F : Option Addr} {m c k : Nat} (h : Scan w g line F m c k none) : w.cell? ⟨g, 3, none⟩ = some (.pointer none) := by
  obtain ⟨v, hg, rfl⟩ := h
  exact (scan_cells hg).2.2.2.1
section
variable {w0 : World} {u6 v6 u7 v7 u8 vt : Value} {st : RS} {t0 : ByteArray} {ts : List T4} {xb rc : Nat} {line : Int} {W W' : World}
end
end Go.Proofs.YthejgholpkeldaaGreatDoor

namespace Go.Proofs.YthejgholpkeldaaGreatDoor
open Go.RowKit
set_option maxRecDepth 100000

/-- A slice of strings that came in, in blocks below B. -/
def StrsIn (B : Nat) (w : World) (A : Option Addr) (zs : List ByteArray) : Prop :=
  0 < zs.length → ∃ b off, A = some ⟨b, off, none⟩ ∧ b < B ∧ ∀ j z, zs[j]? = some z → w.cell? ⟨b, off + j, none⟩ = some (.string z)
/-- A slice of slices of strings. -/
def ListsIn (B : Nat) (w : World) (A : Option Addr) (xs : List (List ByteArray)) : Prop :=
  0 < xs.length → ∃ b off, A = some ⟨b, off, none⟩ ∧ b < B ∧ ∀ j x, xs[j]? = some x → ∃ F c, w.cell? ⟨b, off + j, none⟩ = some (.slice F x.length c) ∧ StrsIn B w F x
theorem StrsIn.below {B : Nat} {w w' : World} {A : Option Addr} {zs : List ByteArray} (h : StrsIn B w A zs) (hb : Below B w w') : StrsIn B w' A zs := by
  intro hn
  obtain ⟨b, off, e, h1, hc⟩ := h hn
  exact ⟨b, off, e, h1, fun j z hz => (hb.cell (p := ⟨b, off + j, none⟩) h1).trans (hc j z hz)⟩
theorem ListsIn.below {B : Nat} {w w' : World} {A : Option Addr} {xs : List (List ByteArray)} (h : ListsIn B w A xs) (hb : Below B w w') : ListsIn B w' A xs := by
  intro hn
  obtain ⟨b, off, e, h1, hc⟩ := h hn
  exact ⟨b, off, e, h1, fun j x hx => by obtain ⟨F, c, h2, h3⟩ := hc j x hx; exact ⟨F, c, (hb.cell (p := ⟨b, off + j, none⟩) h1).trans h2, h3.below hb⟩⟩
theorem infoField : (Tryz.prog.info? 80).map (fun i => (i.zero, i.size, i.bytes)) = some (some (.agg #[.string ⟨#[]⟩, .int .i64 0, .bool false]), 3, 32) := by kernel_rfl
theorem infoRec : (Tryz.prog.info? 75).map (fun i => (i.zero, i.size, i.bytes)) = some (some (.agg #[.int .i64 0, .slice none 0 0]), 2, 32) := by kernel_rfl
def encF (f : Fld) : List Value := [.string f.1, .int .i64 f.2.1, .bool f.2.2]
/-- Fields, in memory of their own. -/
def FldsOwn (B : Nat) (w : World) (v : Value) (fs : List Fld) : Prop := w.ownsRow B 80 3 v fs.length (fs.flatMap encF)
def recCells (rs : List Rec) (us : List Value) : List Value := (List.zip rs us).flatMap fun x => [Value.int .i64 x.1.1, x.2]
/-- Records, in memory of their own. -/
def RecsOwn (B : Nat) (w : World) (v : Value) (rs : List Rec) : Prop :=
  ∃ us : List Value, us.length = rs.length ∧ w.ownsRow B 75 2 v rs.length (recCells rs us) ∧ ∀ (j : Nat) (r : Rec) (u : Value), rs[j]? = some r → us[j]? = some u → FldsOwn B w u r.2
/-- The fields of texts, from a column on. -/
def plainF (col : Int) : List ByteArray → List Fld
  | [] => []
  | t :: r => (t, col, false) :: plainF (col + (t.size + 1)) r
def colTo (col : Int) : List ByteArray → Int
  | [] => col
  | t :: r => colTo (col + (t.size + 1)) r
def plainR (n : Int) : List (List ByteArray) → List Rec
  | [] => []
  | x :: r => (n, plainF 1 x) :: plainR (n + 1) r
theorem plainF_snoc (z : ByteArray) : ∀ (l : List ByteArray) (col : Int), plainF col (l ++ [z]) = plainF col l ++ [(z, colTo col l, false)]
  | [], col => rfl
  | t :: r, col => by simp only [List.cons_append, plainF, colTo]; rw [plainF_snoc z r]
theorem colTo_snoc (z : ByteArray) : ∀ (l : List ByteArray) (col : Int), colTo col (l ++ [z]) = colTo col l + (z.size + 1)
  | [], col => rfl
  | t :: r, col => by simp only [List.cons_append, colTo]; rw [colTo_snoc z r]
theorem plainF_len : ∀ (l : List ByteArray) (col : Int), (plainF col l).length = l.length
  | [], col => rfl
  | t :: r, col => by simp only [plainF, List.length_cons]; rw [plainF_len r]
theorem plainR_snoc (x : List ByteArray) : ∀ (l : List (List ByteArray)) (n : Int), plainR n (l ++ [x]) = plainR n l ++ [(n + l.length, plainF 1 x)]
  | [], n => by simp [plainR]
  | t :: r, n => by
    simp only [List.cons_append, plainR]
    rw [plainR_snoc x r]
    simp only [List.length_cons]
    rw [show n + 1 + (r.length : Int) = n + ((r.length + 1 : Nat) : Int) from by omega]
theorem plainR_len : ∀ (l : List (List ByteArray)) (n : Int), (plainR n l).length = l.length
  | [], n => rfl
  | t :: r, n => by simp only [plainR, List.length_cons]; rw [plainR_len r]
theorem colTo_bd {S : Nat} : ∀ (l : List ByteArray) (col : Int), (∀ z ∈ l, z.size ≤ S) → col ≤ colTo col l ∧ colTo col l ≤ col + l.length * (S + 1)
  | [], col, _ => by simp [colTo]
  | t :: r, col, h => by
    have h1 := colTo_bd (S := S) r (col + (t.size + 1)) (fun z hz => h z (by simp [hz]))
    have h2 := h t (by simp)
    simp only [colTo, List.length_cons]
    have e : ((r.length + 1 : Nat) : Int) * ((S : Int) + 1) = (r.length : Int) * ((S : Int) + 1) + ((S : Int) + 1) := by rw [Int.natCast_add, Int.add_mul]; simp
    rw [e]
    omega
theorem flatF_snoc (fs : List Fld) (f : Fld) : (fs ++ [f]).flatMap encF = fs.flatMap encF ++ encF f := by simp
theorem recCells_snoc (rs : List Rec) (us : List Value) (h : us.length = rs.length) (r : Rec) (u : Value) : recCells (rs ++ [r]) (us ++ [u]) = recCells rs us ++ [.int .i64 r.1, u] := by
  unfold recCells
  rw [List.zip_append h.symm]
  simp
theorem FldsOwn.alloc {B : Nat} {w : World} {v : Value} {fs : List Fld} (h : FldsOwn B w v fs) (o : Obj) : FldsOwn B (w.alloc o) v fs := World.ownsRow.alloc h o
theorem FldsOwn.drew {B : Nat} {w : World} {v : Value} {fs : List Fld} (h : FldsOwn B w v fs) : FldsOwn B w.drew v fs := owns_later h (ext_drew (Below.refl _ _))
/-- The three cells that the region of Plain loads. -/
abbrev PS (xb b o1 b2 o2 : Nat) (u1 u2 u3 : Value) (W : World) : Prop := W.cell? ⟨xb, 1, none⟩ = some u1 ∧ W.cell? ⟨b, o1, none⟩ = some u2 ∧ W.cell? ⟨b2, o2, none⟩ = some u3
theorem PS.alloc {xb b o1 b2 o2 : Nat} {u1 u2 u3 : Value} {W : World} (h : PS xb b o1 b2 o2 u1 u2 u3 W) (o : Obj) : PS xb b o1 b2 o2 u1 u2 u3 (W.alloc o) := ⟨cell_alloc_of h.1 o, cell_alloc_of h.2.1 o, cell_alloc_of h.2.2 o⟩
theorem PS.drew {xb b o1 b2 o2 : Nat} {u1 u2 u3 : Value} {W : World} (h : PS xb b o1 b2 o2 u1 u2 u3 W) : PS xb b o1 b2 o2 u1 u2 u3 W.drew := h
theorem PS.grown {xb b o1 b2 o2 : Nat} {u1 u2 u3 v : Value} {W W' : World} (h : PS xb b o1 b2 o2 u1 u2 u3 W) (h1 : some xb ≠ v.ownBlock) (h2 : some b ≠ v.ownBlock) (h3 : some b2 ≠ v.ownBlock) (hg : W.grownBy W' v.ownBlock) : PS xb b o1 b2 o2 u1 u2 u3 W' :=
  ⟨hg.cell h.1 h1, hg.cell h.2.1 h2, hg.cell h.2.2 h3⟩
theorem own_ne_blk {w : World} {B g n k : Nat} {e t : TypeId} {v : Value} {xs : List Value} {cs : Array Value} (h : w.ownsRow B e k v n xs) (hg : w.heap[g]? = some (.cells cs t (0, 0))) (hne : e ≠ t) : some g ≠ v.ownBlock := by
  intro e2
  rcases h.2 with ⟨rfl, _⟩ | ⟨y, cap, cur, rfl, _, hy, _⟩
  · simp [Value.ownBlock] at e2
  · have : g = y := by simpa [Value.ownBlock] using e2
    subst this
    rw [hg] at hy
    injection hy with h1
    injection h1 with _ h2
    exact hne h2.symm
theorem one_fld (f : Fld) : ∀ u ∈ encF f, u.oneCell' = true := by
  intro u hu; simp [encF] at hu; rcases hu with rfl | rfl | rfl <;> rfl
theorem step_flds {ops : Array Oper} {o : Oper} {a : Act} {W : World} {K : Act → World → Prop} {Q : Exit → Act → World → Prop} {E : Prop} {S : World → Prop} {B : Nat} {u : Value} {fs : List Fld} (f : Fld) (hgd : o.guard = none) (s x : Operand)
    (ho : o.op = .call { callee := .builtin .append, args := #[s, x], argTypes := #[73, 73] }) (hs : a.eval s = u) (h : FldsOwn B W u fs) (hl : fs.length ≤ 1000) (hB : B ≤ W.heap.size) (hS : ∀ W', W.grownBy W' u.ownBlock → S W')
    (ad : Addr) (c : Nat) (hxe : a.eval x = .slice (some ad) 1 c) (hnews : ∀ j v, (encF f)[j]? = some v → W.cell? (ad.add j) = some v)
    (hk : ∀ g cap w', FldsOwn B w' (.slice (some ⟨g, 0, none⟩) (fs.length + 1) cap) (fs ++ [f]) → W.grownBy w' u.ownBlock → S w' → K (a.put o.dst (.slice (some ⟨g, 0, none⟩) (fs.length + 1) cap)) w') :
    if Region.wanted o (yielded ops a.tmps) = true then Oper.wp Tryz.prog o a W K Q else E := by
  obtain ⟨iF, hiF, hF0, hF1, hF2⟩ := info_parts infoField
  refine step_append_lies _ hgd s x _ ho B 80 iF _ 3 32 Tryz.underlying73 hiF hF0 hF1 hF2 rfl (by omega) u fs.length (fs.flatMap encF) hs h ad 1 c (encF f) hxe rfl hnews (one_fld f) (by omega) (by unfold maxLen; omega) (by omega) hB W.heap.size rfl ?_
  intro g cap w' hn hg _ _
  refine hk g cap w' ?_ hg (hS w' hg)
  unfold FldsOwn
  rw [List.length_append, flatF_snoc]
  exact hn
theorem recs_snoc {B : Nat} {W W' : World} {v v' u : Value} {rs : List Rec} {r : Rec} (us : List Value) (e1 : us.length = rs.length) (e2 : W.ownsRow B 75 2 v rs.length (recCells rs us)) (e3 : ∀ (j : Nat) (r : Rec) (u : Value), rs[j]? = some r → us[j]? = some u → FldsOwn B W u r.2)
    (hu : FldsOwn B W u r.2) (hg : W.grownBy W' v.ownBlock) (hn : W'.ownsRow B 75 2 v' (rs.length + 1) (recCells rs us ++ [.int .i64 r.1, u])) : RecsOwn B W' v' (rs ++ [r]) := by
  refine ⟨us ++ [u], by simp [e1], ?_, fun j l x hl hx => ?_⟩
  · rw [recCells_snoc _ _ e1, List.length_append]
    exact hn
  · by_cases hj : j < rs.length
    · rw [List.getElem?_append_left hj] at hl
      rw [List.getElem?_append_left (by omega)] at hx
      exact World.ownsRow.kept (e3 j l x hl hx) hg (own_ne (e3 j l x hl hx) e2 (by decide))
    · have hj2 : j = rs.length := by
        have := (List.getElem?_eq_some_iff.1 hl).1
        simp at this
        omega
      subst hj2
      rw [List.getElem?_append_right (Nat.le_refl _)] at hl
      rw [List.getElem?_append_right (by omega)] at hx
      simp at hl
      simp [e1] at hx
      subst hl
      subst hx
      exact World.ownsRow.kept hu hg (own_ne hu e2 (by decide))
theorem RecsOwn.later {B : Nat} {w w' : World} {v : Value} {rs : List Rec} (h : RecsOwn B w v rs) (hb : Below w.heap.size w w') : RecsOwn B w' v rs := by
  obtain ⟨us, h1, h2, h3⟩ := h
  exact ⟨us, h1, owns_later h2 hb, fun j l u hl hu => owns_later (h3 j l u hl hu) hb⟩
theorem new_rec (w : World) (a : Int) (u : Value) (t : TypeId) : ∀ (j : Nat) (v : Value), [Value.int .i64 a, u][j]? = some v → (w.alloc (.cells #[.int .i64 a, u] t)).cell? ((⟨w.heap.size, 0, none⟩ : Addr).add j) = some v := by
  intro j v hv
  match j, hv with
  | 0, hv => simp at hv; subst hv; simp [Addr.add]
  | 1, hv => simp at hv; subst hv; simp [Addr.add]
  | j + 2, hv => simp at hv
def PlainOuter (xs : List (List ByteArray)) (w : World) (v i : Value) (wr : World) : Prop :=
  ∃ j : Nat, j ≤ xs.length ∧ i = .int .i64 j ∧ RecsOwn w.heap.size wr v (plainR 1 (xs.take j)) ∧ Below w.heap.size w wr
def PlainInner (x : List ByteArray) (line : Int) (xb : Nat) (wr : World) (col k : Value) (wi : World) : Prop :=
  ∃ (q : Nat) (u : Value), q ≤ x.length ∧ k = .int .i64 q ∧ col = .int .i64 (colTo 1 (x.take q)) ∧ wi.heap[xb]? = some (.cells #[.int .i64 line, u] 75 (0, 0)) ∧ FldsOwn wr.heap.size wi u (plainF 1 (x.take q)) ∧ Below wr.heap.size wr wi
def PlainGives (xs : List (List ByteArray)) (w : World) (e : Ending) (w' : World) : Prop :=
  ∃ v, e = .returned v ∧ RecsOwn w.heap.size w' v (plainR 1 xs) ∧ Below w.heap.size w w'
set_option maxHeartbeats 8000000 in
theorem plain_walk (A : Option Addr) (xs : List (List ByteArray)) (cap : Nat) (w : World) (hX : ListsIn w.heap.size w A xs) (hn : xs.length ≤ 1000000) (hm : ∀ x ∈ xs, x.length ≤ 1000 ∧ ∀ z ∈ x, z.size ≤ 1073741824) :
    Calls Tryz.prog 17 #[.slice A xs.length cap] w fun e w' => PlainGives xs w e w' := by
  obtain ⟨iR, hiR, hR0, hR1, hR2⟩ := info_parts infoRec
  obtain ⟨N, hN⟩ : ∃ N, xs.length = N := ⟨_, rfl⟩
  rw [hN] at hn ⊢
  replace hN := hide hN
  replace hm := hide hm
  go_enter Tryz.func17, Tryz.ntmps17
  go_wp2
  go_loopw [3, 4] (fun v i wr => PlainOuter xs w v i wr) (fun _ i _ => N - (intOf i).toNat)
  case atStart => exact ⟨0, Nat.zero_le _, rfl, ⟨[], rfl, World.ownsRow_nil _ _ _ _, fun j r u h => by simp [plainR] at h⟩, Below.refl _ _⟩
  case round =>
    obtain ⟨j, hj, rfl, hR, hb⟩ := hrel
    rw [hN.out] at hj
    by_cases hlt : j < N
    · obtain ⟨x, hx⟩ : ∃ x, xs[j]? = some x := ⟨_, List.getElem?_eq_getElem (by rw [hN.out]; exact hlt)⟩
      obtain ⟨m1, m2⟩ := hm.out x (List.mem_of_getElem? hx)
      replace m2 := hide m2
      have hXw := hX.below hb
      obtain ⟨b, off, rfl, hbB, hcell⟩ := hXw (by rw [hN.out]; omega)
      obtain ⟨F, c, k0, hF⟩ := hcell j x hx
      have hz := hb.size
      have hsn : Hid (plainR 1 (xs.take (j + 1)) = plainR 1 (xs.take j) ++ [((j : Int) + 1, plainF 1 x)]) := by
        refine hide ?_
        rw [List.take_add_one, hx]
        refine (plainR_snoc x (xs.take j) 1).trans ?_
        rw [List.length_take, hN.out, Nat.min_eq_left (by omega), Int.add_comm]
      clear hcell hXw hx
      obtain ⟨M, hM⟩ : ∃ M, x.length = M := ⟨_, rfl⟩
      rw [hM] at m1 k0
      replace hM := hide hM
      have hbx : Below wr.heap.size wr (wr.alloc (.cells #[.int .i64 ((j : Int) + 1), .slice none 0 0] 75)) := ext_alloc (Below.refl _ _) _
      have hblt : b < wr.heap.size := by omega
      go_wp2
      obtain ⟨wo, rfl⟩ : ∃ wo : World, wo = wr := ⟨_, rfl⟩
      go_loopw [6, 7] (fun col k wi => PlainInner x ((j : Int) + 1) wo.heap.size wo col k wi) (fun _ k _ => M - (intOf k).toNat)
      case atStart => exact ⟨0, _, Nat.zero_le _, rfl, rfl, heap_alloc_new _ _, World.ownsRow_nil _ _ _ _, hbx⟩
      case round =>
        obtain ⟨q, u, hq, rfl, rfl, hh, hf, hbi⟩ := hrel
        rw [hM.out] at hq
        by_cases hql : q < M
        · obtain ⟨z, hzq⟩ : ∃ z, x[q]? = some z := ⟨_, List.getElem?_eq_getElem (by rw [hM.out]; exact hql)⟩
          have hzz := m2.out z (List.mem_of_getElem? hzq)
          have k1 := cell_later hbi k0
          obtain ⟨b2, off2, rfl, hb2, hc2⟩ := (hF.below (hbi.mono hz)) (by rw [hM.out]; omega)
          have z0 := hc2 q z hzq
          obtain ⟨A', c', hu⟩ := owns_form hf
          rw [plainF_len, List.length_take, hM.out, Nat.min_eq_left hq] at hu
          subst hu
          have x0 : wr.cell? ⟨wo.heap.size, 0, none⟩ = some (.int .i64 ((j : Int) + 1)) := by rw [cell_of_row _ _ _ _ _ _ hh]; rfl
          have x1 : wr.cell? ⟨wo.heap.size, 1, none⟩ = some (.slice A' q c') := by rw [cell_of_row _ _ _ _ _ _ hh]; rfl
          have f1 : wr.frozen? ⟨wo.heap.size, 1, none⟩ = false := by simp [World.frozen?, hh]
          have hcb := colTo_bd (S := 1073741824) (x.take q) 1 (fun z hz => m2.out z (List.mem_of_mem_take hz))
          rw [List.length_take, hM.out, Nat.min_eq_left hq] at hcb
          obtain ⟨col, hcol⟩ : ∃ col, colTo 1 (x.take q) = col := ⟨_, rfl⟩
          have hcs : Hid (colTo 1 (x.take (q + 1)) = col + (z.size + 1)) := by rw [List.take_add_one, hzq, ← hcol]; exact hide (colTo_snoc z (x.take q) 1)
          have hfs : Hid (plainF 1 (x.take (q + 1)) = plainF 1 (x.take q) ++ [(z, col, false)]) := by rw [List.take_add_one, hzq, ← hcol]; exact hide (plainF_snoc z (x.take q) 1)
          rw [hcol] at hcb ⊢
          obtain ⟨cb1, cb2⟩ := hcb
          have hfl : (plainF 1 (x.take q)).length = q := by rw [plainF_len, List.length_take, hM.out, Nat.min_eq_left hq]
          obtain ⟨fs, hfs0⟩ : ∃ fs, plainF 1 (x.take q) = fs := ⟨_, rfl⟩
          rw [hfs0] at hf hfs hfl
          have hxlt := blk_lt hh
          have cb3 : col ≤ 2000000000000 := by
            have : (q : Int) * ((1073741824 : Nat) + 1) ≤ 1000 * ((1073741824 : Nat) + 1) := Int.mul_le_mul_of_nonneg_right (by omega) (by omega)
            omega
          replace hfl := hide hfl
          clear hcol hfs0 hzq hc2 cb2
          have hn1 : Hid (some wo.heap.size ≠ (Value.slice A' q c').ownBlock) := hide (own_ne_blk hf hh (by decide))
          have hn2 : Hid (some b ≠ (Value.slice A' q c').ownBlock) := hide (own_far hf (by omega))
          have hn3 : Hid (some b2 ≠ (Value.slice A' q c').ownBlock) := hide (own_far hf (by omega))
          replace hh := hide hh
          have hP : PS wo.heap.size b (off + j) b2 (off2 + q) (.slice A' q c') (.slice (some ⟨b2, off2, none⟩) M c) (.string z) wr := ⟨x1, k1, z0⟩
          have hfl9 : fs.length ≤ 1000 := by rw [hfl.out]; omega
          go_upto_region 10 with fail
          have hPd := PS.drew hP
          have hfd := FldsOwn.drew hf
          have y1 := x1
          go_region_law ((refine step_flds (S := PS wo.heap.size b (off + j) b2 (off2 + q) (.slice A' q c') (.slice (some ⟨b2, off2, none⟩) M c) (.string z)) (B := wo.heap.size) (u := .slice A' q c') (fs := fs) (z, col, false) rfl (.tmp 27) (.tmp 37) rfl (by rfl) (by repeat (first | (with_reducible assumption) | (with_reducible refine FldsOwn.alloc ?_ _) | (with_reducible refine FldsOwn.drew ?_))) hfl9 (by first | omega | (simp; omega)) (fun W' hg => PS.grown (by repeat (first | (with_reducible assumption) | (with_reducible refine PS.alloc ?_ _) | (with_reducible refine PS.drew ?_))) hn1.out hn2.out hn3.out hg) _ _ (by rfl) (World.news_of_block (cs := #[.string z, .int .i64 col, .bool false]) (t := 80) (fr := (0, 0)) (heap_alloc_new _ _)) ?_; intro gF capF w5 hf5 hg5 hs5; have hh5 : w5.heap[wo.heap.size]? = some (.cells #[.int .i64 ((j : Int) + 1), .slice A' q c'] 75 (0, 0)) := (hg5.block _ (by first | omega | (simp; omega)) hn1.out).trans ((Below.heap_alloc _ _ _ (by exact hxlt)).trans hh.out); have hfz : w5.frozen? ⟨wo.heap.size, 1, none⟩ = false := by simp [World.frozen?, hh5]))
          all_goals
            obtain ⟨-, k5, z5⟩ := hs5
            have hn5 : (Value.slice (some ⟨gF, 0, none⟩) (fs.length + 1) capF).ownBlock ≠ some wo.heap.size := fun e => own_ne_blk hf5 hh5 (by decide) e.symm
            obtain ⟨U, hU⟩ : ∃ U, w5.setCell ⟨wo.heap.size, 1, none⟩ (.slice (some ⟨gF, 0, none⟩) (fs.length + 1) capF) = U := ⟨_, rfl⟩
            have hu5 : U.heap[wo.heap.size]? = some (.cells #[.int .i64 ((j : Int) + 1), .slice (some ⟨gF, 0, none⟩) (fs.length + 1) capF] 75 (0, 0)) := by
              rw [← hU]; simp only [World.setCell, Array.getElem?_modify, hh5]; rfl
            have hfu : FldsOwn wo.heap.size U (.slice (some ⟨gF, 0, none⟩) (fs.length + 1) capF) (fs ++ [(z, col, false)]) := by rw [← hU]; exact owns_set hf5 hn5
            have hbu : Below wo.heap.size wo U := by
              rw [← hU]
              exact (Below.grown (by first | exact (hbi.alloc hbi.size _).drew | exact hbi.drew.alloc hbi.size _) hg5 (by first | omega | (simp; omega)) (fun y hy => (World.ownsRow.lt hf y hy).1)).setCell (Nat.le_refl _) _
            have k6 : U.cell? ⟨b, off + j, none⟩ = some (.slice (some ⟨b2, off2, none⟩) M c) := by rw [← hU]; exact (World.cell?_setCell_other _ _ _ _ (fun e => by injection e; omega)).trans k5
            have z6 : U.cell? ⟨b2, off2 + q, none⟩ = some (.string z) := by rw [← hU]; exact (World.cell?_setCell_other _ _ _ _ (fun e => by injection e; omega)).trans z5
            rw [hU]
            clear hU hn5 hf5 hg5 hh5 hfz k5 z5 hP hPd hfd y1 hf hh hn1 hn2 hn3 x0 x1 f1 k1 z0 hbi
            go_wp2
            go_roundw
            case rel => exact ⟨q + 1, _, by rw [hM.out]; omega, by go_num, by rw [hcs.out], hu5, by rw [hfs.out]; exact hfu, hbu⟩
            case measure => simp [intOf]; omega
        · obtain rfl : q = M := by omega
          have hall : Hid (x.take q = x) := hide (by rw [← hM.out]; exact List.take_length)
          rw [hall.out] at hf ⊢
          clear hall
          have k1 := cell_later hbi k0
          have x0 : wr.cell? ⟨wo.heap.size, 0, none⟩ = some (.int .i64 ((j : Int) + 1)) := by rw [cell_of_row _ _ _ _ _ _ hh]; rfl
          have x1 : wr.cell? ⟨wo.heap.size, 1, none⟩ = some u := by rw [cell_of_row _ _ _ _ _ _ hh]; rfl
          obtain ⟨A', c', hu⟩ := owns_form hf
          subst hu
          obtain ⟨us, e1, e2, e3⟩ := hR.later (hbi.mono (Nat.le_refl _))
          have hfw : FldsOwn w.heap.size wr (.slice A' (plainF 1 x).length c') (plainF 1 x) := owns_lower hf hz
          have hbw : Below w.heap.size w wr := ext_trans hb hbi
          have hrl : (plainR 1 (xs.take j)).length = j := by rw [plainR_len, List.length_take, hN.out, Nat.min_eq_left (by omega)]
          obtain ⟨rs, hrs⟩ : ∃ rs, plainR 1 (xs.take j) = rs := ⟨_, rfl⟩
          rw [hrs] at hsn hrl e1 e2 e3
          replace e3 := hide e3
          replace e1 := hide e1
          replace hrl := hide hrl
          have hrl9 : rs.length ≤ 1000000 := by rw [hrl.out]; omega
          have hzw := hbw.size
          clear hrs hR hh hbi hb
          obtain ⟨Lf, hLf⟩ : ∃ Lf, (plainF 1 x).length = Lf := ⟨_, rfl⟩
          rw [hLf] at x1 hfw hf
          clear hLf
          go_wp2_with (at_builtin; refine wpList_append_own _ rfl _ _ 44 rfl w.heap.size 75 iR (.agg #[.int .i64 0, .slice none 0 0]) 2 32 Tryz.underlying44 hiR hR0 hR1 hR2 rfl (by decide) _ _ _ rfl (e2.alloc _) ⟨wr.heap.size, 0, none⟩ 1 1 [.int .i64 ((j : Int) + 1), .slice A' Lf c'] rfl rfl (new_rec _ _ _ _) ?c2 ?c3 ?c4 ?c5 ?_)
          case c2 => intro v hv; simp at hv; rcases hv with rfl | rfl <;> rfl
          case c3 => unfold maxLen; omega
          case c4 => omega
          case c5 => rw [World.size_alloc]; omega
          intro v' w4 hn4 hgrow _
          have hRn := recs_snoc (r := ((j : Int) + 1, plainF 1 x)) us e1.out (e2.alloc _) (fun j r u hr hu => World.ownsRow.alloc (e3.out j r u hr hu) _) (World.ownsRow.alloc hfw _) hgrow hn4
          have hbn : Below w.heap.size w w4 := Below.grown (ext_alloc hbw _) hgrow (by rw [World.size_alloc]; omega) (fun y hy => (e2.lt y hy).1)
          clear e2 e3 e1 hfw hf hbw x0 x1 k1
          go_wp2
          go_roundw
          case rel => exact ⟨j + 1, by rw [hN.out]; omega, by go_num, by rw [hsn.out]; exact hRn, hbn⟩
          case measure => simp [intOf]; omega
    · obtain rfl : j = N := by omega
      have hall : Hid (xs.take j = xs) := hide (by rw [← hN.out]; exact List.take_length)
      rw [hall.out] at hR
      clear hall
      go_wp2
      go_ret
      exact ⟨_, rfl, hR, hb⟩
end Go.Proofs.YthejgholpkeldaaGreatDoor

namespace Go.Proofs.YthejgholpkeldaaGreatDoor
open Go.RowKit
set_option maxRecDepth 100000

theorem RecsAt.more {B C : Nat} {w : World} {A : Option Addr} {rs : List Rec} (h : RecsAt B w A rs) (hB : B ≤ C) : RecsAt C w A rs := by
  intro hn
  obtain ⟨b, off, e, h1, hc⟩ := h hn
  exact ⟨b, off, e, by omega, fun j r hr => by obtain ⟨F, c, c0, c1, hF⟩ := hc j r hr; exact ⟨F, c, c0, c1, hF.more hB⟩⟩
theorem flat_at {α : Type} (enc : α → List Value) (k : Nat) (hk : ∀ x, (enc x).length = k) : ∀ (ls : List α) (j i : Nat) (x : α), ls[j]? = some x → i < k → (ls.flatMap enc)[j * k + i]? = (enc x)[i]?
  | [], j, i, x, h, _ => by simp at h
  | l :: ls, 0, i, x, h, hi => by
    simp at h
    subst h
    rw [List.flatMap_cons, List.getElem?_append_left (by rw [hk]; omega)]
    simp
  | l :: ls, j + 1, i, x, h, hi => by
    rw [List.flatMap_cons, List.getElem?_append_right (by rw [hk, Nat.add_mul]; omega), hk, show (j + 1) * k + i - k = j * k + i from by rw [Nat.add_mul]; omega]
    exact flat_at enc k hk ls j i x (by simpa using h) hi
theorem own_at {B k n c : Nat} {e : TypeId} {w : World} {A : Option Addr} {q : Nat} {xs : List Value} (h : w.ownsRow B e k (.slice A q c) n xs) (hn : 0 < n) : ∃ g, A = some ⟨g, 0, none⟩ ∧ g < w.heap.size ∧ ∀ j u, xs[j]? = some u → w.cell? ⟨g, j, none⟩ = some u := by
  rcases h.2 with ⟨h1, h2⟩ | ⟨g, cap, cur, h1, _, hg, _⟩
  · omega
  · injection h1 with h1
    subst h1
    have hcl := h.cells (g := g) rfl
    refine ⟨g, rfl, blk_lt hg, fun j u hu => ?_⟩
    have := hcl j u hu
    rw [show (⟨g, 0, none⟩ : Addr).add j = ⟨g, j, none⟩ from by rw [Addr.add_lit]; simp only [Nat.zero_add]] at this
    exact this
theorem flds_at {B q c : Nat} {w : World} {A : Option Addr} {fs : List Fld} (h : FldsOwn B w (.slice A q c) fs) : FieldsAt w.heap.size w A fs := by
  intro hn
  obtain ⟨g, e, hg, hc⟩ := own_at h hn
  refine ⟨g, 0, e, hg, fun j hj => ?_⟩
  have hx : fs[j]? = some fs[j] := List.getElem?_eq_getElem hj
  have hf := fun i hi u (hu : (encF fs[j])[i]? = some u) => hc (j * 3 + i) u ((flat_at encF 3 (fun _ => rfl) fs j i _ hx hi).trans hu)
  rw [Nat.zero_add]
  exact ⟨hf 0 (by omega) _ rfl, hf 1 (by omega) _ rfl, hf 2 (by omega) _ rfl⟩
theorem recCells_at : ∀ (rs : List Rec) (us : List Value), us.length = rs.length → ∀ (j : Nat) (r : Rec) (u : Value), rs[j]? = some r → us[j]? = some u → (recCells rs us)[j * 2]? = some (.int .i64 r.1) ∧ (recCells rs us)[j * 2 + 1]? = some u
  | [], us, h, j, r, u, hr, hu => by simp at hr
  | r0 :: rs, [], h, j, r, u, hr, hu => by cases h
  | r0 :: rs, u0 :: us, h, 0, r, u, hr, hu => by simp at hr hu; subst hr; subst hu; simp [recCells]
  | r0 :: rs, u0 :: us, h, j + 1, r, u, hr, hu => by
    have ih := recCells_at rs us (by simpa using h) j r u (by simpa using hr) (by simpa using hu)
    have e : ∀ i, (recCells (r0 :: rs) (u0 :: us))[(j + 1) * 2 + i]? = (recCells rs us)[j * 2 + i]? := by
      intro i
      rw [show (j + 1) * 2 + i = j * 2 + i + 2 from by omega]
      simp [recCells]
    exact ⟨(e 0).trans ih.1, (e 1).trans ih.2⟩
theorem recs_at {B q c : Nat} {w : World} {A : Option Addr} {rs : List Rec} (h : RecsOwn B w (.slice A q c) rs) : RecsAt w.heap.size w A rs := by
  obtain ⟨us, e1, e2, e3⟩ := h
  intro hn
  obtain ⟨g, e, hg, hc⟩ := own_at e2 hn
  refine ⟨g, 0, e, hg, fun j r hr => ?_⟩
  have hj : j < us.length := by rw [e1]; exact (List.getElem?_eq_some_iff.1 hr).1
  have hu : us[j]? = some us[j] := List.getElem?_eq_getElem hj
  obtain ⟨c0, c1⟩ := recCells_at rs us e1 j r _ hr hu
  have hfo := e3 j r _ hr hu
  obtain ⟨A', c', hform⟩ := owns_form hfo
  rw [hform] at c1 hfo
  rw [Nat.zero_add]
  exact ⟨A', c', hc _ _ c0, hc _ _ c1, flds_at hfo⟩
end Go.Proofs.YthejgholpkeldaaGreatDoor

namespace Go.Proofs.YthejgholpkeldaaGreatDoor
open Go.RowKit
set_option maxRecDepth 100000

theorem lists_in_of_at {B : Nat} {w : World} {A : Option Addr} {xs : List (List ByteArray)} (h : At (kSlice kStr) (· < B) w A xs) : ListsIn B w A xs := by
  intro hn
  obtain ⟨b, off, e, hb, -, hc⟩ := h hn
  refine ⟨b, off, e, hb, fun j x hx => ?_⟩
  obtain ⟨vs, ⟨F, c, rfl, -, hF⟩, hcell⟩ := hc j x hx
  refine ⟨F, c, by simpa [kSlice] using hcell 0 _ rfl, fun hn' => ?_⟩
  obtain ⟨b', off', e', hb', -, hc'⟩ := hF hn'
  refine ⟨b', off', e', hb', fun k z hz => ?_⟩
  obtain ⟨us, rfl, hcell'⟩ := hc' k z hz
  simpa [kStr] using hcell' 0 _ rfl
theorem plainF_mem {f : Fld} : ∀ {l : List ByteArray} {col : Int}, f ∈ plainF col l → f.1 ∈ l
  | [], _, h => by simp [plainF] at h
  | t :: r, col, h => by
    simp only [plainF, List.mem_cons] at h
    rcases h with rfl | h
    · simp
    · exact List.mem_cons_of_mem _ (plainF_mem h)
theorem plainR_mem {r : Rec} : ∀ {xs : List (List ByteArray)} {n : Int}, r ∈ plainR n xs → ∃ x ∈ xs, r.2 = plainF 1 x
  | [], _, h => by simp [plainR] at h
  | t :: q, n, h => by
    simp only [plainR, List.mem_cons] at h
    rcases h with rfl | h
    · exact ⟨t, by simp, rfl⟩
    · obtain ⟨x, hx, e⟩ := plainR_mem h
      exact ⟨x, List.mem_cons_of_mem _ hx, e⟩
theorem plainR_sizes {S : Nat} {xs : List (List ByteArray)} {n : Int} (h : ∀ x ∈ xs, ∀ z ∈ x, z.size ≤ S) : ∀ r ∈ plainR n xs, ∀ f ∈ r.2, f.1.size ≤ S := by
  intro r hr f hf
  obtain ⟨x, hx, e⟩ := plainR_mem hr
  rw [e] at hf
  exact h x hx _ (plainF_mem hf)
end Go.Proofs.YthejgholpkeldaaGreatDoor
