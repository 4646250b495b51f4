/- Requests as data; what is wrong with them; what their reading gives; their students, and what a student wants (plain). No walk. Requests in rows of their own, and in boxes. No condition. -/
import Derived.Test.YthejgholpkeldaaGreatDoorShelfS
import Derived.Test.YthejgholpkeldaaGreatDoorRows
import Derived.WalkKit
import Derived.WalkSpells
import Derived.WalkLawsBesides
import Derived.BigGuardPart
import Derived.Lib.Hide
import Derived.Laws.BitsAllLaws
import Derived.Laws.BitsLemmas
import Derived.Lib.LaidTab
import Derived.Test.YthejgholpkeldaaGreatDoorShelf
import Derived.Lib.ConvBytes
import Derived.Deep.QuietTactic
import Derived.BigQuiet
import Derived.Laws.ResultCell
import Derived.RegionTactic
import Derived.BigRegion
import Derived.Deep.RegionHeld3
import Derived.Deep.DeepCutAuto
import Derived.Lib.SmallJoins
import Derived.Lib.SplitLaws
import Derived.Lib.CountLaws
import Derived.Lib.IndexMore
import Derived.Lib.Split
import Derived.Lib.Join
import Derived.Lib.ItoaNum
import Derived.Laws.AppendOwn
import Derived.Test.YthejgholpkeldaaGreatDoorShelfT
import Derived.Lib.ItoaLen
import Derived.Lib.AppendIntMem
import Derived.Deep.AppendLies
import Derived.Lib.PathFns
import Derived.Maps.Range
import Derived.Lib.OwnBridge
import Derived.Sort.OwnSorted
import Derived.Sort.Walk0
import Derived.Test.YthejgholpkeldaaGreatDoorCards
import Derived.Test.YthejgholpkeldaaGreatDoorTie
import Derived.ProofKit
import Derived.OpenShut
import Derived.LaidMore
import Derived.Lay
import Derived.SevenTiedAt
import Derived.Stop.Joined
import Derived.Stop.LaidErr
import Derived.Deep.DeepHandedRow
import Derived.Lib.LaidU8
import Derived.LaidSub
import Derived.Deep.Slices
import Derived.Deep.Fields
import Derived.ChangeSame
import Derived.Maps.OwnSet
import Derived.Deep.RegionLaw
import Derived.Deep.RegionLawGrows
import Derived.StringKeys
import Derived.Sort.LotA
import Derived.Test.YthejgholpkeldaaGreatDoorYPlainA
import Derived.Test.YthejgholpkeldaaGreatDoorYDigT
import Derived.Test.YthejgholpkeldaaGreatDoorYROneP
import Derived.Test.YthejgholpkeldaaGreatDoorYStabQ
namespace Go.Proofs.YthejgholpkeldaaGreatDoor
open Go.RowKit
set_option maxRecDepth 100000

/-- A request: student, course, priority, courses instead. -/
abbrev Req := ByteArray × ByteArray × Int × List ByteArray
def kReq : Kind Req := kPair kStr (kPair kStr (kPair kInt (kSlice kStr)))
theorem At.req {S : Nat → Prop} {w : World} {A : Option Addr} {l : List Req} {j : Nat} {x : Req} (h : At kReq S w A l) (hj : l[j]? = some x) :
    ∃ b off F c, A = some ⟨b, off, none⟩ ∧ S b ∧ b < w.heap.size ∧ (w.cell? ⟨b, off + j * 4, none⟩ = some (.string x.1) ∧ w.cell? ⟨b, off + j * 4 + 1, none⟩ = some (.string x.2.1) ∧ w.cell? ⟨b, off + j * 4 + 2, none⟩ = some (.int .i64 x.2.2.1) ∧ w.cell? ⟨b, off + j * 4 + 3, none⟩ = some (.slice F x.2.2.2.length c)) ∧
      x.2.2.2.length ≤ c ∧ At kStr S w F x.2.2.2 := by
  obtain ⟨b, off, vs, e, hs, hlt, hr, hc⟩ := h.get hj
  obtain ⟨u0, r0, e0, h0, hr⟩ := hr
  obtain ⟨u1, r1, e1, h1, hr⟩ := hr
  obtain ⟨u2, u3, e2, h2, h3⟩ := hr
  obtain ⟨F, c, rfl, l3, a3⟩ := h3
  have h0 : u0 = [.string x.1] := h0
  have h1 : u1 = [.string x.2.1] := h1
  have h2 : u2 = [.int .i64 x.2.2.1] := h2
  subst h0 h1 h2 e2 e1 e0
  have hk : ∀ i u, ([Value.string x.1, .string x.2.1, .int .i64 x.2.2.1, .slice F x.2.2.2.length c] : List Value)[i]? = some u → w.cell? ⟨b, off + j * 4 + i, none⟩ = some u := hc
  exact ⟨b, off, F, c, e, hs, hlt, ⟨hk 0 _ rfl, hk 1 _ rfl, hk 2 _ rfl, hk 3 _ rfl⟩, l3, a3⟩
/-! What is wrong with requests. -/
/-- The error of the courses instead, over the first k. -/
def insE (co : ByteArray) (l : List ByteArray) : Nat → Nat
  | 0 => 0
  | k + 1 => if insE co l k ≠ 0 then insE co l k else if codeB (l.getD k ⟨#[]⟩) = false then 10 else if l.getD k ⟨#[]⟩ = co ∨ 0 ≤ idxS (l.getD k ⟨#[]⟩) (l.take k) then 11 else 0
theorem insE_hit {co : ByteArray} {l : List ByteArray} {j : Nat} (h : insE co l j ≠ 0) : ∀ k, j ≤ k → insE co l k = insE co l j := by
  intro k
  induction k with
  | zero =>
    intro hk
    obtain rfl : j = 0 := by omega
    rfl
  | succ k ih =>
    intro hk
    rcases Nat.lt_or_ge k j with h1 | h1
    · obtain rfl : j = k + 1 := by omega
      rfl
    · have e := ih h1
      rw [insE, if_pos (by rw [e]; exact h), e]
def reqEx (x : Req) : Nat :=
  if codeB x.1 = false then 10 else if codeB x.2.1 = false then 10 else if x.2.2.1 < 1 then 3 else if 9 < x.2.2.1 then 3 else if 8 < x.2.2.2.length then 2 else insE x.2.1 x.2.2.2 x.2.2.2.length
/-- Is there a request of a student for a course. -/
def hasQ (l : List Req) (s c : ByteArray) : Bool := l.any fun x => decide (x.1 = s ∧ x.2.1 = c)
def studs (l : List Req) : List ByteArray := l.map fun x => x.1
/-- Each text once, where it is met first. -/
def freshS (l : List ByteArray) : List ByteArray := l.foldl (fun acc s => if 0 ≤ idxS s acc then acc else acc ++ [s]) []
theorem freshS_snoc (l : List ByteArray) (s : ByteArray) : freshS (l ++ [s]) = if 0 ≤ idxS s (freshS l) then freshS l else freshS l ++ [s] := by unfold freshS; rw [List.foldl_append]; rfl
theorem mem_fresh (l : List ByteArray) (s : ByteArray) : s ∈ freshS l ↔ s ∈ l := by
  induction l using snoc_ind with
  | h0 => simp [freshS]
  | h1 l x ih =>
    rw [freshS_snoc]
    split
    · rename_i h
      replace h := idx_memS.1 h
      rw [ih, List.mem_append]
      constructor
      · exact Or.inl
      · rintro (h1 | h1)
        · exact h1
        · simp at h1; subst h1; exact ih.1 h
    · rw [List.mem_append, List.mem_append, ih]
theorem fresh_nodup (l : List ByteArray) : (freshS l).Nodup := by
  induction l using snoc_ind with
  | h0 => simp [freshS]
  | h1 l x ih =>
    rw [freshS_snoc]
    split
    · exact ih
    · rename_i h
      replace h : ¬ x ∈ freshS l := fun hm => h (idx_memS.2 hm)
      exact List.nodup_append.2 ⟨ih, by simp, fun a ha b hb => by simp at hb; subst hb; rintro rfl; exact h ha⟩
theorem fresh_len (l : List ByteArray) : (freshS l).length ≤ l.length := by
  induction l using snoc_ind with
  | h0 => simp [freshS]
  | h1 l x ih =>
    rw [freshS_snoc, List.length_append]
    split
    · omega
    · rw [List.length_append]; simp; omega
def reqE (x : Req) (prev : List Req) : Nat := if reqEx x ≠ 0 then reqEx x else if hasQ prev x.1 x.2.1 = true then 11 else if 64 < (freshS (studs (prev ++ [x]))).length then 2 else 0
def reqEi (l : List Req) (i : Nat) : Nat := match l[i]? with
  | some x => reqE x (l.take i)
  | none => 0
def reqErr (l : List Req) : Nat → Nat
  | 0 => 0
  | k + 1 => if reqErr l k ≠ 0 then reqErr l k else reqEi l k
def validQ (l : List Req) : Nat := if 400 < l.length then 2 else reqErr l l.length
theorem reqErr_hit {l : List Req} {j : Nat} (h : reqErr l j ≠ 0) : ∀ k, j ≤ k → reqErr l k = reqErr l j := by
  intro k
  induction k with
  | zero =>
    intro hk
    obtain rfl : j = 0 := by omega
    rfl
  | succ k ih =>
    intro hk
    rcases Nat.lt_or_ge k j with h1 | h1
    · obtain rfl : j = k + 1 := by omega
      rfl
    · have e := ih h1
      rw [reqErr, if_pos (by rw [e]; exact h), e]
theorem req_end {l : List Req} {j N e : Nat} {x : Req} (hx : l[j]? = some x) (h0 : reqErr l j = 0) (he : reqE x (l.take j) = e) (hne : e ≠ 0) (hj : j < N) : reqErr l N = e := by
  have h1 : reqErr l (j + 1) = e := by
    rw [reqErr, if_neg (by rw [h0]; simp)]
    unfold reqEi
    rw [hx]
    exact he
  rw [reqErr_hit (by rw [h1]; exact hne) N hj, h1]
theorem req_on {l : List Req} {j : Nat} {x : Req} (hx : l[j]? = some x) (h0 : reqErr l j = 0) (he : reqE x (l.take j) = 0) : reqErr l (j + 1) = 0 := by
  rw [reqErr, if_neg (by rw [h0]; simp)]
  unfold reqEi
  rw [hx]
  exact he
/-! Reading. -/
/-- The problem of a request's fields. -/
def fieldsQ (line : Int) (fs : List Fld) : Option Prob :=
  orP (orP (orP (if codeB (textAt fs 0) then none else some (line, colAt fs 1, 10)) (if codeB (textAt fs 1) then none else some (line, colAt fs 2, 10))) (numP (numS 1 (textAt fs 2)) (line, colAt fs 3, 4))) (codesP 8 line (colAt fs 4) (textAt fs 3))
/-- Are there too many for one more of a student. -/
def manyQ (ls : List Req) (s : ByteArray) : Bool := decide (400 ≤ ls.length) || (decide (64 ≤ (freshS (studs ls)).length) && decide (¬ 0 ≤ idxS s (studs ls)))
/-- The problem of the record of a request, behind others. -/
def reqP (line : Int) (fs : List Fld) (ls : List Req) : Option Prob :=
  noted (noted (noted (fieldsQ line fs) (decide (0 ≤ idxS (textAt fs 1) (listV (textAt fs 3)).2)) (line, colAt fs 4, 11)) (hasQ ls (textAt fs 0) (textAt fs 1)) (line, 0, 11)) (manyQ ls (textAt fs 0)) (line, 0, 2)
def reqOf (fs : List Fld) : Req := (textAt fs 0, textAt fs 1, (((numE 1 (textAt fs 2)).getD 0 : Nat) : Int), (listV (textAt fs 3)).2)
theorem req_steps {line : Int} {fs : List Fld} {ls : List Req} {k1 k2 k3 k4 nn : Nat} {t0 t1 : ByteArray} {l : List ByteArray} {pr1 pr2 pr3 pr4 pr5 : Option Prob}
    (a1 : k1 = 0 + 1 ∧ t0 = textAt fs 0 ∧ pr1 = if codeB (textAt fs 0) then none else some (line, colAt fs (0 + 1), 10))
    (b1 : pr1 = none → k2 = k1 + 1 ∧ t1 = textAt fs k1 ∧ pr2 = if codeB (textAt fs k1) then none else some (line, colAt fs (k1 + 1), 10)) (b2 : ∀ p, pr1 = some p → pr2 = some p)
    (c1 : pr2 = none → k3 = k2 + 1 ∧ nn = (numE 1 (textAt fs k2)).getD 0 ∧ pr3 = numP (numS 1 (textAt fs k2)) (line, colAt fs (k2 + 1), 4)) (c2 : ∀ p, pr2 = some p → pr3 = some p)
    (d1 : pr3 = none → k4 = k3 + 1 ∧ l = (listV (textAt fs k3)).2 ∧ pr4 = codesP 8 line (colAt fs (k3 + 1)) (textAt fs k3)) (d2 : ∀ p, pr3 = some p → pr4 = some p)
    (h5 : noted pr4 (decide (0 ≤ idxS t1 l)) (line, colAt fs k4, 11) = pr5) :
    noted (noted pr5 (hasQ ls t0 t1) (line, 0, 11)) (manyQ ls t0) (line, 0, 2) = reqP line fs ls ∧ (reqP line fs ls = none → (t0, t1, (nn : Int), l) = reqOf fs) := by
  obtain ⟨rfl, rfl, hp1⟩ := a1
  have bad : ∀ p, pr4 = some p → fieldsQ line fs = some p → noted (noted pr5 (hasQ ls (textAt fs 0) t1) (line, 0, 11)) (manyQ ls (textAt fs 0)) (line, 0, 2) = reqP line fs ls ∧ (reqP line fs ls = none → (textAt fs 0, t1, (nn : Int), l) = reqOf fs) := fun p h1 h2 => by
    subst h5
    unfold reqP
    rw [h1, h2]
    exact ⟨rfl, fun h => by cases h⟩
  unfold fieldsQ at bad
  rw [show (if codeB (textAt fs 0) then none else some (line, colAt fs 1, (10 : Int))) = pr1 from hp1.symm] at bad
  cases h1 : pr1 with
  | some p => rw [h1] at bad; exact bad p (d2 p (c2 p (b2 p h1))) rfl
  | none =>
    obtain ⟨rfl, rfl, hp2⟩ := b1 h1
    rw [show (if codeB (textAt fs 1) then none else some (line, colAt fs 2, (10 : Int))) = pr2 from hp2.symm, h1] at bad
    cases h2 : pr2 with
    | some p => rw [h2] at bad; exact bad p (d2 p (c2 p h2)) rfl
    | none =>
      obtain ⟨rfl, rfl, hp3⟩ := c1 h2
      rw [show numP (numS 1 (textAt fs 2)) (line, colAt fs 3, 4) = pr3 from hp3.symm, h2] at bad
      cases h3 : pr3 with
      | some p => rw [h3] at bad; exact bad p (d2 p h3) rfl
      | none =>
        obtain ⟨rfl, rfl, hp4⟩ := d1 h3
        subst h5
        have hf : fieldsQ line fs = pr4 := by
          unfold fieldsQ
          rw [show (if codeB (textAt fs 0) then none else some (line, colAt fs 1, (10 : Int))) = pr1 from hp1.symm, show (if codeB (textAt fs 1) then none else some (line, colAt fs 2, (10 : Int))) = pr2 from hp2.symm, show numP (numS 1 (textAt fs 2)) (line, colAt fs 3, 4) = pr3 from hp3.symm, h1, h2, h3]
          exact hp4.symm
        unfold reqP
        rw [hf]
        exact ⟨rfl, fun _ => rfl⟩
/-- The place and the error of a request's record. -/
def reqKE (fs : List Fld) (ls : List Req) : Int × Int :=
  if fs.length ≠ 4 then (-1, 9) else
  if codeB (textAt fs 0) = false then (0, 10) else
  if codeB (textAt fs 1) = false then (1, 10) else
  if numS 1 (textAt fs 2) = none then (2, 4) else
  if (shortV (textAt fs 3)).1 ≠ 0 then (3, ((shortV (textAt fs 3)).1 : Int)) else
  if 0 ≤ idxS (textAt fs 1) (shortV (textAt fs 3)).2 then (3, 11) else
  if hasQ ls (textAt fs 0) (textAt fs 1) = true then (-1, 11) else
  if manyQ ls (textAt fs 0) = true then (-1, 2) else (0, 0)
theorem req_ke (line : Int) (fs : List Fld) (ls : List Req) (h4 : fs.length = 4) :
    reqP line fs ls = if (reqKE fs ls).2 = 0 then none else some (line, placeOf fs (reqKE fs ls).1, (reqKE fs ls).2) := by
  have e0 : placeOf fs 0 = colAt fs 1 := rfl
  have e1 : placeOf fs 1 = colAt fs 2 := rfl
  have e2 : placeOf fs 2 = colAt fs 3 := rfl
  have e3 : placeOf fs 3 = colAt fs 4 := rfl
  have e9 : placeOf fs (-1) = 0 := rfl
  have hsk := @short_ok (textAt fs 3)
  unfold reqP fieldsQ reqKE
  rw [short_codes, if_neg (show ¬ fs.length ≠ 4 from fun h => h h4)]
  obtain ⟨s3, hs3⟩ : ∃ s3, shortV (textAt fs 3) = s3 := ⟨_, rfl⟩
  obtain ⟨l3, hl3⟩ : ∃ l3, (listV (textAt fs 3)).2 = l3 := ⟨_, rfl⟩
  rw [hs3, hl3] at hsk
  rw [hs3, hl3]
  cases codeB (textAt fs 0) with
  | false => simp [orP, noted, e0]
  | true =>
    cases codeB (textAt fs 1) with
    | false => simp [orP, noted, e1]
    | true =>
      cases numS 1 (textAt fs 2) with
      | none => simp [orP, noted, numP, e2]
      | some k =>
        by_cases h3 : s3.1 = 0
        · rw [hsk h3]
          by_cases hm : 0 ≤ idxS (textAt fs 1) l3
          · simp [orP, noted, numP, h3, hm, e3]
          · cases hasQ ls (textAt fs 0) (textAt fs 1) with
            | true => simp [orP, noted, numP, h3, hm, e9]
            | false =>
              cases manyQ ls (textAt fs 0) with
              | true => simp [orP, noted, numP, h3, hm, e9]
              | false => simp [orP, noted, numP, h3, hm]
        · simp [orP, noted, numP, h3, e3]
theorem req_step {line : Int} {fs : List Fld} {st : RG Req} :
    gathStep 4 reqP reqOf st (line, fs) = if (reqKE fs st.ls).2 = 0 then ⟨st.ls ++ [reqOf fs], st.lines ++ [line], st.ps⟩ else ⟨st.ls, st.lines, st.ps ++ [(line, placeOf fs (reqKE fs st.ls).1, (reqKE fs st.ls).2)]⟩ :=
  gath_ke (fun h => if_pos h) (fun h => req_ke line fs st.ls h)
def readReq (rs : List Rec) : RG Req := readAll 4 reqP reqOf rs
theorem reqP_len (line : Int) (fs : List Fld) (ls : List Req) (h : reqP line fs ls = none) : ls.length < 400 ∧ (64 ≤ (freshS (studs ls)).length → 0 ≤ idxS (textAt fs 0) (studs ls)) := by
  unfold reqP at h
  have h1 := (noted_none h).2
  unfold manyQ at h1
  simp at h1
  exact ⟨by omega, fun h => by
    by_cases hm : 0 ≤ idxS (textAt fs 0) (studs ls)
    · exact hm
    · have := h1.2 h; exact absurd hm (by omega)⟩
theorem readReq_len (rs : List Rec) : (readReq rs).ls.length ≤ 400 ∧ (readReq rs).lines.length = (readReq rs).ls.length ∧ (readReq rs).ps.length ≤ rs.length := readAll_len (fun line fs ls h => (reqP_len line fs ls h).1) rs
theorem studs_snoc (l : List Req) (x : Req) : studs (l ++ [x]) = studs l ++ [x.1] := by simp [studs]
/-! Students in natural order; what a student wants, by priority. -/
def lessN (a b : ByteArray) : Bool := decide (compareV a.data.toList b.data.toList < 0)
theorem lessN_no (a b : ByteArray) : lessN a b = false ↔ 0 ≤ compareV a.data.toList b.data.toList := by unfold lessN; simp
abbrev ascN (l : List ByteArray) : List ByteArray := ascG lessN ⟨#[]⟩ l
theorem lessN_trans (x y z : ByteArray) (h1 : lessN y x = false) (h2 : lessN z y = false) : lessN z x = false := by
  rw [lessN_no] at *
  have hc := isCmp_compare
  have e1 := hc.neg y.data.toList x.data.toList
  have e2 := hc.neg z.data.toList y.data.toList
  have e3 := hc.neg z.data.toList x.data.toList
  have := hc.tr x.data.toList y.data.toList z.data.toList (by omega) (by omega)
  omega
theorem lessN_of (x y : ByteArray) (h : lessN x y = true) : lessN y x = false := by
  rw [lessN_no]
  unfold lessN at h
  have h := of_decide_eq_true h
  have e := isCmp_compare.neg x.data.toList y.data.toList
  omega
theorem lessN_anti (x y : ByteArray) (h1 : lessN y x = false) (h2 : lessN x y = false) : x = y := by
  rw [lessN_no] at *
  have e := isCmp_compare.neg x.data.toList y.data.toList
  exact met_inj ((compare_zero _ _).1 (by omega))
theorem ascN_sorted (l : List ByteArray) : (ascN l).Pairwise (LeG lessN) := ascG_sorted lessN_trans lessN_of l
theorem ascN_eq {l m : List ByteArray} (hp : m.Perm l) (hm : m.Pairwise (LeG lessN)) : m = ascN l :=
  sorted_eqG lessN_anti (hp.trans (ascG_perm l).symm) hm (ascN_sorted l)
def studsV (l : List Req) : List ByteArray := ascN (freshS (studs l))
def lessQ (a b : Req) : Bool := decide (a.2.2.1 < b.2.2.1)
def zReq : Req := (⟨#[]⟩, ⟨#[]⟩, 0, [])
abbrev ascQ (l : List Req) : List Req := ascG lessQ zReq l
def ofS (s : ByteArray) (l : List Req) : List Req := l.filter fun x => decide (x.1 = s)
def wantV (s : ByteArray) (l : List Req) : List Req := ascQ (ofS s l)
end Go.Proofs.YthejgholpkeldaaGreatDoor

namespace Go.Proofs.YthejgholpkeldaaGreatDoor
open Go.RowKit
set_option maxRecDepth 100000

theorem apd_reqs : Apd Tryz.prog 27 53 4 64 := apd Tryz.underlying27 (z := .agg #[.string ⟨#[]⟩, .string ⟨#[]⟩, .int .i64 0, .slice none 0 0]) (by kernel_rfl) rfl
/-- A request whose courses instead are known. -/
theorem req_rep {S : Nat → Prop} {W : World} {z co : ByteArray} {m : Int} {F : Option Addr} {n c : Nat} {l : List ByteArray} (h : (kSlice kStr).rep S W l [.slice F n c]) : kReq.rep S W (z, co, m, l) [.string z, .string co, .int .i64 m, .slice F n c] :=
  ⟨[_], _, rfl, rfl, [_], _, rfl, rfl, [_], _, rfl, rfl, h⟩
theorem req_unrep {S : Nat → Prop} {W : World} {x : Req} {vs : List Value} (h : kReq.rep S W x vs) : ∃ F c, vs = [.string x.1, .string x.2.1, .int .i64 x.2.2.1, .slice F x.2.2.2.length c] ∧ (kSlice kStr).rep S W x.2.2.2 [.slice F x.2.2.2.length c] := by
  obtain ⟨u0, r0, e0, h0, hr⟩ := h
  obtain ⟨u1, r1, e1, h1, hr⟩ := hr
  obtain ⟨u2, u3, e2, h2, h3⟩ := hr
  have k3 := h3
  obtain ⟨F, c, rfl, -, -⟩ := h3
  have h0 : u0 = [.string x.1] := h0
  have h1 : u1 = [.string x.2.1] := h1
  have h2 : u2 = [.int .i64 x.2.2.1] := h2
  subst h0 h1 h2 e2 e1 e0
  exact ⟨F, c, rfl, k3⟩
theorem load4q (w : World) (g : Nat) (a b c d : Value) (h0 : w.cell? ⟨g, 0, none⟩ = some a) (h1 : w.cell? ⟨g, 1, none⟩ = some b) (h2 : w.cell? ⟨g, 2, none⟩ = some c) (h3 : w.cell? ⟨g, 3, none⟩ = some d) :
    (loadVar 53 ⟨g, 0, none⟩).run Tryz.prog w = .ok (.agg #[a, b, c, d]) w := by
  simp [go_sem, h0, h1, h2, h3]
theorem end_req {fn : Func} {p : Tmp} (hr : fn.results = #[.cell p 53]) {Q : Ending → World → Prop} {act : Act} {w : World} (g : Nat) (a b c d : Value) (hd : act.defers = [])
    (hp : act.tmps.getD p undef = .pointer (some ⟨g, 0, none⟩))
    (h0 : w.cell? ⟨g, 0, none⟩ = some a) (h1 : w.cell? ⟨g, 1, none⟩ = some b) (h2 : w.cell? ⟨g, 2, none⟩ = some c) (h3 : w.cell? ⟨g, 3, none⟩ = some d)
    (hQ : Q (.returned (.agg #[a, b, c, d])) w) : bodyPost Tryz.prog fn Q .ret act w := by
  refine bodyPost_ret (v := .agg #[a, b, c, d]) ?_ hd hQ
  simp only [results, hr]
  simp [Sem.run_bind, Result.andThen, -Array.getD_eq_getD_getElem?]
  rw [hp]
  simp only [asAddr, Sem.run_pure]
  rw [load4q w g a b c d h0 h1 h2 h3]
end Go.Proofs.YthejgholpkeldaaGreatDoor
