/- Requests as data; what is wrong with them; what their reading gives; their students, and what a student wants (plain). No walk. Requests in rows of their own, and in boxes. No condition. Walks of requests.has, with slices.ContainsFunc and IndexFunc at requests, and of timetableref12.find. Conditions: the requests' cells. A map in which texts are counted, as it is read and written. No condition. Walk of requests.students: a map in which each student's requests are counted. Conditions: the requests' cells. -/
import Derived.Test.YtpojkgfckepoeaaGreatDoorShelfS
import Derived.Test.YtpojkgfckepoeaaGreatDoorRows
import Derived.WalkKit
import Derived.WalkSpells
import Derived.WalkLawsBesides
import Derived.BigGuardPart
import Derived.Lib.Hide
import Derived.Laws.BitsAllLaws
import Derived.Laws.BitsLemmas
import Derived.Lib.LaidTab
import Derived.Test.YtpojkgfckepoeaaGreatDoorShelf
import Derived.Lib.ConvBytes
import Derived.Deep.QuietTactic
import Derived.BigQuiet
import Derived.Laws.ResultCell
import Derived.RegionTactic
import Derived.BigRegion
import Derived.Deep.RegionHeld3
import Derived.Deep.DeepCutAuto
import Derived.Lib.SmallJoins
import Derived.Lib.SplitLaws
import Derived.Lib.CountLaws
import Derived.Lib.IndexMore
import Derived.Lib.Split
import Derived.Lib.Join
import Derived.Lib.ItoaNum
import Derived.Laws.AppendOwn
import Derived.Test.YtpojkgfckepoeaaGreatDoorShelfT
import Derived.Lib.ItoaLen
import Derived.Lib.AppendIntMem
import Derived.Deep.AppendLies
import Derived.Lib.PathFns
import Derived.Maps.Range
import Derived.Lib.OwnBridge
import Derived.Sort.OwnSorted
import Derived.Sort.Walk0
import Derived.Test.YtpojkgfckepoeaaGreatDoorCards
import Derived.Test.YtpojkgfckepoeaaGreatDoorTie
import Derived.ProofKit
import Derived.OpenShut
import Derived.LaidMore
import Derived.Lay
import Derived.SevenTiedAt
import Derived.Stop.Joined
import Derived.Stop.LaidErr
import Derived.Deep.DeepHandedRow
import Derived.Lib.LaidU8
import Derived.LaidSub
import Derived.Deep.Slices
import Derived.Deep.Fields
import Derived.ChangeSame
import Derived.Maps.OwnSet
import Derived.Deep.RegionLaw
import Derived.Deep.RegionLawGrows
import Derived.StringKeys
import Derived.Sort.LotA
import Derived.Test.YtpojkgfckepoeaaGreatDoorXPlainA
import Derived.Test.YtpojkgfckepoeaaGreatDoorXCmpR
import Derived.Test.YtpojkgfckepoeaaGreatDoorXStabQ
import Derived.Test.YtpojkgfckepoeaaGreatDoorXMetP
import Derived.Test.YtpojkgfckepoeaaGreatDoorXSortG
namespace Go.Proofs.YtpojkgfckepoeaaGreatDoor
open Go.RowKit
set_option maxRecDepth 100000

/-- A request: student, course, priority, courses instead. -/
abbrev Req := ByteArray × ByteArray × Int × List ByteArray
def kReq : Kind Req := kPair kStr (kPair kStr (kPair kInt (kSlice kStr)))
theorem At.req {S : Nat → Prop} {w : World} {A : Option Addr} {l : List Req} {j : Nat} {x : Req} (h : At kReq S w A l) (hj : l[j]? = some x) :
    ∃ b off F c, A = some ⟨b, off, none⟩ ∧ S b ∧ b < w.heap.size ∧ (w.cell? ⟨b, off + j * 4, none⟩ = some (.string x.1) ∧ w.cell? ⟨b, off + j * 4 + 1, none⟩ = some (.string x.2.1) ∧ w.cell? ⟨b, off + j * 4 + 2, none⟩ = some (.int .i64 x.2.2.1) ∧ w.cell? ⟨b, off + j * 4 + 3, none⟩ = some (.slice F x.2.2.2.length c)) ∧
      x.2.2.2.length ≤ c ∧ At kStr S w F x.2.2.2 := by
  obtain ⟨b, off, vs, e, hs, hlt, hr, hc⟩ := h.get hj
  obtain ⟨u0, r0, e0, h0, hr⟩ := hr
  obtain ⟨u1, r1, e1, h1, hr⟩ := hr
  obtain ⟨u2, u3, e2, h2, h3⟩ := hr
  obtain ⟨F, c, rfl, l3, a3⟩ := h3
  have h0 : u0 = [.string x.1] := h0
  have h1 : u1 = [.string x.2.1] := h1
  have h2 : u2 = [.int .i64 x.2.2.1] := h2
  subst h0 h1 h2 e2 e1 e0
  have hk : ∀ i u, ([Value.string x.1, .string x.2.1, .int .i64 x.2.2.1, .slice F x.2.2.2.length c] : List Value)[i]? = some u → w.cell? ⟨b, off + j * 4 + i, none⟩ = some u := hc
  exact ⟨b, off, F, c, e, hs, hlt, ⟨hk 0 _ rfl, hk 1 _ rfl, hk 2 _ rfl, hk 3 _ rfl⟩, l3, a3⟩
/-! What is wrong with requests. -/
/-- The error of the courses instead, over the first k. -/
def insE (co : ByteArray) (l : List ByteArray) : Nat → Nat
  | 0 => 0
  | k + 1 => if insE co l k ≠ 0 then insE co l k else if codeB (l.getD k ⟨#[]⟩) = false then 10 else if l.getD k ⟨#[]⟩ = co ∨ 0 ≤ idxS (l.getD k ⟨#[]⟩) (l.take k) then 11 else 0
theorem insE_hit {co : ByteArray} {l : List ByteArray} {j : Nat} (h : insE co l j ≠ 0) : ∀ k, j ≤ k → insE co l k = insE co l j := by
  intro k
  induction k with
  | zero =>
    intro hk
    obtain rfl : j = 0 := by omega
    rfl
  | succ k ih =>
    intro hk
    rcases Nat.lt_or_ge k j with h1 | h1
    · obtain rfl : j = k + 1 := by omega
      rfl
    · have e := ih h1
      rw [insE, if_pos (by rw [e]; exact h), e]
def reqEx (x : Req) : Nat :=
  if codeB x.1 = false then 10 else if codeB x.2.1 = false then 10 else if x.2.2.1 < 1 then 3 else if 9 < x.2.2.1 then 3 else if 8 < x.2.2.2.length then 2 else insE x.2.1 x.2.2.2 x.2.2.2.length
/-- Is there a request of a student for a course. -/
def hasQ (l : List Req) (s c : ByteArray) : Bool := l.any fun x => decide (x.1 = s ∧ x.2.1 = c)
def studs (l : List Req) : List ByteArray := l.map fun x => x.1
/-- Each text once, where it is met first. -/
def freshS (l : List ByteArray) : List ByteArray := l.foldl (fun acc s => if 0 ≤ idxS s acc then acc else acc ++ [s]) []
theorem freshS_snoc (l : List ByteArray) (s : ByteArray) : freshS (l ++ [s]) = if 0 ≤ idxS s (freshS l) then freshS l else freshS l ++ [s] := by unfold freshS; rw [List.foldl_append]; rfl
theorem mem_fresh (l : List ByteArray) (s : ByteArray) : s ∈ freshS l ↔ s ∈ l := by
  induction l using snoc_ind with
  | h0 => simp [freshS]
  | h1 l x ih =>
    rw [freshS_snoc]
    split
    · rename_i h
      replace h := idx_memS.1 h
      rw [ih, List.mem_append]
      constructor
      · exact Or.inl
      · rintro (h1 | h1)
        · exact h1
        · simp at h1; subst h1; exact ih.1 h
    · rw [List.mem_append, List.mem_append, ih]
theorem fresh_nodup (l : List ByteArray) : (freshS l).Nodup := by
  induction l using snoc_ind with
  | h0 => simp [freshS]
  | h1 l x ih =>
    rw [freshS_snoc]
    split
    · exact ih
    · rename_i h
      replace h : ¬ x ∈ freshS l := fun hm => h (idx_memS.2 hm)
      exact List.nodup_append.2 ⟨ih, by simp, fun a ha b hb => by simp at hb; subst hb; rintro rfl; exact h ha⟩
theorem fresh_len (l : List ByteArray) : (freshS l).length ≤ l.length := by
  induction l using snoc_ind with
  | h0 => simp [freshS]
  | h1 l x ih =>
    rw [freshS_snoc, List.length_append]
    split
    · omega
    · rw [List.length_append]; simp; omega
def reqE (x : Req) (prev : List Req) : Nat := if reqEx x ≠ 0 then reqEx x else if hasQ prev x.1 x.2.1 = true then 11 else if 64 < (freshS (studs (prev ++ [x]))).length then 2 else 0
def reqEi (l : List Req) (i : Nat) : Nat := match l[i]? with
  | some x => reqE x (l.take i)
  | none => 0
def reqErr (l : List Req) : Nat → Nat
  | 0 => 0
  | k + 1 => if reqErr l k ≠ 0 then reqErr l k else reqEi l k
def validQ (l : List Req) : Nat := if 400 < l.length then 2 else reqErr l l.length
theorem reqErr_hit {l : List Req} {j : Nat} (h : reqErr l j ≠ 0) : ∀ k, j ≤ k → reqErr l k = reqErr l j := by
  intro k
  induction k with
  | zero =>
    intro hk
    obtain rfl : j = 0 := by omega
    rfl
  | succ k ih =>
    intro hk
    rcases Nat.lt_or_ge k j with h1 | h1
    · obtain rfl : j = k + 1 := by omega
      rfl
    · have e := ih h1
      rw [reqErr, if_pos (by rw [e]; exact h), e]
theorem req_end {l : List Req} {j N e : Nat} {x : Req} (hx : l[j]? = some x) (h0 : reqErr l j = 0) (he : reqE x (l.take j) = e) (hne : e ≠ 0) (hj : j < N) : reqErr l N = e := by
  have h1 : reqErr l (j + 1) = e := by
    rw [reqErr, if_neg (by rw [h0]; simp)]
    unfold reqEi
    rw [hx]
    exact he
  rw [reqErr_hit (by rw [h1]; exact hne) N hj, h1]
theorem req_on {l : List Req} {j : Nat} {x : Req} (hx : l[j]? = some x) (h0 : reqErr l j = 0) (he : reqE x (l.take j) = 0) : reqErr l (j + 1) = 0 := by
  rw [reqErr, if_neg (by rw [h0]; simp)]
  unfold reqEi
  rw [hx]
  exact he
/-! Reading. -/
/-- The problem of a request's fields. -/
def fieldsQ (line : Int) (fs : List Fld) : Option Prob :=
  orP (orP (orP (if codeB (textAt fs 0) then none else some (line, colAt fs 1, 10)) (if codeB (textAt fs 1) then none else some (line, colAt fs 2, 10))) (numP (numS 1 (textAt fs 2)) (line, colAt fs 3, 4))) (codesP 8 line (colAt fs 4) (textAt fs 3))
/-- Are there too many for one more of a student. -/
def manyQ (ls : List Req) (s : ByteArray) : Bool := decide (400 ≤ ls.length) || (decide (64 ≤ (freshS (studs ls)).length) && decide (¬ 0 ≤ idxS s (studs ls)))
/-- The problem of the record of a request, behind others. -/
def reqP (line : Int) (fs : List Fld) (ls : List Req) : Option Prob :=
  noted (noted (noted (fieldsQ line fs) (decide (0 ≤ idxS (textAt fs 1) (listV (textAt fs 3)).2)) (line, colAt fs 4, 11)) (hasQ ls (textAt fs 0) (textAt fs 1)) (line, 0, 11)) (manyQ ls (textAt fs 0)) (line, 0, 2)
def reqOf (fs : List Fld) : Req := (textAt fs 0, textAt fs 1, (((numE 1 (textAt fs 2)).getD 0 : Nat) : Int), (listV (textAt fs 3)).2)
theorem req_steps {line : Int} {fs : List Fld} {ls : List Req} {k1 k2 k3 k4 nn : Nat} {t0 t1 : ByteArray} {l : List ByteArray} {pr1 pr2 pr3 pr4 pr5 : Option Prob}
    (a1 : k1 = 0 + 1 ∧ t0 = textAt fs 0 ∧ pr1 = if codeB (textAt fs 0) then none else some (line, colAt fs (0 + 1), 10))
    (b1 : pr1 = none → k2 = k1 + 1 ∧ t1 = textAt fs k1 ∧ pr2 = if codeB (textAt fs k1) then none else some (line, colAt fs (k1 + 1), 10)) (b2 : ∀ p, pr1 = some p → pr2 = some p)
    (c1 : pr2 = none → k3 = k2 + 1 ∧ nn = (numE 1 (textAt fs k2)).getD 0 ∧ pr3 = numP (numS 1 (textAt fs k2)) (line, colAt fs (k2 + 1), 4)) (c2 : ∀ p, pr2 = some p → pr3 = some p)
    (d1 : pr3 = none → k4 = k3 + 1 ∧ l = (listV (textAt fs k3)).2 ∧ pr4 = codesP 8 line (colAt fs (k3 + 1)) (textAt fs k3)) (d2 : ∀ p, pr3 = some p → pr4 = some p)
    (h5 : noted pr4 (decide (0 ≤ idxS t1 l)) (line, colAt fs k4, 11) = pr5) :
    noted (noted pr5 (hasQ ls t0 t1) (line, 0, 11)) (manyQ ls t0) (line, 0, 2) = reqP line fs ls ∧ (reqP line fs ls = none → (t0, t1, (nn : Int), l) = reqOf fs) := by
  obtain ⟨rfl, rfl, hp1⟩ := a1
  have bad : ∀ p, pr4 = some p → fieldsQ line fs = some p → noted (noted pr5 (hasQ ls (textAt fs 0) t1) (line, 0, 11)) (manyQ ls (textAt fs 0)) (line, 0, 2) = reqP line fs ls ∧ (reqP line fs ls = none → (textAt fs 0, t1, (nn : Int), l) = reqOf fs) := fun p h1 h2 => by
    subst h5
    unfold reqP
    rw [h1, h2]
    exact ⟨rfl, fun h => by cases h⟩
  unfold fieldsQ at bad
  rw [show (if codeB (textAt fs 0) then none else some (line, colAt fs 1, (10 : Int))) = pr1 from hp1.symm] at bad
  cases h1 : pr1 with
  | some p => rw [h1] at bad; exact bad p (d2 p (c2 p (b2 p h1))) rfl
  | none =>
    obtain ⟨rfl, rfl, hp2⟩ := b1 h1
    rw [show (if codeB (textAt fs 1) then none else some (line, colAt fs 2, (10 : Int))) = pr2 from hp2.symm, h1] at bad
    cases h2 : pr2 with
    | some p => rw [h2] at bad; exact bad p (d2 p (c2 p h2)) rfl
    | none =>
      obtain ⟨rfl, rfl, hp3⟩ := c1 h2
      rw [show numP (numS 1 (textAt fs 2)) (line, colAt fs 3, 4) = pr3 from hp3.symm, h2] at bad
      cases h3 : pr3 with
      | some p => rw [h3] at bad; exact bad p (d2 p h3) rfl
      | none =>
        obtain ⟨rfl, rfl, hp4⟩ := d1 h3
        subst h5
        have hf : fieldsQ line fs = pr4 := by
          unfold fieldsQ
          rw [show (if codeB (textAt fs 0) then none else some (line, colAt fs 1, (10 : Int))) = pr1 from hp1.symm, show (if codeB (textAt fs 1) then none else some (line, colAt fs 2, (10 : Int))) = pr2 from hp2.symm, show numP (numS 1 (textAt fs 2)) (line, colAt fs 3, 4) = pr3 from hp3.symm, h1, h2, h3]
          exact hp4.symm
        unfold reqP
        rw [hf]
        exact ⟨rfl, fun _ => rfl⟩
/-- The place and the error of a request's record. -/
def reqKE (fs : List Fld) (ls : List Req) : Int × Int :=
  if fs.length ≠ 4 then (-1, 9) else
  if codeB (textAt fs 0) = false then (0, 10) else
  if codeB (textAt fs 1) = false then (1, 10) else
  if numS 1 (textAt fs 2) = none then (2, 4) else
  if (shortV (textAt fs 3)).1 ≠ 0 then (3, ((shortV (textAt fs 3)).1 : Int)) else
  if 0 ≤ idxS (textAt fs 1) (shortV (textAt fs 3)).2 then (3, 11) else
  if hasQ ls (textAt fs 0) (textAt fs 1) = true then (-1, 11) else
  if manyQ ls (textAt fs 0) = true then (-1, 2) else (0, 0)
theorem req_ke (line : Int) (fs : List Fld) (ls : List Req) (h4 : fs.length = 4) :
    reqP line fs ls = if (reqKE fs ls).2 = 0 then none else some (line, placeOf fs (reqKE fs ls).1, (reqKE fs ls).2) := by
  have e0 : placeOf fs 0 = colAt fs 1 := rfl
  have e1 : placeOf fs 1 = colAt fs 2 := rfl
  have e2 : placeOf fs 2 = colAt fs 3 := rfl
  have e3 : placeOf fs 3 = colAt fs 4 := rfl
  have e9 : placeOf fs (-1) = 0 := rfl
  have hsk := @short_ok (textAt fs 3)
  unfold reqP fieldsQ reqKE
  rw [short_codes, if_neg (show ¬ fs.length ≠ 4 from fun h => h h4)]
  obtain ⟨s3, hs3⟩ : ∃ s3, shortV (textAt fs 3) = s3 := ⟨_, rfl⟩
  obtain ⟨l3, hl3⟩ : ∃ l3, (listV (textAt fs 3)).2 = l3 := ⟨_, rfl⟩
  rw [hs3, hl3] at hsk
  rw [hs3, hl3]
  cases codeB (textAt fs 0) with
  | false => simp [orP, noted, e0]
  | true =>
    cases codeB (textAt fs 1) with
    | false => simp [orP, noted, e1]
    | true =>
      cases numS 1 (textAt fs 2) with
      | none => simp [orP, noted, numP, e2]
      | some k =>
        by_cases h3 : s3.1 = 0
        · rw [hsk h3]
          by_cases hm : 0 ≤ idxS (textAt fs 1) l3
          · simp [orP, noted, numP, h3, hm, e3]
          · cases hasQ ls (textAt fs 0) (textAt fs 1) with
            | true => simp [orP, noted, numP, h3, hm, e9]
            | false =>
              cases manyQ ls (textAt fs 0) with
              | true => simp [orP, noted, numP, h3, hm, e9]
              | false => simp [orP, noted, numP, h3, hm]
        · simp [orP, noted, numP, h3, e3]
theorem req_step {line : Int} {fs : List Fld} {st : RG Req} :
    gathStep 4 reqP reqOf st (line, fs) = if (reqKE fs st.ls).2 = 0 then ⟨st.ls ++ [reqOf fs], st.lines ++ [line], st.ps⟩ else ⟨st.ls, st.lines, st.ps ++ [(line, placeOf fs (reqKE fs st.ls).1, (reqKE fs st.ls).2)]⟩ :=
  gath_ke (fun h => if_pos h) (fun h => req_ke line fs st.ls h)
theorem req_place (fs : List Fld) (ls : List Req) : (reqKE fs ls).1 < fs.length := by
  unfold reqKE
  by_cases h4 : fs.length = 4
  · rw [if_neg (show ¬ fs.length ≠ 4 from fun h => h h4), h4]
    repeat' split
    all_goals first | decide | exact (show (3 : Int) < ((4 : Nat) : Int) by decide)
  · rw [if_pos h4]
    show (-1 : Int) < _
    omega
def readReq (rs : List Rec) : RG Req := readAll 4 reqP reqOf rs
theorem reqP_len (line : Int) (fs : List Fld) (ls : List Req) (h : reqP line fs ls = none) : ls.length < 400 ∧ (64 ≤ (freshS (studs ls)).length → 0 ≤ idxS (textAt fs 0) (studs ls)) := by
  unfold reqP at h
  have h1 := (noted_none h).2
  unfold manyQ at h1
  simp at h1
  exact ⟨by omega, fun h => by
    by_cases hm : 0 ≤ idxS (textAt fs 0) (studs ls)
    · exact hm
    · have := h1.2 h; exact absurd hm (by omega)⟩
theorem readReq_len (rs : List Rec) : (readReq rs).ls.length ≤ 400 ∧ (readReq rs).lines.length = (readReq rs).ls.length ∧ (readReq rs).ps.length ≤ rs.length := readAll_len (fun line fs ls h => (reqP_len line fs ls h).1) rs
theorem studs_snoc (l : List Req) (x : Req) : studs (l ++ [x]) = studs l ++ [x.1] := by simp [studs]
/-- Never more than 64 students are read. -/
theorem readReq_studs : ∀ rs : List Rec, (freshS (studs (readReq rs).ls)).length ≤ 64 := by
  intro rs
  induction rs using snoc_ind with
  | h0 => simp [readReq, readAll, studs, freshS]
  | h1 rs r ih =>
    obtain ⟨line, fs⟩ := r
    have hst : readReq (rs ++ [(line, fs)]) = gathStep 4 reqP reqOf (readReq rs) (line, fs) := by simp [readReq, readAll, List.foldl_append]
    rw [hst]
    unfold gathStep
    dsimp only
    by_cases h4 : fs.length = 4
    · rw [if_pos h4]
      cases hp : reqP line fs (readReq rs).ls with
      | some p => exact ih
      | none =>
        dsimp only
        have h1 := (reqP_len line fs _ hp).2
        rw [studs_snoc, freshS_snoc]
        split
        · exact ih
        · rename_i hm
          rw [List.length_append]
          have : ¬ 64 ≤ (freshS (studs (readReq rs).ls)).length := fun h => hm (idx_memS.2 ((mem_fresh _ _).2 (idx_memS.1 (h1 h))))
          simp; omega
    · rw [if_neg h4]; exact ih
/-! Students in natural order; what a student wants, by priority. -/
def lessN (a b : ByteArray) : Bool := decide (compareV a.data.toList b.data.toList < 0)
theorem lessN_no (a b : ByteArray) : lessN a b = false ↔ 0 ≤ compareV a.data.toList b.data.toList := by unfold lessN; simp
abbrev ascN (l : List ByteArray) : List ByteArray := ascG lessN ⟨#[]⟩ l
theorem lessN_trans (x y z : ByteArray) (h1 : lessN y x = false) (h2 : lessN z y = false) : lessN z x = false := by
  rw [lessN_no] at *
  have hc := isCmp_compare
  have e1 := hc.neg y.data.toList x.data.toList
  have e2 := hc.neg z.data.toList y.data.toList
  have e3 := hc.neg z.data.toList x.data.toList
  have := hc.tr x.data.toList y.data.toList z.data.toList (by omega) (by omega)
  omega
theorem lessN_of (x y : ByteArray) (h : lessN x y = true) : lessN y x = false := by
  rw [lessN_no]
  unfold lessN at h
  have h := of_decide_eq_true h
  have e := isCmp_compare.neg x.data.toList y.data.toList
  omega
theorem lessN_anti (x y : ByteArray) (h1 : lessN y x = false) (h2 : lessN x y = false) : x = y := by
  rw [lessN_no] at *
  have e := isCmp_compare.neg x.data.toList y.data.toList
  exact met_inj ((compare_zero _ _).1 (by omega))
theorem ascN_sorted (l : List ByteArray) : (ascN l).Pairwise (LeG lessN) := ascG_sorted lessN_trans lessN_of l
theorem ascN_eq {l m : List ByteArray} (hp : m.Perm l) (hm : m.Pairwise (LeG lessN)) : m = ascN l :=
  sorted_eqG lessN_anti (hp.trans (ascG_perm l).symm) hm (ascN_sorted l)
def studsV (l : List Req) : List ByteArray := ascN (freshS (studs l))
def lessQ (a b : Req) : Bool := decide (a.2.2.1 < b.2.2.1)
def zReq : Req := (⟨#[]⟩, ⟨#[]⟩, 0, [])
abbrev ascQ (l : List Req) : List Req := ascG lessQ zReq l
def ofS (s : ByteArray) (l : List Req) : List Req := l.filter fun x => decide (x.1 = s)
def wantV (s : ByteArray) (l : List Req) : List Req := ascQ (ofS s l)
end Go.Proofs.YtpojkgfckepoeaaGreatDoor

namespace Go.Proofs.YtpojkgfckepoeaaGreatDoor
open Go.RowKit
set_option maxRecDepth 100000

theorem apd_reqs : Apd Tryz.prog 22 61 4 64 := apd Tryz.underlying22 (z := .agg #[.string ⟨#[]⟩, .string ⟨#[]⟩, .int .i64 0, .slice none 0 0]) (by kernel_rfl) rfl
/-- A request whose courses instead are known. -/
theorem req_rep {S : Nat → Prop} {W : World} {z co : ByteArray} {m : Int} {F : Option Addr} {n c : Nat} {l : List ByteArray} (h : (kSlice kStr).rep S W l [.slice F n c]) : kReq.rep S W (z, co, m, l) [.string z, .string co, .int .i64 m, .slice F n c] :=
  ⟨[_], _, rfl, rfl, [_], _, rfl, rfl, [_], _, rfl, rfl, h⟩
theorem req_unrep {S : Nat → Prop} {W : World} {x : Req} {vs : List Value} (h : kReq.rep S W x vs) : ∃ F c, vs = [.string x.1, .string x.2.1, .int .i64 x.2.2.1, .slice F x.2.2.2.length c] ∧ (kSlice kStr).rep S W x.2.2.2 [.slice F x.2.2.2.length c] := by
  obtain ⟨u0, r0, e0, h0, hr⟩ := h
  obtain ⟨u1, r1, e1, h1, hr⟩ := hr
  obtain ⟨u2, u3, e2, h2, h3⟩ := hr
  have k3 := h3
  obtain ⟨F, c, rfl, -, -⟩ := h3
  have h0 : u0 = [.string x.1] := h0
  have h1 : u1 = [.string x.2.1] := h1
  have h2 : u2 = [.int .i64 x.2.2.1] := h2
  subst h0 h1 h2 e2 e1 e0
  exact ⟨F, c, rfl, k3⟩
theorem load4q (w : World) (g : Nat) (a b c d : Value) (h0 : w.cell? ⟨g, 0, none⟩ = some a) (h1 : w.cell? ⟨g, 1, none⟩ = some b) (h2 : w.cell? ⟨g, 2, none⟩ = some c) (h3 : w.cell? ⟨g, 3, none⟩ = some d) :
    (loadVar 61 ⟨g, 0, none⟩).run Tryz.prog w = .ok (.agg #[a, b, c, d]) w := by
  simp [go_sem, h0, h1, h2, h3]
theorem end_req {fn : Func} {p : Tmp} (hr : fn.results = #[.cell p 61]) {Q : Ending → World → Prop} {act : Act} {w : World} (g : Nat) (a b c d : Value) (hd : act.defers = [])
    (hp : act.tmps.getD p undef = .pointer (some ⟨g, 0, none⟩))
    (h0 : w.cell? ⟨g, 0, none⟩ = some a) (h1 : w.cell? ⟨g, 1, none⟩ = some b) (h2 : w.cell? ⟨g, 2, none⟩ = some c) (h3 : w.cell? ⟨g, 3, none⟩ = some d)
    (hQ : Q (.returned (.agg #[a, b, c, d])) w) : bodyPost Tryz.prog fn Q .ret act w := by
  refine bodyPost_ret (v := .agg #[a, b, c, d]) ?_ hd hQ
  simp only [results, hr]
  simp [Sem.run_bind, Result.andThen, -Array.getD_eq_getD_getElem?]
  rw [hp]
  simp only [asAddr, Sem.run_pure]
  rw [load4q w g a b c d h0 h1 h2 h3]
end Go.Proofs.YtpojkgfckepoeaaGreatDoor

namespace Go.Proofs.YtpojkgfckepoeaaGreatDoor
open Go.RowKit
set_option maxRecDepth 100000

def isQ (s c : ByteArray) (x : Req) : Bool := decide (x.1 = s ∧ x.2.1 = c)
/-- The place of a request, -1 if there is none. -/
def idxQ (s c : ByteArray) (l : List Req) : Int := if hasQ l s c = true then ((l.findIdx (isQ s c) : Nat) : Int) else -1
theorem hasQ_iff {l : List Req} {s c : ByteArray} : hasQ l s c = true ↔ ∃ x ∈ l, isQ s c x = true := by unfold hasQ isQ; rw [List.any_eq_true]
theorem hasQ_no {l : List Req} {s c : ByteArray} (h : ∀ y ∈ l, isQ s c y = false) : hasQ l s c = false := by
  cases hh : hasQ l s c with
  | false => rfl
  | true => obtain ⟨x, hx, hq⟩ := hasQ_iff.1 hh; rw [h x hx] at hq; cases hq
theorem idxQ_none {l : List Req} {s c : ByteArray} (h : ∀ y ∈ l, isQ s c y = false) : idxQ s c l = -1 := by unfold idxQ; rw [hasQ_no h]; rfl
theorem idxQ_hit {l : List Req} {s c : ByteArray} {j : Nat} {x : Req} (hx : l[j]? = some x) (h : ∀ y ∈ l.take j, isQ s c y = false) (hq : isQ s c x = true) : idxQ s c l = (j : Int) ∧ hasQ l s c = true := by
  obtain ⟨hj, hxe⟩ := List.getElem?_eq_some_iff.1 hx
  have hh : hasQ l s c = true := hasQ_iff.2 ⟨x, List.mem_of_getElem? hx, hq⟩
  refine ⟨?_, hh⟩
  unfold idxQ
  rw [if_pos hh]
  have : l.findIdx (isQ s c) = j := (List.findIdx_eq hj).2 ⟨by rw [hxe]; exact hq, fun i hi => h _ (by
    rw [List.mem_take_iff_getElem]
    exact ⟨i, by omega, rfl⟩)⟩
  rw [this]
theorem takeQ_miss {l : List Req} {s c : ByteArray} {j : Nat} {x : Req} (hx : l[j]? = some x) (h : ∀ y ∈ l.take j, isQ s c y = false) (hq : isQ s c x = false) : ∀ y ∈ l.take (j + 1), isQ s c y = false := by
  intro y hy
  rw [List.take_add_one, hx] at hy
  rcases List.mem_append.1 hy with hy | hy
  · exact h y hy
  · simp at hy; rw [hy]; exact hq
theorem idxQ_pos {l : List Req} {s c : ByteArray} : 0 ≤ idxQ s c l ↔ hasQ l s c = true := by
  unfold idxQ
  split
  · rename_i h; exact ⟨fun _ => h, fun _ => by omega⟩
  · rename_i h; exact ⟨fun h' => by omega, fun h' => absurd h' h⟩
/-- A request's own place: an earlier one is there just if it stands among those ahead. -/
theorem idxQ_lt {l : List Req} {i : Nat} {x : Req} (hx : l[i]? = some x) : idxQ x.1 x.2.1 l < (i : Int) ↔ hasQ (l.take i) x.1 x.2.1 = true := by
  by_cases hh : ∀ y ∈ l.take i, isQ x.1 x.2.1 y = false
  · have hq : isQ x.1 x.2.1 x = true := by simp [isQ]
    rw [(idxQ_hit hx hh hq).1, hasQ_no hh]
    constructor
    · intro h; omega
    · intro h; cases h
  · have hex : ∃ y ∈ l.take i, isQ x.1 x.2.1 y = true := by
      apply Classical.byContradiction
      intro hn
      exact hh fun y hy => by cases h : isQ x.1 x.2.1 y with
        | false => rfl
        | true => exact absurd ⟨y, hy, h⟩ hn
    refine ⟨fun _ => hasQ_iff.2 hex, fun _ => ?_⟩
    obtain ⟨y, hy, hq⟩ := hex
    obtain ⟨j, hj, rfl⟩ := List.mem_take_iff_getElem.1 hy
    have hall : hasQ l x.1 x.2.1 = true := hasQ_iff.2 ⟨_, List.getElem_mem _, hq⟩
    unfold idxQ
    rw [if_pos hall]
    have hle : l.findIdx (isQ x.1 x.2.1) ≤ j := by
      apply Classical.byContradiction
      intro hn
      have := List.not_of_lt_findIdx (p := isQ x.1 x.2.1) (xs := l) (i := j) (by omega)
      rw [hq] at this; cases this
    omega
theorem isQ_eq (x : Req) (s c : ByteArray) : isQ s c x = (x.1.toList == s.toList && x.2.1.toList == c.toList) := by
  unfold isQ
  have h : ∀ a b : ByteArray, (a.toList == b.toList) = decide (a = b) := fun a b => by
    by_cases e : a = b
    · subst e; simp
    · rw [decide_eq_false e]
      exact beq_false_of_ne fun h => e (met_inj (by rw [← toList_dataL, ← toList_dataL]; exact h))
  rw [h, h]
  exact Bool.decide_and _ _
-- walks
set_option maxHeartbeats 2000000 in
theorem qhas1_walk (z co s cc : ByteArray) (m : Int) (F : Option Addr) (n c x : Nat) (w : World) (hc0 : w.cell? ⟨x, 0, none⟩ = some (.string s)) (hc1 : w.cell? ⟨x, 1, none⟩ = some (.string cc)) :
    Calls Tryz.prog 73 #[.agg #[.string z, .string co, .int .i64 m, .slice F n c], .pointer (some ⟨x, 0, none⟩)] w fun e w' => e = .returned (.bool (z.toList == s.toList && co.toList == cc.toList)) ∧ Below w.heap.size w w' := by
  have hlt := World.block_lt_of_cell? _ _ hc0
  cases h1 : (z.toList == s.toList)
  all_goals
    cases h2 : (co.toList == cc.toList)
    all_goals
      go_enter Tryz.func73, Tryz.ntmps73
      go_wp2
      go_ret
      exact ⟨rfl, (by repeat (first | exact Below.refl _ _ | refine ext_alloc ?_ _ | refine ext_drewN ?_ _ | refine ext_drew ?_ | refine ext_trans ?_ (by assumption)))⟩
set_option maxHeartbeats 4000000 in
theorem qidx_walk (A : Option Addr) (l : List Req) (c g : Nat) (s cc : ByteArray) (w : World) (hn : l.length ≤ 9223372036854775807) (h : At kReq AnyB w A l) (hc0 : w.cell? ⟨g, 0, none⟩ = some (.string s)) (hc1 : w.cell? ⟨g, 1, none⟩ = some (.string cc)) :
    Calls Tryz.prog 101 #[.slice A l.length c, .func (.func 73) #[] #[.pointer (some ⟨g, 0, none⟩)]] w fun e w' => e = .returned (.int .i64 (idxQ s cc l)) ∧ Below w.heap.size w w' := by
  have eg : ∀ args w, (callFunc 73 args).run Tryz.prog w = .ok (.enter 73 args) w := enters_of Tryz.func73 (by kernel_rfl) rfl
  obtain ⟨N, hnn⟩ : ∃ N, l.length = N := ⟨_, rfl⟩
  rw [hnn] at hn ⊢
  replace hnn := hide hnn
  go_enter Tryz.func101, Tryz.ntmps101
  go_wp2
  go_loopw [5, 8] (fun _ i wr => ∃ j : Nat, j ≤ N ∧ i = .int .i64 j ∧ Hid (∀ y ∈ l.take j, isQ s cc y = false) ∧ Below w.heap.size w wr) (fun _ i _ => N - (intOf i).toNat)
  case atStart => exact ⟨0, Nat.zero_le _, rfl, hide (fun y hy => by simp at hy), Below.refl _ _⟩
  case round =>
    obtain ⟨j, hj, rfl, ho, hb⟩ := hrel
    by_cases hlt : j < N
    · obtain ⟨x, hx⟩ : ∃ x, l[j]? = some x := ⟨_, List.getElem?_eq_getElem (by rw [hnn.out]; exact hlt)⟩
      obtain ⟨b, off, F, cF, rfl, -, hbb, ⟨q0, q1, q2, q3⟩, -, -⟩ := (h.later hb).req hx
      have hcall := qhas1_walk x.1 x.2.1 s cc x.2.2.1 F x.2.2.2.length cF g wr (cell_later hb hc0) (cell_later hb hc1)
      rw [← isQ_eq] at hcall
      obtain ⟨z, co, m, ts⟩ := x
      dsimp only at q0 q1 q2 q3 hcall
      obtain ⟨nt, hnt⟩ : ∃ nt, ts.length = nt := ⟨_, rfl⟩
      rw [hnt] at q3 hcall
      have hj0 : (0 : Int) ≤ (j : Int) := by omega
      have hj1 : (j : Int) < (N : Int) := by omega
      cases hq : isQ s cc (z, co, m, ts) with
      | true =>
        have hit := hide (idxQ_hit hx ho.out hq).1
        rw [hq] at hcall
        clear hx h ho hq hc0 hc1 hnt
        go_wp2_with (go_at_fn 73; refine hcall.mono ?_; rintro e w' ⟨rfl, hb2⟩)
        go_ret
        exact ⟨by rw [hit.out]; rfl, ext_trans hb hb2⟩
      | false =>
        have miss := hide (takeQ_miss hx ho.out hq)
        rw [hq] at hcall
        clear hx h ho hq hc0 hc1 hnt
        go_wp2_with (go_at_fn 73; refine hcall.mono ?_; rintro e w' ⟨rfl, hb2⟩)
        go_roundw
        case rel => exact ⟨j + 1, by omega, by go_num, miss, ext_trans hb hb2⟩
        case measure => simp [intOf]; omega
    · obtain rfl : j = N := by omega
      have hall : Hid (idxQ s cc l = -1) := hide (idxQ_none fun y hy => ho.out y (by rw [List.take_of_length_le (by rw [hnn.out]; exact Nat.le_refl _)]; exact hy))
      clear h
      go_wp2
      go_ret
      exact ⟨by rw [hall.out]; rfl, hb⟩
set_option maxHeartbeats 2000000 in
theorem qcon_walk (A : Option Addr) (l : List Req) (c g : Nat) (s cc : ByteArray) (w : World) (hn : l.length ≤ 9223372036854775807) (h : At kReq AnyB w A l) (hc0 : w.cell? ⟨g, 0, none⟩ = some (.string s)) (hc1 : w.cell? ⟨g, 1, none⟩ = some (.string cc)) :
    Calls Tryz.prog 72 #[.slice A l.length c, .func (.func 73) #[] #[.pointer (some ⟨g, 0, none⟩)]] w fun e w' => e = .returned (.bool (hasQ l s cc)) ∧ Below w.heap.size w w' := by
  have hcall := qidx_walk A l c g s cc w hn h hc0 hc1
  have hp : decide (0 ≤ idxQ s cc l) = hasQ l s cc := by
    cases hh : hasQ l s cc with
    | true => exact decide_eq_true (idxQ_pos.2 hh)
    | false => exact decide_eq_false (fun h => by rw [idxQ_pos.1 h] at hh; cases hh)
  rw [← hp]
  clear h hp
  go_enter Tryz.func72, Tryz.ntmps72
  go_wp2_with fail
  refine hcall.mono ?_
  rintro e w' ⟨rfl, hb⟩
  go_wp2
  go_ret
  exact ⟨rfl, hb⟩
set_option maxHeartbeats 2000000 in
theorem qhas_walk (A : Option Addr) (l : List Req) (c : Nat) (z co : ByteArray) (m : Int) (F : Option Addr) (n cF : Nat) (w : World) (hn : l.length ≤ 9223372036854775807) (h : At kReq AnyB w A l) :
    Calls Tryz.prog 41 #[.slice A l.length c, .agg #[.string z, .string co, .int .i64 m, .slice F n cF]] w fun e w' => e = .returned (.bool (hasQ l z co)) ∧ Below w.heap.size w w' := by
  have hb0 : Below w.heap.size w (w.alloc (.cells #[.string z, .string co, .int .i64 m, .slice F n cF] 61)) := ext_alloc (Below.refl _ _) _
  have hcall := qcon_walk A l c w.heap.size z co _ hn (h.later hb0) (by simp) (by simp)
  clear h
  go_enter Tryz.func41, Tryz.ntmps41
  go_wp2_with fail
  refine hcall.mono ?_
  rintro e w' ⟨rfl, hb⟩
  go_wp2
  go_ret
  exact ⟨rfl, ext_trans hb0 hb⟩
set_option maxHeartbeats 4000000 in
theorem r12find_walk (A : Option Addr) (l : List Req) (c : Nat) (s cc : ByteArray) (w : World) (hn : l.length ≤ 9223372036854775807) (h : At kReq AnyB w A l) :
    Calls Tryz.prog 44 #[.slice A l.length c, .string s, .string cc] w fun e w' => e = .returned (.int .i64 (idxQ s cc l)) ∧ w = w' := by
  obtain ⟨N, hnn⟩ : ∃ N, l.length = N := ⟨_, rfl⟩
  rw [hnn] at hn ⊢
  replace hnn := hide hnn
  go_enter Tryz.func44, Tryz.ntmps44
  go_wp2
  go_loop [7] (fun i => ∃ j : Nat, j ≤ N ∧ i = .int .i64 j ∧ Hid (∀ y ∈ l.take j, isQ s cc y = false)) (fun i => N - (intOf i).toNat)
  case atStart => exact ⟨0, Nat.zero_le _, rfl, hide (fun y hy => by simp at hy)⟩
  case round =>
    obtain ⟨j, hj, rfl, ho⟩ := hrel
    by_cases hlt : j < N
    · obtain ⟨x, hx⟩ : ∃ x, l[j]? = some x := ⟨_, List.getElem?_eq_getElem (by rw [hnn.out]; exact hlt)⟩
      obtain ⟨b, off, F, cF, rfl, -, hbb, ⟨q0, q1, -, -⟩, -, -⟩ := h.req hx
      have hq := isQ_eq x s cc
      have hj0 : (0 : Int) ≤ (j : Int) := by omega
      have hj1 : (j : Int) < (N : Int) := by omega
      cases h1 : (x.1.toList == s.toList) <;> cases h2 : (x.2.1.toList == cc.toList)
      case true.true =>
        rw [h1, h2] at hq
        have hit := hide (idxQ_hit hx ho.out hq).1
        clear hx h ho hq
        go_wp2
        go_ret
        exact ⟨by rw [hit.out]; rfl, rfl⟩
      all_goals
        rw [h1, h2] at hq
        have miss := hide (takeQ_miss hx ho.out hq)
        clear hx h ho hq
        go_wp2
        go_round
        case rel => exact ⟨j + 1, by omega, by go_num, miss⟩
        case measure => simp [intOf]; omega
    · obtain rfl : j = N := by omega
      have hall : Hid (idxQ s cc l = -1) := hide (idxQ_none fun y hy => ho.out y (by rw [List.take_of_length_le (by rw [hnn.out]; exact Nat.le_refl _)]; exact hy))
      clear h
      go_wp2
      go_ret
      exact ⟨by rw [hall.out]; rfl, rfl⟩
end Go.Proofs.YtpojkgfckepoeaaGreatDoor

namespace Go.Proofs.YtpojkgfckepoeaaGreatDoor
open Go.RowKit
set_option maxRecDepth 100000

/-- How often a text stands in a list. -/
def countS (z : ByteArray) (l : List ByteArray) : Nat := (l.filter fun y => decide (y = z)).length
theorem countS_snoc (z y : ByteArray) (l : List ByteArray) : countS z (l ++ [y]) = countS z l + if y = z then 1 else 0 := by
  unfold countS
  rw [List.filter_append, List.length_append]
  by_cases e : y = z
  · simp [e]
  · simp [e]
theorem countS_le (z : ByteArray) (l : List ByteArray) : countS z l ≤ l.length := List.length_filter_le _ _
theorem countS_zero (z : ByteArray) (l : List ByteArray) : countS z l = 0 ↔ ¬ 0 ≤ idxS z l := by
  rw [idx_memS]
  unfold countS
  rw [List.length_eq_zero_iff, List.filter_eq_nil_iff]
  constructor
  · intro h hm
    exact h z hm (by simp)
  · intro h y hy e
    have e : y = z := by simpa using e
    exact h (e ▸ hy)
/-- Block b is a map in which each text is counted as often as it stands in the list. -/
def CntAt (w : World) (b : Nat) (ss : List ByteArray) : Prop :=
  ∃ D : DataW Unit, w.ownsMap Tryz.prog 9 (plainElem Tryz.prog 3) b ss.length D ∧ (∀ z : ByteArray, D.atKey (.string z.data.toList) (.lit (.int .i64 0)) = .lit (.int .i64 (countS z ss : Nat))) ∧ (∀ z : ByteArray, Maps.has D (.string z.data.toList) = decide (0 ≤ idxS z ss)) ∧ Maps.size D = (freshS ss).length
theorem cnt_made (w : World) : CntAt (w.alloc (.map #[] 0)) w.heap.size [] := ⟨.map [], World.ownsMap_made _ _ _ _, fun _ => rfl, fun z => (decide_eq_false (fun h => absurd (idx_memS.1 h) (by simp))).symm, rfl⟩
theorem CntAt.lt {w : World} {b : Nat} {ss : List ByteArray} (h : CntAt w b ss) : b < w.heap.size := by obtain ⟨D, h, -⟩ := h; exact h.lt
theorem CntAt.later {w w' : World} {b : Nat} {ss : List ByteArray} (h : CntAt w b ss) (hb : Below w.heap.size w w') : CntAt w' b ss := by
  have hlt := h.lt
  obtain ⟨D, ⟨es, clock, h1, h2⟩, h3⟩ := h
  exact ⟨D, ⟨es, clock, (hb.block b hlt).trans h1, h2⟩, h3⟩
theorem cnt_look {w : World} {b : Nat} {ss : List ByteArray} (h : CntAt w b ss) (z : ByteArray) (hz : z.size ≤ 9223372036854775807) :
    (Instr.lookup 70 (.map (some b)) (.string z) false).run Tryz.prog w = .ok (.int .i64 (countS z ss : Nat)) w := by
  obtain ⟨D, h1, h2, -⟩ := h
  obtain ⟨c, hrun, hc, -⟩ := h1.lookup_int (t := 70) (e := 3) (q := .i64) (Maps.string_keyed Tryz.underlying9) Tryz.underlying70 Tryz.underlying3 (Tryz.zeroValue3 w) (key := .string z) (WideMaps.keyOf_string_mk Tryz.underlying9 (by unfold maxLen; omega))
  rw [h2 z] at hc
  injection hc with hc
  injection hc with _ hc
  rw [hrun, ← hc]
theorem cnt_len {w : World} {b : Nat} {ss : List ByteArray} (h : CntAt w b ss) (ty : TypeId) : (Builtin.len_ #[70] ty #[.map (some b)]).run Tryz.prog w = .ok (.int .i64 ((freshS ss).length : Nat)) w := by
  obtain ⟨D, h1, -, -, h4⟩ := h
  rw [h1.len Tryz.underlying70 ty, h4]
theorem wpList_cnt {w : World} {ops : Array Oper} {rest : List Oper} {o : Oper} {a : Act} {Q : Exit → Act → World → Prop} (hg : o.guard = none) (m x v : Operand) (hop : o.op = Op.mapUpdate 70 m x v) {b : Nat} {ss : List ByteArray} {z : ByteArray}
    (hm : a.eval m = .map (some b)) (h : CntAt w b ss) (hn : ss.length ≤ 4000000000000000000) (hx : a.eval x = .string z) (hz : z.size ≤ 9223372036854775807) (hv : a.eval v = .int .i64 ((countS z ss : Nat) + 1))
    (hk : ∀ w', CntAt w' b (ss ++ [z]) → w.grownBy w' (some b) → wpList Tryz.prog ops Q rest (a.put o.dst undef) w') : wpList Tryz.prog ops Q (o :: rest) a w := by
  obtain ⟨D, h1, h2, h3, h4⟩ := h
  have hcl := countS_le z ss
  have hT := h1.tidy (Maps.string_keyed Tryz.underlying9)
  refine wpList_mapUpdate_own w hg m x v 70 hop 9 3 (Maps.string_keyed Tryz.underlying9) Tryz.underlying70 _ b ss.length D hm h1 (by unfold maxLen; omega) (.string z) (.int .i64 ((countS z ss : Nat) + 1)) (.string z.data.toList) hx hv (WideMaps.keyOf_string_mk Tryz.underlying9 (by unfold maxLen; omega)) (.lit (.int .i64 ((countS z ss : Nat) + 1))) [] (plainElem_int Tryz.underlying3 (WalkArith.wf_i64 (by omega))) fun w' h5 h6 => hk w' ⟨_, by rw [List.length_append]; exact h5, fun y => ?_, fun y => ?_, ?_⟩ h6
  · rw [countS_snoc]
    by_cases e : z = y
    · subst e
      rw [Maps.atKey_put_same h1.isMap (show WideAt.IsKeyLit (.string z.data.toList) from trivial), if_pos rfl]; rfl
    · rw [Maps.atKey_put_other (fun h => e (met_inj (by injection h with h; exact h.symm))), h2 y, if_neg e]; rfl
  · by_cases e : y = z
    · subst e
      rw [Maps.has_put_same h1.isMap (show WideAt.IsKeyLit (.string y.data.toList) from trivial)]
      exact (decide_eq_true (idx_memS.2 (by simp))).symm
    · rw [Maps.has_put_other (fun h => e (met_inj (by injection h))), h3 y]
      exact decide_eq_decide.2 (by rw [idx_memS, idx_memS]; simp [e])
  · rw [Maps.size_put hT, h3 z, h4, freshS_snoc]
    by_cases e : z ∈ ss
    · rw [decide_eq_true (idx_memS.2 e), if_pos rfl, if_pos (idx_memS.2 ((mem_fresh _ _).2 e))]
    · rw [decide_eq_false (fun h => e (idx_memS.1 h)), if_neg (by simp), if_neg (fun h => e ((mem_fresh _ _).1 (idx_memS.1 h)))]; simp
end Go.Proofs.YtpojkgfckepoeaaGreatDoor

namespace Go.Proofs.YtpojkgfckepoeaaGreatDoor
open Go.RowKit
set_option maxRecDepth 100000

theorem studs_take {l : List Req} {j : Nat} {x : Req} (hx : l[j]? = some x) : (studs l).take (j + 1) = (studs l).take j ++ [x.1] := by
  have e : (studs l)[j]? = some x.1 := by unfold studs; rw [List.getElem?_map, hx]; rfl
  rw [List.take_add_one, e]; rfl
def StudsGives (l : List Req) (w : World) (e : Ending) (w' : World) : Prop := ∃ b, e = .returned (.map (some b)) ∧ w.heap.size ≤ b ∧ CntAt w' b (studs l) ∧ Below w.heap.size w w'
set_option maxHeartbeats 4000000 in
theorem students_walk (A : Option Addr) (l : List Req) (c : Nat) (w : World) (hn : l.length ≤ 4000000000000000000) (hz : ∀ x ∈ l, x.1.size ≤ 9223372036854775807) (h : At kReq AnyB w A l) :
    Calls Tryz.prog 45 #[.slice A l.length c] w fun e w' => StudsGives l w e w' := by
  obtain ⟨N, hN⟩ : ∃ N, l.length = N := ⟨_, rfl⟩
  have hsl : Hid ((studs l).length = N) := hide (by rw [← hN]; exact List.length_map _)
  rw [hN] at hn ⊢
  replace hN := hide hN
  replace hz := hide hz
  have hmm := @run_makeMap Tryz.prog
  go_enter Tryz.func45, Tryz.ntmps45
  go_wp2
  have hm0 := cnt_made w
  have hb0 : Below w.heap.size w (w.alloc (.map #[] 0)) := ext_alloc (Below.refl _ _) _
  clear hmm
  go_loopw [9] (fun i wr => ∃ j : Nat, j ≤ N ∧ i = .int .i64 j ∧ CntAt wr w.heap.size ((studs l).take j) ∧ Below w.heap.size w wr) (fun i _ => N - (intOf i).toNat)
  case atStart => exact ⟨0, Nat.zero_le _, rfl, hm0, hb0⟩
  case round =>
    clear hm0 hb0
    obtain ⟨j, hj, rfl, hmet, hb⟩ := hrel
    by_cases hlt : j < N
    · obtain ⟨x, hx⟩ : ∃ x, l[j]? = some x := ⟨_, List.getElem?_eq_getElem (by rw [hN.out]; exact hlt)⟩
      have hxz := hz.out x (List.mem_of_getElem? hx)
      have hsn := studs_take hx
      obtain ⟨rb, off, F, cF, rfl, -, hrb, ⟨q0, q1, q2, q3⟩, -, -⟩ := (h.later hb).req hx
      obtain ⟨z, co, m, ts⟩ := x
      dsimp only at q0 q1 q2 q3 hsn hxz
      obtain ⟨nt, hnt⟩ : ∃ nt, ts.length = nt := ⟨_, rfl⟩
      rw [hnt] at q3
      have hj0 : (0 : Int) ≤ (j : Int) := by omega
      have hj1 : (j : Int) < (N : Int) := by omega
      have hb1 : Below wr.heap.size wr (wr.alloc (.cells #[.string z, .string co, .int .i64 m, .slice F nt cF] 61)) := ext_alloc (Below.refl _ _) _
      have hm1 := hmet.later hb1
      have hlk := cnt_look hm1 z hxz
      have hml : ((studs l).take j).length ≤ 4000000000000000000 := by rw [List.length_take, hsl.out]; omega
      have hcl := countS_le z ((studs l).take j)
      have hwc : IntKind.i64.wrap (((countS z ((studs l).take j) : Nat) : Int) + 1) = ((countS z ((studs l).take j) : Nat) : Int) + 1 := IntWalk.i64_in _ (by omega)
      have hbw := ext_trans hb hb1
      replace hsn := hide hsn
      obtain ⟨ss, hss⟩ : ∃ ss, (studs l).take j = ss := ⟨_, rfl⟩
      rw [hss] at hm1 hlk hml hcl hwc
      replace hss := hide hss
      clear hx hmet hnt hb1 hb hcl
      go_wp2_with (at_mapUpdate; refine wpList_cnt rfl _ _ _ rfl rfl hm1 hml rfl hxz rfl ?_; intro w10 hm10 hg10)
      have hb10 : Below w.heap.size w w10 := Below.grown hbw hg10 hbw.size (fun y e => by injection e with e; omega)
      rw [← hss.out, ← hsn.out] at hm10
      go_roundw
      case rel => exact ⟨j + 1, by omega, by go_num, hm10, hb10⟩
      case measure => first | (simp [intOf]; done) | (simp [intOf]; omega)
    · obtain rfl : j = N := by omega
      have hall : Hid ((studs l).take j = studs l) := hide (List.take_of_length_le (by rw [hsl.out]; exact Nat.le_refl _))
      rw [hall.out] at hmet
      go_wp2
      go_ret
      exact ⟨_, rfl, Nat.le_refl _, hmet, hb⟩
end Go.Proofs.YtpojkgfckepoeaaGreatDoor
