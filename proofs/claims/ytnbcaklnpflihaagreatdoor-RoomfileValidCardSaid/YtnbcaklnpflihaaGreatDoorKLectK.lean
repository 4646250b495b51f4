/- Lecturers and times as kinds of data. No condition. -/
import Derived.Test.YtnbcaklnpflihaaGreatDoorKKindArg
import Derived.Test.YtnbcaklnpflihaaGreatDoorKValB
namespace Go.Proofs.YtnbcaklnpflihaaGreatDoor
open Go.RowKit
set_option maxRecDepth 100000

def kTime : Kind T4 := kPair kInt (kPair kInt (kPair kInt kInt))
def kLect : Kind Lect := kPair kStr (kSlice kTime)
theorem rep_time {S : Nat → Prop} {w : World} {t : T4} {vs : List Value} (h : kTime.rep S w t vs) : vs = encT t := by
  obtain ⟨us1, ts1, rfl, h1, us2, ts2, rfl, h2, us3, ts3, rfl, h3, h4⟩ := h
  rw [rep_int] at h1 h2 h3 h4
  subst h1 h2 h3 h4
  rfl
theorem cells_of_at {B : Nat} {w : World} {A : Option Addr} {ts : List T4} (h : At kTime (· < B) w A ts) : CellsAt B w A 4 ts.length fun k => encT (ts.getD k (0, 0, 0, 0)) := by
  intro hn
  obtain ⟨b, off, e, hb, hlt, hc⟩ := h hn
  refine ⟨b, off, e, hb, fun j hj i u hu => ?_⟩
  have hx : ts[j]? = some (ts.getD j (0, 0, 0, 0)) := by rw [List.getD_eq_getElem?_getD, List.getElem?_eq_getElem hj]; rfl
  obtain ⟨vs, hr, hcell⟩ := hc j _ hx
  rw [rep_time hr] at hcell
  exact hcell i u hu
theorem lects_of_at {B : Nat} {w : World} {A : Option Addr} {ls : List Lect} (h : At kLect (· < B) w A ls) : LectsAt B w A ls := by
  intro hn
  obtain ⟨b, off, e, hb, hlt, hc⟩ := h hn
  refine ⟨b, off, e, hb, fun j l hl => ?_⟩
  obtain ⟨vs, ⟨us, ts, rfl, h1, T, c, rfl, -, hT⟩, hcell⟩ := hc j l hl
  rw [rep_str] at h1
  subst h1
  exact ⟨T, c, hcell 0 _ rfl, hcell 1 _ rfl, cells_of_at hT⟩
theorem opens_time (G : Good) : Opens G Tryz.prog 50 kTime fun _ => True ∧ True ∧ True ∧ True := by
  have h := opensF_cons (G := G) (P := Tryz.prog) (f := ⟨"Weeks", 3, 0, false, "", "", 0⟩) (o := 0) rfl (opens_int Tryz.underlying3 (by kernel_rfl)) (opensF_cons (f := ⟨"Day", 3, 1, false, "", "", 8⟩) rfl (opens_int Tryz.underlying3 (by kernel_rfl)) (opensF_cons (f := ⟨"Start", 3, 2, false, "", "", 16⟩) rfl (opens_int Tryz.underlying3 (by kernel_rfl)) (opensF_one (f := ⟨"Length", 3, 3, false, "", "", 24⟩) rfl (opens_int Tryz.underlying3 (by kernel_rfl)))))
  exact opens_struct Tryz.underlying50 (by kernel_rfl) h
theorem opens_times (G : Good) : Opens G Tryz.prog 45 (kSlice kTime) fun l => G.len l.length ∧ l.length ≤ maxLen ∧ ∀ x ∈ l, True ∧ True ∧ True ∧ True :=
  opens_slice Tryz.underlying45 (by kernel_rfl) (by decide) (opens_time G)
end Go.Proofs.YtnbcaklnpflihaaGreatDoor
