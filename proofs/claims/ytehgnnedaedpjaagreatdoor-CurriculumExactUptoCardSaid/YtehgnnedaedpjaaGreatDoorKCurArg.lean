/- Arguments of curricula and of classes opened to data of kinds. No condition. -/
import Derived.Test.YtehgnnedaedpjaaGreatDoorKVars
import Derived.Test.YtehgnnedaedpjaaGreatDoorKCWriteR
namespace Go.Proofs.YtehgnnedaedpjaaGreatDoor
open Go.RowKit
set_option maxRecDepth 100000

theorem opens_strsA (G : Good) : Opens G Tryz.prog 34 (kSlice kStr) fun l => G.len l.length ∧ l.length ≤ maxLen ∧ ∀ x ∈ l, G.str x ∧ x.size ≤ maxLen :=
  opens_slice Tryz.underlying34 (by kernel_rfl) (by decide) (opens_str Tryz.underlying9 (by kernel_rfl))
theorem opens_intsA (G : Good) : Opens G Tryz.prog 22 (kSlice kInt) fun l => G.len l.length ∧ l.length ≤ maxLen ∧ ∀ x ∈ l, True :=
  opens_slice Tryz.underlying22 (by kernel_rfl) (by decide) (opens_int Tryz.underlying3 (by kernel_rfl))
theorem opens_curr (G : Good) : Opens G Tryz.prog 36 kCurr fun x => (G.str x.1 ∧ x.1.size ≤ maxLen) ∧ G.len x.2.length ∧ x.2.length ≤ maxLen ∧ ∀ z ∈ x.2, G.str z ∧ z.size ≤ maxLen := by
  have h := opensF_cons (G := G) (P := Tryz.prog) (f := ⟨"Code", 9, 0, false, "", "", 0⟩) (o := 0) rfl (opens_str Tryz.underlying9 (by kernel_rfl)) (opensF_one (f := ⟨"Courses", 34, 1, false, "", "", 16⟩) rfl (opens_strsA G))
  exact opens_struct Tryz.underlying36 (by kernel_rfl) h
theorem opens_currs (G : Good) : Opens G Tryz.prog 32 (kSlice kCurr) fun l => G.len l.length ∧ l.length ≤ maxLen ∧ ∀ x ∈ l, (G.str x.1 ∧ x.1.size ≤ maxLen) ∧ G.len x.2.length ∧ x.2.length ≤ maxLen ∧ ∀ z ∈ x.2, G.str z ∧ z.size ≤ maxLen :=
  opens_slice Tryz.underlying32 (by kernel_rfl) (by decide) (opens_curr G)
theorem opens_start (G : Good) : Opens G Tryz.prog 130 kStart fun _ => True ∧ True := by
  have h := opensF_cons (G := G) (P := Tryz.prog) (f := ⟨"Day", 3, 0, false, "", "", 0⟩) (o := 0) rfl (opens_int Tryz.underlying3 (by kernel_rfl)) (opensF_one (f := ⟨"Slot", 3, 1, false, "", "", 8⟩) rfl (opens_int Tryz.underlying3 (by kernel_rfl)))
  exact opens_struct Tryz.underlying130 (by kernel_rfl) h
theorem opens_starts (G : Good) : Opens G Tryz.prog 41 (kSlice kStart) fun l => G.len l.length ∧ l.length ≤ maxLen ∧ ∀ x ∈ l, True ∧ True :=
  opens_slice Tryz.underlying41 (by kernel_rfl) (by decide) (opens_start G)
/-- What is known of a class's size. -/
def ClsZ (G : Good) (x : Cls) : Prop := (G.str x.1 ∧ x.1.size ≤ maxLen) ∧ (G.str x.2.1 ∧ x.2.1.size ≤ maxLen) ∧ (G.str x.2.2.1 ∧ x.2.2.1.size ≤ maxLen) ∧ True ∧ (G.len x.2.2.2.2.1.length ∧ x.2.2.2.2.1.length ≤ maxLen ∧ ∀ y ∈ x.2.2.2.2.1, True) ∧ True ∧ (G.len x.2.2.2.2.2.2.1.length ∧ x.2.2.2.2.2.2.1.length ≤ maxLen ∧ ∀ z ∈ x.2.2.2.2.2.2.1, G.str z ∧ z.size ≤ maxLen) ∧ (G.len x.2.2.2.2.2.2.2.1.length ∧ x.2.2.2.2.2.2.2.1.length ≤ maxLen ∧ ∀ z ∈ x.2.2.2.2.2.2.2.1, G.str z ∧ z.size ≤ maxLen) ∧ (G.len x.2.2.2.2.2.2.2.2.length ∧ x.2.2.2.2.2.2.2.2.length ≤ maxLen ∧ ∀ y ∈ x.2.2.2.2.2.2.2.2, True ∧ True)
theorem opens_cls (G : Good) : Opens G Tryz.prog 43 kCls (ClsZ G) := by
  have hs := opens_str (G := G) Tryz.underlying9 (by kernel_rfl)
  have hi := opens_int (G := G) Tryz.underlying3 (by kernel_rfl)
  have h8 := opensF_one (G := G) (P := Tryz.prog) (f := ⟨"Starts", 41, 8, false, "", "", 136⟩) (o := 8) rfl (opens_starts G)
  have h7 := opensF_cons (f := ⟨"Staff", 34, 7, false, "", "", 112⟩) (o := 7) rfl (opens_strsA G) h8
  have h6 := opensF_cons (f := ⟨"Features", 34, 6, false, "", "", 88⟩) (o := 6) rfl (opens_strsA G) h7
  have h5 := opensF_cons (f := ⟨"Seats", 3, 5, false, "", "", 80⟩) (o := 5) rfl hi h6
  have h4 := opensF_cons (f := ⟨"Patterns", 22, 4, false, "", "", 56⟩) (o := 4) rfl (opens_intsA G) h5
  have h3 := opensF_cons (f := ⟨"Length", 3, 3, false, "", "", 48⟩) (o := 3) rfl hi h4
  have h2 := opensF_cons (f := ⟨"Part", 9, 2, false, "", "", 32⟩) (o := 2) rfl hs h3
  have h1 := opensF_cons (f := ⟨"Course", 9, 1, false, "", "", 16⟩) (o := 1) rfl hs h2
  have h0 := opensF_cons (f := ⟨"Code", 9, 0, false, "", "", 0⟩) (o := 0) rfl hs h1
  exact opens_struct Tryz.underlying43 (by kernel_rfl) h0
theorem opens_clss (G : Good) : Opens G Tryz.prog 27 (kSlice kCls) fun l => G.len l.length ∧ l.length ≤ maxLen ∧ ∀ x ∈ l, ClsZ G x :=
  opens_slice Tryz.underlying27 (by kernel_rfl) (by decide) (opens_cls G)
end Go.Proofs.YtehgnnedaedpjaaGreatDoor
