/- The statement TravelReads: its walk. Condition: what is read is bounded. -/
import Derived.Test.YtjcfkbichmlgmaaGreatDoorKAwake8
import Derived.Test.YtjcfkbichmlgmaaGreatDoorKR8R
import Derived.Test.YtjcfkbichmlgmaaGreatDoorKSameT
import Derived.Test.YtjcfkbichmlgmaaGreatDoorKValC
import Derived.Test.YtjcfkbichmlgmaaGreatDoorKRecArg
namespace Go.Proofs.YtjcfkbichmlgmaaGreatDoor
open Go.RowKit
set_option maxRecDepth 100000

theorem recs_len8 {B : Nat} {w : World} {A : Option Addr} {rs : List Rec} (h : RecsAt B w A rs) (j : Nat) (hj : j < rs.length) :
    ∃ b off F c, A = some ⟨b, off, none⟩ ∧ b < B ∧ w.cell? ⟨b, off + j * 2, none⟩ = some (.int .i64 (rs.getD j (0, [])).1) ∧ w.cell? ⟨b, off + j * 2 + 1, none⟩ = some (.slice F (rs.getD j (0, [])).2.length c) := by
  obtain ⟨b, off, e, hb, hc⟩ := h (by omega)
  obtain ⟨F, c, c0, c1, -⟩ := hc j (rs.getD j (0, [])) (by rw [List.getD_eq_getElem?_getD, List.getElem?_eq_getElem hj]; rfl)
  exact ⟨b, off, F, c, e, hb, c0, c1⟩
/-- A table that was read, as data. -/
theorem trav_data {nm : List ByteArray} {m : List (List Int)} {B : Nat} {w : World} {A : Option Addr} {c : Nat} {v : Value} {hs : List Nat} (hN : Own kStr 9 [] 0 B w (.slice A nm.length c) nm) (hM : Mat nm.length B w v hs m) :
    At kStr AnyB w A nm ∧ nm.length ≤ 9223372036854775807 ∧ ∃ A' c', v = .slice A' m.length c' ∧ At (kSlice kInt) AnyB w A' m ∧ m.length ≤ 9223372036854775807 ∧ ∀ x ∈ m, x.length ≤ 9223372036854775807 := by
  obtain ⟨A', c', hv, -, hA⟩ := hM.any
  have hl := hN.le
  refine ⟨hN.any'.any, hl, A', c', hv, hA, by have := hM.own.le; rw [hM.len] at this; exact this, fun x hx => ?_⟩
  obtain ⟨j, hj⟩ := List.getElem?_of_mem hx
  obtain ⟨h, -, hr⟩ := hM.at_ hj
  have h1 := row_len hr
  omega
end Go.Proofs.YtjcfkbichmlgmaaGreatDoor
