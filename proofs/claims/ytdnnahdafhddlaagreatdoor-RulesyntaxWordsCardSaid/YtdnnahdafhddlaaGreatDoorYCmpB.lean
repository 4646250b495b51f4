/- Walks of the comparisons of codes, down to their elements. No condition. Walks of codes.elements, Compare and timetableref03.Compare. Conditions: the texts' lengths are ints. -/
import Derived.Test.YtdnnahdafhddlaaGreatDoorYSameL
namespace Go.Proofs.YtdnnahdafhddlaaGreatDoor
open Go.RowKit
set_option maxRecDepth 100000

/-! Plain. -/
theorem ext_list (s : ByteArray) (f j : Nat) : (s.extract f j).data.toList = (s.data.toList.drop f).take (j - f) := by
  simp
theorem len_size (s : ByteArray) : s.data.toList.length = s.size := by simp
/-! Elements. -/
def dgAt (s : ByteArray) (k : Nat) : Bool := digN (s.data.toList.getD k 0).toNat
theorem dgAt_of {s : ByteArray} {k : Nat} (h : k < s.size) : digN s[k].toNat = dgAt s k := by unfold dgAt; rw [byte_at s k h]
/-! A number without zeros in front. -/
end Go.Proofs.YtdnnahdafhddlaaGreatDoor

namespace Go.Proofs.YtdnnahdafhddlaaGreatDoor
open Go.RowKit
set_option maxRecDepth 100000

theorem toList_dataL (s : ByteArray) : s.toList = s.data.toList := ByteArray.toList_eq s
end Go.Proofs.YtdnnahdafhddlaaGreatDoor
