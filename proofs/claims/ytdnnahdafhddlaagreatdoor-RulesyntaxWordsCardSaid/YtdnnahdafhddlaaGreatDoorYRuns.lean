/- Plain facts on sets of weeks: runs of weeks, their texts, and what these are read as. No walk. -/
import Derived.Test.YtdnnahdafhddlaaGreatDoorYWsD
import Derived.Test.YtdnnahdafhddlaaGreatDoorYTwo
namespace Go.Proofs.YtdnnahdafhddlaaGreatDoor

/-- A number below 100 in decimal. -/
def dec2 (k : Nat) : List UInt8 := if k < 10 then [UInt8.ofNat (48 + k)] else [UInt8.ofNat (48 + k / 10), UInt8.ofNat (48 + k % 10)]
theorem itemsOf_eq (s : ByteArray) : (itemsOf s).map (·.data.toList) = splitOn1 44 s.data.toList := splitB_one 44 s
end Go.Proofs.YtdnnahdafhddlaaGreatDoor
