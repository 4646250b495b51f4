/- Walks of package timetablemade, on: times. -/
import Derived.Test.YtnbcaklnpflihaaGreatDoorKDice
namespace Go.Proofs.YtnbcaklnpflihaaGreatDoor
open Go.RowKit

end Go.Proofs.YtnbcaklnpflihaaGreatDoor
