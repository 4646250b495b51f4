/- Walks of package timetablemade, on: odd times and odd grids: what they give is of no interest but for its shape. -/
import Derived.Test.YtnbcaklnpflihaaGreatDoorKDice
namespace Go.Proofs.YtnbcaklnpflihaaGreatDoor
open Go.RowKit

end Go.Proofs.YtnbcaklnpflihaaGreatDoor
