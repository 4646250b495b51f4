/- Walks of package timetablemade, on: times. -/
import Derived.Test.YtjcfkbichmlgmaaDoorKDice
namespace Go.Proofs.YtjcfkbichmlgmaaDoor
open Go.RowKit

end Go.Proofs.YtjcfkbichmlgmaaDoor
