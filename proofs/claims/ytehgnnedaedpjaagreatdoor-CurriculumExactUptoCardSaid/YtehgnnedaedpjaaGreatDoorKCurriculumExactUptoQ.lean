/- PROVED: timetablelaw11.CurriculumExact returns true for all curricula, records and classes: the layer answers as the second program does. Conditions: what the call reads is of bulk at most 1048576 (the statement's own bound); the listed package-level variables hold what the program's text lays (tied by the card). -/
import Derived.Test.YtehgnnedaedpjaaGreatDoorKCurriculumExactUptoP
import Derived.Test.YtehgnnedaedpjaaGreatDoorKCurriculumExactUptoH
import Derived.Test.YtehgnnedaedpjaaGreatDoorKCurriculumExactUptoI
namespace Go.Proofs.YtehgnnedaedpjaaGreatDoor.lawCurriculumExactUpto
open Go.ChangeShapes Go.WideShapes Go.ChangeAt Go.RowKit
set_option maxRecDepth 100000

theorem card : Rows.CurriculumExactUptoCardSaid :=
  Claim7.holds_tied_plain_at .later [] _ _ _ _ said (fun _ h => by cases h) cw (fun _ h => by cases h) curriculumExactUpto_row_tie rfl ⟨rfl, rfl⟩ cm rfl plain cg
#print axioms card
end Go.Proofs.YtehgnnedaedpjaaGreatDoor.lawCurriculumExactUpto
