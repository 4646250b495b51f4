/- The shelf's contracts of strings.Trim at this seat's numbers, laid by the kit's own program. -/

import Derived.Shelf.Strings.SlTrimAscii
import Derived.Test.YtonpfohhedcjbaaGreatDoorShelf
namespace Go.Proofs
open Go.Shelf

end Go.Proofs
