/- Nothing of the library is laid here: this seat has no such sort. -/
import Derived.Shelf.SlGeneric
import Derived.Test.YtejamhkgjkhjdaaGreatDoorProg
namespace Go.Proofs
end Go.Proofs
