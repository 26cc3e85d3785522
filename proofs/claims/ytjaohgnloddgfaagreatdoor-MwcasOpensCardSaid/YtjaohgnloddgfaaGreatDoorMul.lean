/- Contracts of math/bits.Mul64 and Mul. -/
import Derived.Test.YtjaohgnloddgfaaGreatDoorProg
import Derived.Test.YtjaohgnloddgfaaGreatDoorLib
import Derived.Shelf.Bits.Mul64
namespace Go.Proofs.YtjaohgnloddgfaaGreatDoor
open Go.RowKit

end Go.Proofs.YtjaohgnloddgfaaGreatDoor
