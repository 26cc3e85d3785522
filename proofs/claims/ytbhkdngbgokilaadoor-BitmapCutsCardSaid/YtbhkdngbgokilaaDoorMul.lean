/- Contracts of math/bits.Mul64 and Mul. -/
import Derived.Test.YtbhkdngbgokilaaDoorProg
import Derived.Test.YtbhkdngbgokilaaDoorLib
import Derived.Shelf.Bits.Mul64
namespace Go.Proofs.YtbhkdngbgokilaaDoor
open Go.RowKit

end Go.Proofs.YtbhkdngbgokilaaDoor
