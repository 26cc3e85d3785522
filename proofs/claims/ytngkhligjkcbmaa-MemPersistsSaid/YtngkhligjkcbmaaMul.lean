/- Contracts of math/bits.Mul64 and Mul. -/
import Derived.Test.YtngkhligjkcbmaaProg
import Derived.Test.YtngkhligjkcbmaaLib
import Derived.Shelf.Bits.Mul64
namespace Go.Proofs.Ytngkhligjkcbmaa
open Go.RowKit

end Go.Proofs.Ytngkhligjkcbmaa
