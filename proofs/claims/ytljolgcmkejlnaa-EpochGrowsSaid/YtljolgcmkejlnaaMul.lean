/- Contracts of math/bits.Mul64 and Mul. -/
import Derived.Test.YtljolgcmkejlnaaProg
import Derived.Test.YtljolgcmkejlnaaLib
import Derived.Shelf.Bits.Mul64
namespace Go.Proofs.Ytljolgcmkejlnaa
open Go.RowKit

end Go.Proofs.Ytljolgcmkejlnaa
