/- Contracts of math/bits.Mul64 and Mul. -/
import Derived.Test.YtlbgmoijepknbaaGreatProg
import Derived.Test.YtlbgmoijepknbaaGreatLib
import Derived.Shelf.Bits.Mul64
namespace Go.Proofs.YtlbgmoijepknbaaGreat
open Go.RowKit

end Go.Proofs.YtlbgmoijepknbaaGreat
