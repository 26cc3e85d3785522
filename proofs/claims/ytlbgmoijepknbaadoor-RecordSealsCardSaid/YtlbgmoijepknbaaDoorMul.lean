/- Contracts of math/bits.Mul64 and Mul. -/
import Derived.Test.YtlbgmoijepknbaaDoorProg
import Derived.Test.YtlbgmoijepknbaaDoorLib
import Derived.Shelf.Bits.Mul64
namespace Go.Proofs.YtlbgmoijepknbaaDoor
open Go.RowKit

end Go.Proofs.YtlbgmoijepknbaaDoor
