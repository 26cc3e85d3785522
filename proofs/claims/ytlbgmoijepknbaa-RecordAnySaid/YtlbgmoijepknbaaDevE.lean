/- Contract of Arm. -/
import Derived.Test.YtlbgmoijepknbaaDevD
namespace Go.Proofs.Ytlbgmoijepknbaa
open Go.RowKit
set_option linter.unusedVariables false

def DevS.arm (S : DevS) (n : Int) : DevS := if S.off then S else { S with armed := decide (0 ≤ n), left := imax n 0 }
end Go.Proofs.Ytlbgmoijepknbaa
