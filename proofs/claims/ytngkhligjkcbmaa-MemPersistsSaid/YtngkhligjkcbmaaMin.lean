/- The builtins min and max of two integers, under names that the walk does not open. -/
import Derived.Test.YtngkhligjkcbmaaLib
namespace Go.Proofs.Ytngkhligjkcbmaa
open Go.RowKit
def imin (x y : Int) : Int := if y < x then y else x
def imax (x y : Int) : Int := if x < y then y else x
section
variable {P : Program} (w : World)
@[go_sem high] theorem run_min_imin (ts : Array TypeId) (t : TypeId) (k k' : IntKind) (x y : Int) : (Builtin.min_ ts t #[.int k x, .int k' y]).run P w = .ok (.int k (imin x y)) w := run_min_int2 w ts t k k' x y
@[go_sem high] theorem run_max_imax (ts : Array TypeId) (t : TypeId) (k k' : IntKind) (x y : Int) : (Builtin.max_ ts t #[.int k x, .int k' y]).run P w = .ok (.int k (imax x y)) w := run_max_int2 w ts t k k' x y
end
theorem imin_le_l (x y : Int) : imin x y ≤ x := by unfold imin; split <;> omega
theorem imin_le_r (x y : Int) : imin x y ≤ y := by unfold imin; split <;> omega
theorem imin_cases (x y : Int) : (imin x y = x ∧ x ≤ y) ∨ (imin x y = y ∧ y < x) := by unfold imin; split <;> omega
theorem imax_cases (x y : Int) : (imax x y = x ∧ y ≤ x) ∨ (imax x y = y ∧ x < y) := by unfold imax; split <;> omega
end Go.Proofs.Ytngkhligjkcbmaa
