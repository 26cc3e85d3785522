/- Contracts of told and Same of the statements about records. -/
import Derived.Test.YtlbgmoijepknbaaVal
namespace Go.Proofs.Ytlbgmoijepknbaa
open Go.RowKit
set_option linter.unusedVariables false

set_option maxRecDepth 100000 in
set_option maxHeartbeats 4000000 in
theorem told11 (w : World) (f : Bool) (A : Option Addr) (m c : Nat) (p : Option Addr) (o : Option Int) (hp : PtrI w p o) :
    Calls Try.prog 16 #[.agg #[.bool f, .slice A m c, .pointer p]] w fun e w' => e = .returned (.agg #[.bool f, .slice A m c, .bool o.isSome, .int .i64 (o.getD 0)]) ∧ Below w.heap.size w w' := by
  rcases hp with ⟨rfl, rfl⟩ | ⟨b, off, n, rfl, rfl, hlt, hc⟩
  · go_enter Try.func16, Try.ntmps16
    go_wp2
    exact bodyPost_ret (v := .agg #[.bool f, .slice A m c, .bool false, .int .i64 0]) (by simp [results, Try.results16, go_sem]) rfl ⟨rfl, (by repeat (first | with_reducible exact Below.refl _ _ | with_reducible refine bl_alloc ?_ _ | with_reducible refine bl_drew ?_ | with_reducible refine bl_drewN ?_ _ | with_reducible refine bl_bx ?_ _ | with_reducible exact BX.below _ | with_reducible refine bl_set ?_ (by first | (exact Nat.le_refl _) | (simp; done) | (simp; omega)) _ | assumption))⟩
  · have h1 : ¬ b = w.heap.size := by omega
    have h2 : b < w.heap.size + 1 := by omega
    have h3 : b < w.heap.size + 1 + 1 := by omega
    have h4 : b < w.heap.size + 1 + 1 + 1 := by omega
    go_enter Try.func16, Try.ntmps16
    go_wp2
    go_region
    all_goals go_wp2
    all_goals exact bodyPost_ret (v := .agg #[.bool f, .slice A m c, .bool true, .int .i64 n]) (by simp [results, Try.results16, go_sem]) rfl ⟨rfl, (by repeat (first | with_reducible exact Below.refl _ _ | with_reducible refine bl_alloc ?_ _ | with_reducible refine bl_drew ?_ | with_reducible refine bl_drewN ?_ _ | with_reducible refine bl_bx ?_ _ | with_reducible exact BX.below _ | with_reducible refine bl_set ?_ (by first | (exact Nat.le_refl _) | (simp; done) | (simp; omega)) _ | assumption))⟩
end Go.Proofs.Ytlbgmoijepknbaa
