/- Contract of New of a device. -/
import Derived.Test.YtlbgmoijepknbaaDevO
namespace Go.Proofs.Ytlbgmoijepknbaa
open Go.RowKit
set_option linter.unusedVariables false

set_option maxRecDepth 100000 in
set_option maxHeartbeats 1000000 in
theorem devNew_bad (w : World) (z : Int) (hz : z < 1 ∨ 4096 < z) :
    Calls Try.prog 50 #[.int .i64 z] w fun e w' => e = .returned (.tuple #[.pointer none, .int .i64 1]) ∧ w = w' := by
  rcases hz with hz | hz
  · have q1 : (z < 1) := hz
    go_enter Try.func50, Try.ntmps50
    go_wp2
    go_ret2
    exact ⟨rfl, rfl⟩
  · have q1 : ¬ (z < 1) := by omega
    have q2 : z > 4096 := hz
    go_enter Try.func50, Try.ntmps50
    go_wp2
    go_ret2
    exact ⟨rfl, rfl⟩
/-- A device without content. -/
def DNewPost (w : World) (S : DevS) (e : Ending) (w' : World) : Prop :=
  ∃ d L, e = .returned (.tuple #[.pointer (some ⟨d, 0, none⟩), .int .i64 0]) ∧ Dev w' d L S ∧ Below w.heap.size w w' ∧ ∀ b, Fp L b → w.heap.size ≤ b
set_option maxRecDepth 100000 in
set_option maxHeartbeats 1000000 in
theorem devNew (w : World) (n : Nat) (h1 : 1 ≤ n) (h2 : n ≤ 4096) :
    Calls Try.prog 50 #[.int .i64 (n : Int)] w (DNewPost w (newS (List.replicate (8 * n) 0) n)) := by
  have q1 : ¬ ((n : Int) < 1) := by omega
  have q2 : ¬ ((n : Int) > 4096) := by omega
  have hwn : IntKind.i64.wrap ((n : Int) * 8) = (n : Int) * 8 := IntWalk.i64_in _ (by omega)
  have hmk := fun W => run_make_z (P := Try.prog) 31 26 .u64 .i64 .i64 ((n : Int) * 8) (8 * n) (by omega) Try.underlying31 8 info_u64 (by omega) (by omega) W
  have HOF := Lib.hid (devOf (w.alloc (.cells (ia .u64 (List.replicate (8 * n) (0 : Int))) 26)) w.heap.size n (List.replicate (8 * n) 0) (IB.new w _) (by simp) h1 h2)
  go_enter Try.func50, Try.ntmps50
  go_wp2_with (first | (go_at_call 72; refine HOF.out.mono ?_; rintro e w' ⟨d, L, rfl, hD, hB, hF⟩; have HD := Lib.hid hD; have HB := Lib.hid hB; have HF := Lib.hid hF; clear hD hB hF))
  go_ret2
  refine ⟨d, L, rfl, HD.out, ?_, fun b hb => ?_⟩
  · exact (bl_alloc (Below.refl _ _) _).trans (HB.out.mono (by simp))
  · rcases HF.out b hb with h | h
    · omega
    · simp at h; omega
end Go.Proofs.Ytlbgmoijepknbaa
