/- size, Plan and Read without a codec. -/
import Derived.Test.YtlbgmoijepknbaaDevP
namespace Go.Proofs.Ytlbgmoijepknbaa
open Go.RowKit
set_option linter.unusedVariables false

theorem sizeU_nil (w : World) : Calls Try.prog 64 #[.nilIface] w fun e w' => e = .returned (.int .i64 0) ∧ w = w' := by
  go_enter Try.func64, Try.ntmps64
  go_wp2
  go_ret
  exact ⟨rfl, rfl⟩
set_option maxRecDepth 100000 in
theorem planU_nil (w : World) (off v : Int) : Calls Try.prog 54 #[.int .u64 off, .nilIface, .int .u64 v] w fun e w' => e = .returned (.tuple #[.slice none 0 0, .int .i64 1]) ∧ w = w' := by
  go_enter Try.func54, Try.ntmps54
  go_wp2_with (go_at_call 64; refine (sizeU_nil _).mono ?_; rintro e w' ⟨rfl, rfl⟩)
  go_ret2
  exact ⟨rfl, rfl⟩
set_option maxRecDepth 100000 in
theorem readU_nil (w : World) (off : Int) (t : TypeId) (m : Value) : Calls Try.prog 51 #[.iface t m, .int .u64 off, .nilIface] w fun e w' => e = .returned (.tuple #[.int .u64 0, .int .i64 1]) ∧ w = w' := by
  go_enter Try.func51, Try.ntmps51
  go_wp2_with (go_at_call 64; refine (sizeU_nil _).mono ?_; rintro e w' ⟨rfl, rfl⟩)
  go_ret2
  exact ⟨rfl, rfl⟩
set_option maxRecDepth 100000 in
theorem readU_nomem (w : World) (off : Int) (c : Value) (n : Int) (hs : Calls Try.prog 64 #[c] w fun e w' => e = .returned (.int .i64 n) ∧ Below w.heap.size w w') :
    Calls Try.prog 51 #[.nilIface, .int .u64 off, c] w fun e w' => e = .returned (.tuple #[.int .u64 0, .int .i64 1]) ∧ Below w.heap.size w w' := by
  have HS := Lib.hid hs
  clear hs
  go_enter Try.func51, Try.ntmps51
  go_wp2_with (go_at_call 64; refine HS.out.mono ?_; rintro e w' ⟨rfl, hb⟩; have HB := Lib.hid hb; clear hb)
  go_ret2
  exact ⟨rfl, HB.out⟩
end Go.Proofs.Ytlbgmoijepknbaa
