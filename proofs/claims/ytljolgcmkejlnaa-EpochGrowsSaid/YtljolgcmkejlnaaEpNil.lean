/- The law EpochNils returns true. -/
import Derived.Test.YtljolgcmkejlnaaEpE
namespace Go.Proofs.Ytljolgcmkejlnaa
open Go.RowKit
set_option linter.unusedVariables false

theorem ckEnter_bad (w : World) (p : Option Addr) (z : Int) (hz : p = none ∨ z < 0 ∨ 8 ≤ z) : Calls Try.prog 22 #[.pointer p, .int .i64 z] w fun r w' => r = .returned (.tuple #[.int .u64 0, .int .i64 1]) ∧ w = w' := by
  have H := Lib.hid (ckCheck_bad w p z hz)
  clear hz
  go_enter Try.func22, Try.ntmps22
  go_wp2_with (go_at_call 38; refine H.out.mono ?_; rintro r w' ⟨rfl, rfl⟩)
  go_ret2
  exact ⟨rfl, rfl⟩
theorem ckExit_bad (w : World) (p : Option Addr) (z : Int) (hz : p = none ∨ z < 0 ∨ 8 ≤ z) : Calls Try.prog 19 #[.pointer p, .int .i64 z] w fun r w' => r = .returned (.int .i64 1) ∧ w = w' := by
  have H := Lib.hid (ckCheck_bad w p z hz)
  clear hz
  go_enter Try.func19, Try.ntmps19
  go_wp2_with (go_at_call 38; refine H.out.mono ?_; rintro r w' ⟨rfl, rfl⟩)
  go_ret
  exact ⟨rfl, rfl⟩
theorem ckAdvance_bad (w : World) (p : Option Addr) (z : Int) (hz : p = none ∨ z < 0 ∨ 8 ≤ z) : Calls Try.prog 15 #[.pointer p, .int .i64 z] w fun r w' => r = .returned (.tuple #[.int .u64 0, .int .i64 1]) ∧ w = w' := by
  have H := Lib.hid (ckCheck_bad w p z hz)
  clear hz
  go_enter Try.func15, Try.ntmps15
  go_wp2_with (go_at_call 38; refine H.out.mono ?_; rintro r w' ⟨rfl, rfl⟩)
  go_ret2
  exact ⟨rfl, rfl⟩
theorem ckNow_nil (w : World) : Calls Try.prog 16 #[.pointer none] w fun r w' => r = .returned (.int .u64 0) ∧ w = w' := by
  go_enter Try.func16, Try.ntmps16
  go_wp2
  go_ret
  exact ⟨rfl, rfl⟩
theorem ckSafe_nil (w : World) (x : Int) : Calls Try.prog 18 #[.pointer none, .int .u64 x] w fun r w' => r = .returned (.bool false) ∧ w = w' := by
  go_enter Try.func18, Try.ntmps18
  go_wp2
  go_ret
  exact ⟨rfl, rfl⟩
theorem ckAnnounced_nil (w : World) (z : Int) : Calls Try.prog 21 #[.pointer none, .int .i64 z] w fun r w' => r = .returned (.tuple #[.int .u64 0, .bool false]) ∧ w = w' := by
  go_enter Try.func21, Try.ntmps21
  go_wp2
  go_ret2
  exact ⟨rfl, rfl⟩
theorem ckEntering_nil (w : World) (z : Int) : Calls Try.prog 13 #[.pointer none, .int .i64 z] w fun r w' => r = .returned (.tuple #[.pointer none, .int .i64 1]) ∧ w = w' := by
  go_enter Try.func13, Try.ntmps13
  go_wp2
  go_ret2
  exact ⟨rfl, rfl⟩
theorem opEpoch_nil (w : World) : Calls Try.prog 20 #[.pointer none] w fun r w' => r = .returned (.tuple #[.int .u64 0, .int .i64 1]) ∧ w = w' := by
  go_enter Try.func20, Try.ntmps20
  go_wp2
  go_ret2
  exact ⟨rfl, rfl⟩
set_option maxRecDepth 100000 in
theorem opStep_nil (w : World) : Calls Try.prog 14 #[.pointer none] w fun r w' => r = .returned (.bool true) ∧ w = w' := by
  go_enter Try.func14, Try.ntmps14
  go_wp2
  go_ret
  exact ⟨rfl, rfl⟩

set_option maxRecDepth 100000 in
set_option maxHeartbeats 1000000 in
theorem law_EpochNils (w : World) (z : Int) : Calls Try.prog 6 #[.int .i64 z] w fun r w' => r = .returned (.bool true) ∧ Below w.heap.size w w' := by
  go_enter Try.func6, Try.ntmps6
  go_wp2_with (first
    | (go_at_call 22; refine (ckEnter_bad _ none z (.inl rfl)).mono ?_; rintro r w' ⟨rfl, rfl⟩)
    | (go_at_call 15; refine (ckAdvance_bad _ none z (.inl rfl)).mono ?_; rintro r w' ⟨rfl, rfl⟩)
    | (go_at_call 19; refine (ckExit_bad _ none z (.inl rfl)).mono ?_; rintro r w' ⟨rfl, rfl⟩)
    | (go_at_call 21; refine (ckAnnounced_nil _ z).mono ?_; rintro r w' ⟨rfl, rfl⟩)
    | (go_at_call 13; refine (ckEntering_nil _ z).mono ?_; rintro r w' ⟨rfl, rfl⟩)
    | (go_at_call 20; refine (opEpoch_nil _).mono ?_; rintro r w' ⟨rfl, rfl⟩)
    | (go_at_call 14; refine (opStep_nil _).mono ?_; rintro r w' ⟨rfl, rfl⟩)
    | (go_at_call 16; refine (ckNow_nil _).mono ?_; rintro r w' ⟨rfl, rfl⟩)
    | (go_at_call 18; refine (ckSafe_nil _ 0).mono ?_; rintro r w' ⟨rfl, rfl⟩)
    | (go_at_call 10; refine (awake18 _).mono ?_; rintro r w' ⟨rfl, hb⟩; obtain ⟨x, rfl⟩ := bx_of hb; clear hb))
  go_ret
  exact ⟨rfl, x.below⟩
end Go.Proofs.Ytljolgcmkejlnaa
