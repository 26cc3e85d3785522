/- Contracts of Words and size of the codecs. -/
import Derived.Test.YtlbgmoijepknbaaDoorProg
import Derived.Test.YtlbgmoijepknbaaDoorLib
import Derived.Test.YtlbgmoijepknbaaDoorM
namespace Go.Proofs.YtlbgmoijepknbaaDoor
open Go.RowKit

set_option maxHeartbeats 400000 in
theorem intWords (w : World) :
    Calls Tryd.prog 42 #[.agg #[]] w fun e w' => e = .returned (.int .i64 1) ∧ Below w.heap.size w w' := by
  go_enter Tryd.func42, Tryd.ntmps42
  go_wp2
  go_ret
  exact ⟨rfl, by go_grown⟩
set_option maxHeartbeats 400000 in
theorem boolWords (w : World) :
    Calls Tryd.prog 47 #[.agg #[]] w fun e w' => e = .returned (.int .i64 1) ∧ Below w.heap.size w w' := by
  go_enter Tryd.func47, Tryd.ntmps47
  go_wp2
  go_ret
  exact ⟨rfl, by go_grown⟩
set_option maxHeartbeats 400000 in
theorem nameWords (w : World) :
    Calls Tryd.prog 21 #[.agg #[]] w fun e w' => e = .returned (.int .i64 3) ∧ Below w.heap.size w w' := by
  go_enter Tryd.func21, Tryd.ntmps21
  go_wp2
  go_ret
  exact ⟨rfl, by go_grown⟩

set_option maxHeartbeats 400000 in
theorem sizeI_int (w : World) :
    Calls Tryd.prog 19 #[.iface 36 (.agg #[])] w fun e w' => e = .returned (.int .i64 1) ∧ Below w.heap.size w w' := by
  go_enter Tryd.func19, Tryd.ntmps19
  go_wp2_with (go_at_call 42; refine (intWords _).mono ?_; rintro e w' ⟨rfl, hb⟩)
  go_ret
  exact ⟨rfl, hb⟩
set_option maxHeartbeats 400000 in
theorem sizeB_bool (w : World) :
    Calls Tryd.prog 63 #[.iface 62 (.agg #[])] w fun e w' => e = .returned (.int .i64 1) ∧ Below w.heap.size w w' := by
  go_enter Tryd.func63, Tryd.ntmps63
  go_wp2_with (go_at_call 47; refine (boolWords _).mono ?_; rintro e w' ⟨rfl, hb⟩)
  go_ret
  exact ⟨rfl, hb⟩
set_option maxHeartbeats 400000 in
theorem sizeS_name (w : World) :
    Calls Tryd.prog 51 #[.iface 47 (.agg #[])] w fun e w' => e = .returned (.int .i64 3) ∧ Below w.heap.size w w' := by
  go_enter Tryd.func51, Tryd.ntmps51
  go_wp2_with (go_at_call 21; refine (nameWords _).mono ?_; rintro e w' ⟨rfl, hb⟩)
  go_ret
  exact ⟨rfl, hb⟩

/-- The words of an array of N numbers of one word. -/
def arrW (N : Int) : Int := if N < 0 ∨ 4095 < N then 0 else 1 + N
theorem arrW_neg {N : Int} (h : N < 0) : arrW N = 0 := if_pos (.inl h)
theorem arrW_big {N : Int} (h : 4095 < N) : arrW N = 0 := if_pos (.inr h)
theorem arrW_ok {N : Int} (h : ¬ N < 0) (h' : ¬ 4095 < N) : arrW N = 1 + N := if_neg (by omega)
theorem wrap4095 : IntKind.i64.wrap 4095 = 4095 := by decide
theorem wrap1365 : IntKind.i64.wrap 1365 = 1365 := by decide

set_option maxHeartbeats 400000 in
theorem arrIWords (w : World) (N : Int) :
    Calls Tryd.prog 10 #[.agg #[.int .i64 N, .iface 36 (.agg #[])]] w fun e w' => e = .returned (.int .i64 (arrW N)) ∧ Below w.heap.size w w' := by
  have h4 := wrap4095
  by_cases h0 : N < 0
  · go_enter Tryd.func10, Tryd.ntmps10
    go_wp2_with (go_at_call 19; refine (sizeI_int _).mono ?_; rintro e w' ⟨rfl, hb⟩; obtain ⟨x, rfl⟩ := bx_of hb)
    go_quiet (fail)
    go_wp2
    go_ret
    exact ⟨ret_int (arrW_neg h0).symm, (by repeat (first | with_reducible exact Below.refl _ _ | with_reducible refine bl_alloc ?_ _ | with_reducible refine bl_drew ?_ | with_reducible refine bl_drewN ?_ _ | with_reducible refine bl_bx ?_ _ | with_reducible exact BX.below _ | with_reducible refine bl_set ?_ (by first | (exact Nat.le_refl _) | (simp; done) | (simp; omega)) _ | assumption))⟩
  · by_cases h1 : 4095 < N
    · have h2 : decide (N < 0) = false := by simpa using h0
      have h3 : decide (4095 < N) = true := by simpa using h1
      go_enter Tryd.func10, Tryd.ntmps10
      go_wp2_with (go_at_call 19; refine (sizeI_int _).mono ?_; rintro e w' ⟨rfl, hb⟩; obtain ⟨x, rfl⟩ := bx_of hb)
      go_quiet (fail)
      go_wp2
      go_ret
      exact ⟨ret_int (arrW_big h1).symm, (by repeat (first | with_reducible exact Below.refl _ _ | with_reducible refine bl_alloc ?_ _ | with_reducible refine bl_drew ?_ | with_reducible refine bl_drewN ?_ _ | with_reducible refine bl_bx ?_ _ | with_reducible exact BX.below _ | with_reducible refine bl_set ?_ (by first | (exact Nat.le_refl _) | (simp; done) | (simp; omega)) _ | assumption))⟩
    · have h2 : decide (N < 0) = false := by simpa using h0
      have h3 : decide (4095 < N) = false := by simpa using h1
      have HN := Lib.hid (arrW_ok h0 h1)
      go_enter Tryd.func10, Tryd.ntmps10
      go_wp2_with (go_at_call 19; refine (sizeI_int _).mono ?_; rintro e w' ⟨rfl, hb⟩; obtain ⟨x, rfl⟩ := bx_of hb)
      go_quiet (fail)
      go_wp2
      go_ret
      exact ⟨ret_int HN.out.symm, (by repeat (first | with_reducible exact Below.refl _ _ | with_reducible refine bl_alloc ?_ _ | with_reducible refine bl_drew ?_ | with_reducible refine bl_drewN ?_ _ | with_reducible refine bl_bx ?_ _ | with_reducible exact BX.below _ | with_reducible refine bl_set ?_ (by first | (exact Nat.le_refl _) | (simp; done) | (simp; omega)) _ | assumption))⟩

set_option maxHeartbeats 400000 in
theorem arrSWords (w : World) :
    Calls Tryd.prog 50 #[.agg #[.int .i64 2, .iface 47 (.agg #[])]] w fun e w' => e = .returned (.int .i64 7) ∧ Below w.heap.size w w' := by
  have h4 := wrap1365
  go_enter Tryd.func50, Tryd.ntmps50
  go_wp2_with (go_at_call 51; refine (sizeS_name _).mono ?_; rintro e w' ⟨rfl, hb⟩; obtain ⟨x, rfl⟩ := bx_of hb)
  go_quiet (fail)
  go_wp2
  go_ret
  exact ⟨rfl, (by repeat (first | with_reducible exact Below.refl _ _ | with_reducible refine bl_alloc ?_ _ | with_reducible refine bl_drew ?_ | with_reducible refine bl_drewN ?_ _ | with_reducible refine bl_bx ?_ _ | with_reducible exact BX.below _ | with_reducible refine bl_set ?_ (by first | (exact Nat.le_refl _) | (simp; done) | (simp; omega)) _ | assumption))⟩

set_option maxHeartbeats 400000 in
theorem optIWords (w : World) :
    Calls Tryd.prog 54 #[.agg #[.iface 36 (.agg #[])]] w fun e w' => e = .returned (.int .i64 2) ∧ Below w.heap.size w w' := by
  go_enter Tryd.func54, Tryd.ntmps54
  go_wp2_with (go_at_call 19; refine (sizeI_int _).mono ?_; rintro e w' ⟨rfl, hb⟩; obtain ⟨x, rfl⟩ := bx_of hb)
  go_ret
  exact ⟨rfl, (by repeat (first | with_reducible exact Below.refl _ _ | with_reducible refine bl_alloc ?_ _ | with_reducible refine bl_drew ?_ | with_reducible refine bl_drewN ?_ _ | with_reducible refine bl_bx ?_ _ | with_reducible exact BX.below _ | with_reducible refine bl_set ?_ (by first | (exact Nat.le_refl _) | (simp; done) | (simp; omega)) _ | assumption))⟩

set_option maxHeartbeats 400000 in
theorem sizeSs_c (w : World) :
    Calls Tryd.prog 58 #[.iface 66 (.agg #[.int .i64 2, .iface 47 (.agg #[])])] w fun e w' => e = .returned (.int .i64 7) ∧ Below w.heap.size w w' := by
  go_enter Tryd.func58, Tryd.ntmps58
  go_wp2_with (go_at_call 50; refine (arrSWords _).mono ?_; rintro e w' ⟨rfl, hb⟩)
  go_ret
  exact ⟨rfl, hb⟩
set_option maxHeartbeats 400000 in
theorem sizePI_c (w : World) :
    Calls Tryd.prog 59 #[.iface 68 (.agg #[.iface 36 (.agg #[])])] w fun e w' => e = .returned (.int .i64 2) ∧ Below w.heap.size w w' := by
  go_enter Tryd.func59, Tryd.ntmps59
  go_wp2_with (go_at_call 54; refine (optIWords _).mono ?_; rintro e w' ⟨rfl, hb⟩)
  go_ret
  exact ⟨rfl, hb⟩

set_option maxHeartbeats 400000 in
theorem pairSIWords (w : World) :
    Calls Tryd.prog 57 #[.agg #[.iface 66 (.agg #[.int .i64 2, .iface 47 (.agg #[])]), .iface 68 (.agg #[.iface 36 (.agg #[])])]] w fun e w' => e = .returned (.int .i64 9) ∧ Below w.heap.size w w' := by
  go_enter Tryd.func57, Tryd.ntmps57
  go_wp2
  refine wp_region_bx (by kernel_rfl) (by kernel_rfl) ?_
  repeat (go_big_quiet_step ((first | (go_at_call 58; exact bx_call (sizeSs_c _)) | (go_at_call 59; exact bx_call (sizePI_c _)))))
  refine wpQuiet_nil ?_
  rintro _ ⟨x, rfl⟩
  go_wp2
  go_ret
  exact ⟨rfl, (by repeat (first | with_reducible exact Below.refl _ _ | with_reducible refine bl_alloc ?_ _ | with_reducible refine bl_drew ?_ | with_reducible refine bl_drewN ?_ _ | with_reducible refine bl_bx ?_ _ | with_reducible exact BX.below _ | with_reducible refine bl_set ?_ (by first | (exact Nat.le_refl _) | (simp; done) | (simp; omega)) _ | assumption))⟩
set_option maxHeartbeats 400000 in
theorem sizeSI_c (w : World) :
    Calls Tryd.prog 64 #[.iface 74 (.agg #[.iface 66 (.agg #[.int .i64 2, .iface 47 (.agg #[])]), .iface 68 (.agg #[.iface 36 (.agg #[])])])] w fun e w' => e = .returned (.int .i64 9) ∧ Below w.heap.size w w' := by
  go_enter Tryd.func64, Tryd.ntmps64
  go_wp2_with (go_at_call 57; refine (pairSIWords _).mono ?_; rintro e w' ⟨rfl, hb⟩)
  go_ret
  exact ⟨rfl, hb⟩

/-- The codec of the record of the statements. -/
def codecSI : Value := .agg #[.iface 66 (.agg #[.int .i64 2, .iface 47 (.agg #[])]), .iface 68 (.agg #[.iface 36 (.agg #[])])]
def codecV : Value := .agg #[.iface 62 (.agg #[]), .iface 74 (.agg #[.iface 66 (.agg #[.int .i64 2, .iface 47 (.agg #[])]), .iface 68 (.agg #[.iface 36 (.agg #[])])])]

set_option maxHeartbeats 400000 in
theorem pairBWords (w : World) :
    Calls Tryd.prog 62 #[.agg #[.iface 62 (.agg #[]), .iface 74 (.agg #[.iface 66 (.agg #[.int .i64 2, .iface 47 (.agg #[])]), .iface 68 (.agg #[.iface 36 (.agg #[])])])]] w fun e w' => e = .returned (.int .i64 10) ∧ Below w.heap.size w w' := by
  go_enter Tryd.func62, Tryd.ntmps62
  go_wp2
  refine wp_region_bx (by kernel_rfl) (by kernel_rfl) ?_
  repeat (go_big_quiet_step ((first | (go_at_call 63; exact bx_call (sizeB_bool _)) | (go_at_call 64; exact bx_call (sizeSI_c _)))))
  refine wpQuiet_nil ?_
  rintro _ ⟨x, rfl⟩
  go_wp2
  go_ret
  exact ⟨rfl, (by repeat (first | with_reducible exact Below.refl _ _ | with_reducible refine bl_alloc ?_ _ | with_reducible refine bl_drew ?_ | with_reducible refine bl_drewN ?_ _ | with_reducible refine bl_bx ?_ _ | with_reducible exact BX.below _ | with_reducible refine bl_set ?_ (by first | (exact Nat.le_refl _) | (simp; done) | (simp; omega)) _ | assumption))⟩

set_option maxHeartbeats 400000 in
theorem codec11 (w : World) :
    Calls Tryd.prog 15 #[] w fun e w' => e = .returned (.iface 80 (.agg #[.iface 62 (.agg #[]), .iface 74 (.agg #[.iface 66 (.agg #[.int .i64 2, .iface 47 (.agg #[])]), .iface 68 (.agg #[.iface 36 (.agg #[])])])])) ∧ w = w' := by
  go_enter Tryd.func15, Tryd.ntmps15
  go_wp2
  go_ret
  exact ⟨rfl, rfl⟩
end Go.Proofs.YtlbgmoijepknbaaDoor
