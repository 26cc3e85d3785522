/- Contracts of Words and size of the codecs. -/
import Derived.Test.YtlbgmoijepknbaaProg
import Derived.Test.YtlbgmoijepknbaaLib
import Derived.Test.YtlbgmoijepknbaaM
namespace Go.Proofs.Ytlbgmoijepknbaa
open Go.RowKit

set_option maxHeartbeats 400000 in
theorem uintWords (w : World) :
    Calls Try.prog 35 #[.agg #[]] w fun e w' => e = .returned (.int .i64 1) ∧ Below w.heap.size w w' := by
  go_enter Try.func35, Try.ntmps35
  go_wp2
  go_ret
  exact ⟨rfl, by go_grown⟩
set_option maxHeartbeats 400000 in
theorem intWords (w : World) :
    Calls Try.prog 36 #[.agg #[]] w fun e w' => e = .returned (.int .i64 1) ∧ Below w.heap.size w w' := by
  go_enter Try.func36, Try.ntmps36
  go_wp2
  go_ret
  exact ⟨rfl, by go_grown⟩
set_option maxHeartbeats 400000 in
theorem boolWords (w : World) :
    Calls Try.prog 37 #[.agg #[]] w fun e w' => e = .returned (.int .i64 1) ∧ Below w.heap.size w w' := by
  go_enter Try.func37, Try.ntmps37
  go_wp2
  go_ret
  exact ⟨rfl, by go_grown⟩
set_option maxHeartbeats 400000 in
theorem nameWords (w : World) :
    Calls Try.prog 39 #[.agg #[]] w fun e w' => e = .returned (.int .i64 3) ∧ Below w.heap.size w w' := by
  go_enter Try.func39, Try.ntmps39
  go_wp2
  go_ret
  exact ⟨rfl, by go_grown⟩

set_option maxHeartbeats 400000 in
theorem sizeU_uint (w : World) :
    Calls Try.prog 64 #[.iface 78 (.agg #[])] w fun e w' => e = .returned (.int .i64 1) ∧ Below w.heap.size w w' := by
  go_enter Try.func64, Try.ntmps64
  go_wp2_with (go_at_call 35; refine (uintWords _).mono ?_; rintro e w' ⟨rfl, hb⟩)
  go_ret
  exact ⟨rfl, hb⟩
set_option maxHeartbeats 400000 in
theorem sizeI_int (w : World) :
    Calls Try.prog 71 #[.iface 80 (.agg #[])] w fun e w' => e = .returned (.int .i64 1) ∧ Below w.heap.size w w' := by
  go_enter Try.func71, Try.ntmps71
  go_wp2_with (go_at_call 36; refine (intWords _).mono ?_; rintro e w' ⟨rfl, hb⟩)
  go_ret
  exact ⟨rfl, hb⟩
set_option maxHeartbeats 400000 in
theorem sizeB_bool (w : World) :
    Calls Try.prog 126 #[.iface 82 (.agg #[])] w fun e w' => e = .returned (.int .i64 1) ∧ Below w.heap.size w w' := by
  go_enter Try.func126, Try.ntmps126
  go_wp2_with (go_at_call 37; refine (boolWords _).mono ?_; rintro e w' ⟨rfl, hb⟩)
  go_ret
  exact ⟨rfl, hb⟩
set_option maxHeartbeats 400000 in
theorem sizeS_name (w : World) :
    Calls Try.prog 67 #[.iface 73 (.agg #[])] w fun e w' => e = .returned (.int .i64 3) ∧ Below w.heap.size w w' := by
  go_enter Try.func67, Try.ntmps67
  go_wp2_with (go_at_call 39; refine (nameWords _).mono ?_; rintro e w' ⟨rfl, hb⟩)
  go_ret
  exact ⟨rfl, hb⟩

/-- The words of an array of N numbers of one word. -/
def arrW (N : Int) : Int := if N < 0 ∨ 4095 < N then 0 else 1 + N
theorem arrW_neg {N : Int} (h : N < 0) : arrW N = 0 := if_pos (.inl h)
theorem arrW_big {N : Int} (h : 4095 < N) : arrW N = 0 := if_pos (.inr h)
theorem arrW_ok {N : Int} (h : ¬ N < 0) (h' : ¬ 4095 < N) : arrW N = 1 + N := if_neg (by omega)
theorem wrap4095 : IntKind.i64.wrap 4095 = 4095 := by decide
theorem wrap1365 : IntKind.i64.wrap 1365 = 1365 := by decide

set_option maxHeartbeats 400000 in
theorem arrIWords (w : World) (N : Int) :
    Calls Try.prog 43 #[.agg #[.int .i64 N, .iface 80 (.agg #[])]] w fun e w' => e = .returned (.int .i64 (arrW N)) ∧ Below w.heap.size w w' := by
  have h4 := wrap4095
  by_cases h0 : N < 0
  · go_enter Try.func43, Try.ntmps43
    go_wp2_with (go_at_call 71; refine (sizeI_int _).mono ?_; rintro e w' ⟨rfl, hb⟩; obtain ⟨x, rfl⟩ := bx_of hb)
    go_quiet (fail)
    go_wp2
    go_ret
    exact ⟨ret_int (arrW_neg h0).symm, (by repeat (first | with_reducible exact Below.refl _ _ | with_reducible refine bl_alloc ?_ _ | with_reducible refine bl_drew ?_ | with_reducible refine bl_drewN ?_ _ | with_reducible refine bl_bx ?_ _ | with_reducible exact BX.below _ | with_reducible refine bl_set ?_ (by first | (exact Nat.le_refl _) | (simp; done) | (simp; omega)) _ | assumption))⟩
  · by_cases h1 : 4095 < N
    · have h2 : decide (N < 0) = false := by simpa using h0
      have h3 : decide (4095 < N) = true := by simpa using h1
      go_enter Try.func43, Try.ntmps43
      go_wp2_with (go_at_call 71; refine (sizeI_int _).mono ?_; rintro e w' ⟨rfl, hb⟩; obtain ⟨x, rfl⟩ := bx_of hb)
      go_quiet (fail)
      go_wp2
      go_ret
      exact ⟨ret_int (arrW_big h1).symm, (by repeat (first | with_reducible exact Below.refl _ _ | with_reducible refine bl_alloc ?_ _ | with_reducible refine bl_drew ?_ | with_reducible refine bl_drewN ?_ _ | with_reducible refine bl_bx ?_ _ | with_reducible exact BX.below _ | with_reducible refine bl_set ?_ (by first | (exact Nat.le_refl _) | (simp; done) | (simp; omega)) _ | assumption))⟩
    · have h2 : decide (N < 0) = false := by simpa using h0
      have h3 : decide (4095 < N) = false := by simpa using h1
      have HN := Lib.hid (arrW_ok h0 h1)
      go_enter Try.func43, Try.ntmps43
      go_wp2_with (go_at_call 71; refine (sizeI_int _).mono ?_; rintro e w' ⟨rfl, hb⟩; obtain ⟨x, rfl⟩ := bx_of hb)
      go_quiet (fail)
      go_wp2
      go_ret
      exact ⟨ret_int HN.out.symm, (by repeat (first | with_reducible exact Below.refl _ _ | with_reducible refine bl_alloc ?_ _ | with_reducible refine bl_drew ?_ | with_reducible refine bl_drewN ?_ _ | with_reducible refine bl_bx ?_ _ | with_reducible exact BX.below _ | with_reducible refine bl_set ?_ (by first | (exact Nat.le_refl _) | (simp; done) | (simp; omega)) _ | assumption))⟩

set_option maxHeartbeats 400000 in
theorem arrSWords (w : World) :
    Calls Try.prog 114 #[.agg #[.int .i64 2, .iface 73 (.agg #[])]] w fun e w' => e = .returned (.int .i64 7) ∧ Below w.heap.size w w' := by
  have h4 := wrap1365
  go_enter Try.func114, Try.ntmps114
  go_wp2_with (go_at_call 67; refine (sizeS_name _).mono ?_; rintro e w' ⟨rfl, hb⟩; obtain ⟨x, rfl⟩ := bx_of hb)
  go_quiet (fail)
  go_wp2
  go_ret
  exact ⟨rfl, (by repeat (first | with_reducible exact Below.refl _ _ | with_reducible refine bl_alloc ?_ _ | with_reducible refine bl_drew ?_ | with_reducible refine bl_drewN ?_ _ | with_reducible refine bl_bx ?_ _ | with_reducible exact BX.below _ | with_reducible refine bl_set ?_ (by first | (exact Nat.le_refl _) | (simp; done) | (simp; omega)) _ | assumption))⟩

set_option maxHeartbeats 400000 in
theorem optIWords (w : World) :
    Calls Try.prog 117 #[.agg #[.iface 80 (.agg #[])]] w fun e w' => e = .returned (.int .i64 2) ∧ Below w.heap.size w w' := by
  go_enter Try.func117, Try.ntmps117
  go_wp2_with (go_at_call 71; refine (sizeI_int _).mono ?_; rintro e w' ⟨rfl, hb⟩; obtain ⟨x, rfl⟩ := bx_of hb)
  go_ret
  exact ⟨rfl, (by repeat (first | with_reducible exact Below.refl _ _ | with_reducible refine bl_alloc ?_ _ | with_reducible refine bl_drew ?_ | with_reducible refine bl_drewN ?_ _ | with_reducible refine bl_bx ?_ _ | with_reducible exact BX.below _ | with_reducible refine bl_set ?_ (by first | (exact Nat.le_refl _) | (simp; done) | (simp; omega)) _ | assumption))⟩

set_option maxHeartbeats 400000 in
theorem sizeSs_c (w : World) :
    Calls Try.prog 121 #[.iface 133 (.agg #[.int .i64 2, .iface 73 (.agg #[])])] w fun e w' => e = .returned (.int .i64 7) ∧ Below w.heap.size w w' := by
  go_enter Try.func121, Try.ntmps121
  go_wp2_with (go_at_call 114; refine (arrSWords _).mono ?_; rintro e w' ⟨rfl, hb⟩)
  go_ret
  exact ⟨rfl, hb⟩
set_option maxHeartbeats 400000 in
theorem sizePI_c (w : World) :
    Calls Try.prog 122 #[.iface 135 (.agg #[.iface 80 (.agg #[])])] w fun e w' => e = .returned (.int .i64 2) ∧ Below w.heap.size w w' := by
  go_enter Try.func122, Try.ntmps122
  go_wp2_with (go_at_call 117; refine (optIWords _).mono ?_; rintro e w' ⟨rfl, hb⟩)
  go_ret
  exact ⟨rfl, hb⟩

set_option maxHeartbeats 400000 in
theorem pairSIWords (w : World) :
    Calls Try.prog 120 #[.agg #[.iface 133 (.agg #[.int .i64 2, .iface 73 (.agg #[])]), .iface 135 (.agg #[.iface 80 (.agg #[])])]] w fun e w' => e = .returned (.int .i64 9) ∧ Below w.heap.size w w' := by
  go_enter Try.func120, Try.ntmps120
  go_wp2
  refine wp_region_bx (by kernel_rfl) (by kernel_rfl) ?_
  repeat (go_big_quiet_step ((first | (go_at_call 121; exact bx_call (sizeSs_c _)) | (go_at_call 122; exact bx_call (sizePI_c _)))))
  refine wpQuiet_nil ?_
  rintro _ ⟨x, rfl⟩
  go_wp2
  go_ret
  exact ⟨rfl, (by repeat (first | with_reducible exact Below.refl _ _ | with_reducible refine bl_alloc ?_ _ | with_reducible refine bl_drew ?_ | with_reducible refine bl_drewN ?_ _ | with_reducible refine bl_bx ?_ _ | with_reducible exact BX.below _ | with_reducible refine bl_set ?_ (by first | (exact Nat.le_refl _) | (simp; done) | (simp; omega)) _ | assumption))⟩
set_option maxHeartbeats 400000 in
theorem sizeSI_c (w : World) :
    Calls Try.prog 127 #[.iface 141 (.agg #[.iface 133 (.agg #[.int .i64 2, .iface 73 (.agg #[])]), .iface 135 (.agg #[.iface 80 (.agg #[])])])] w fun e w' => e = .returned (.int .i64 9) ∧ Below w.heap.size w w' := by
  go_enter Try.func127, Try.ntmps127
  go_wp2_with (go_at_call 120; refine (pairSIWords _).mono ?_; rintro e w' ⟨rfl, hb⟩)
  go_ret
  exact ⟨rfl, hb⟩

/-- The codec of the record of the statements. -/
def codecSI : Value := .agg #[.iface 133 (.agg #[.int .i64 2, .iface 73 (.agg #[])]), .iface 135 (.agg #[.iface 80 (.agg #[])])]
def codecV : Value := .agg #[.iface 82 (.agg #[]), .iface 141 (.agg #[.iface 133 (.agg #[.int .i64 2, .iface 73 (.agg #[])]), .iface 135 (.agg #[.iface 80 (.agg #[])])])]

set_option maxHeartbeats 400000 in
theorem pairBWords (w : World) :
    Calls Try.prog 125 #[.agg #[.iface 82 (.agg #[]), .iface 141 (.agg #[.iface 133 (.agg #[.int .i64 2, .iface 73 (.agg #[])]), .iface 135 (.agg #[.iface 80 (.agg #[])])])]] w fun e w' => e = .returned (.int .i64 10) ∧ Below w.heap.size w w' := by
  go_enter Try.func125, Try.ntmps125
  go_wp2
  refine wp_region_bx (by kernel_rfl) (by kernel_rfl) ?_
  repeat (go_big_quiet_step ((first | (go_at_call 126; exact bx_call (sizeB_bool _)) | (go_at_call 127; exact bx_call (sizeSI_c _)))))
  refine wpQuiet_nil ?_
  rintro _ ⟨x, rfl⟩
  go_wp2
  go_ret
  exact ⟨rfl, (by repeat (first | with_reducible exact Below.refl _ _ | with_reducible refine bl_alloc ?_ _ | with_reducible refine bl_drew ?_ | with_reducible refine bl_drewN ?_ _ | with_reducible refine bl_bx ?_ _ | with_reducible exact BX.below _ | with_reducible refine bl_set ?_ (by first | (exact Nat.le_refl _) | (simp; done) | (simp; omega)) _ | assumption))⟩

set_option maxHeartbeats 400000 in
theorem codec11 (w : World) :
    Calls Try.prog 13 #[] w fun e w' => e = .returned (.iface 147 (.agg #[.iface 82 (.agg #[]), .iface 141 (.agg #[.iface 133 (.agg #[.int .i64 2, .iface 73 (.agg #[])]), .iface 135 (.agg #[.iface 80 (.agg #[])])])])) ∧ w = w' := by
  go_enter Try.func13, Try.ntmps13
  go_wp2
  go_ret
  exact ⟨rfl, rfl⟩
end Go.Proofs.Ytlbgmoijepknbaa
