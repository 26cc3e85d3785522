/- Contracts of Words and size of the codecs. -/
import Derived.Test.YtlbgmoijepknbaaGreatProg
import Derived.Test.YtlbgmoijepknbaaGreatLib
import Derived.Test.YtlbgmoijepknbaaGreatM
namespace Go.Proofs.YtlbgmoijepknbaaGreat
open Go.RowKit

set_option maxHeartbeats 400000 in
theorem intWords (w : World) :
    Calls Tryz.prog 97 #[.agg #[]] w fun e w' => e = .returned (.int .i64 1) ∧ Below w.heap.size w w' := by
  go_enter Tryz.func97, Tryz.ntmps97
  go_wp2
  go_ret
  exact ⟨rfl, by go_grown⟩
set_option maxHeartbeats 400000 in
theorem boolWords (w : World) :
    Calls Tryz.prog 102 #[.agg #[]] w fun e w' => e = .returned (.int .i64 1) ∧ Below w.heap.size w w' := by
  go_enter Tryz.func102, Tryz.ntmps102
  go_wp2
  go_ret
  exact ⟨rfl, by go_grown⟩
set_option maxHeartbeats 400000 in
theorem nameWords (w : World) :
    Calls Tryz.prog 35 #[.agg #[]] w fun e w' => e = .returned (.int .i64 3) ∧ Below w.heap.size w w' := by
  go_enter Tryz.func35, Tryz.ntmps35
  go_wp2
  go_ret
  exact ⟨rfl, by go_grown⟩

set_option maxHeartbeats 400000 in
theorem sizeI_int (w : World) :
    Calls Tryz.prog 33 #[.iface 62 (.agg #[])] w fun e w' => e = .returned (.int .i64 1) ∧ Below w.heap.size w w' := by
  go_enter Tryz.func33, Tryz.ntmps33
  go_wp2_with (go_at_call 97; refine (intWords _).mono ?_; rintro e w' ⟨rfl, hb⟩)
  go_ret
  exact ⟨rfl, hb⟩
set_option maxHeartbeats 400000 in
theorem sizeB_bool (w : World) :
    Calls Tryz.prog 118 #[.iface 81 (.agg #[])] w fun e w' => e = .returned (.int .i64 1) ∧ Below w.heap.size w w' := by
  go_enter Tryz.func118, Tryz.ntmps118
  go_wp2_with (go_at_call 102; refine (boolWords _).mono ?_; rintro e w' ⟨rfl, hb⟩)
  go_ret
  exact ⟨rfl, hb⟩
set_option maxHeartbeats 400000 in
theorem sizeS_name (w : World) :
    Calls Tryz.prog 106 #[.iface 74 (.agg #[])] w fun e w' => e = .returned (.int .i64 3) ∧ Below w.heap.size w w' := by
  go_enter Tryz.func106, Tryz.ntmps106
  go_wp2_with (go_at_call 35; refine (nameWords _).mono ?_; rintro e w' ⟨rfl, hb⟩)
  go_ret
  exact ⟨rfl, hb⟩

/-- The words of an array of N numbers of one word. -/
def arrW (N : Int) : Int := if N < 0 ∨ 4095 < N then 0 else 1 + N
theorem arrW_neg {N : Int} (h : N < 0) : arrW N = 0 := if_pos (.inl h)
theorem arrW_big {N : Int} (h : 4095 < N) : arrW N = 0 := if_pos (.inr h)
theorem arrW_ok {N : Int} (h : ¬ N < 0) (h' : ¬ 4095 < N) : arrW N = 1 + N := if_neg (by omega)
theorem wrap4095 : IntKind.i64.wrap 4095 = 4095 := by decide
theorem wrap1365 : IntKind.i64.wrap 1365 = 1365 := by decide

set_option maxHeartbeats 400000 in
theorem arrIWords (w : World) (N : Int) :
    Calls Tryz.prog 17 #[.agg #[.int .i64 N, .iface 62 (.agg #[])]] w fun e w' => e = .returned (.int .i64 (arrW N)) ∧ Below w.heap.size w w' := by
  have h4 := wrap4095
  by_cases h0 : N < 0
  · go_enter Tryz.func17, Tryz.ntmps17
    go_wp2_with (go_at_call 33; refine (sizeI_int _).mono ?_; rintro e w' ⟨rfl, hb⟩; obtain ⟨x, rfl⟩ := bx_of hb)
    go_quiet (fail)
    go_wp2
    go_ret
    exact ⟨ret_int (arrW_neg h0).symm, (by repeat (first | with_reducible exact Below.refl _ _ | with_reducible refine bl_alloc ?_ _ | with_reducible refine bl_drew ?_ | with_reducible refine bl_drewN ?_ _ | with_reducible refine bl_bx ?_ _ | with_reducible exact BX.below _ | with_reducible refine bl_set ?_ (by first | (exact Nat.le_refl _) | (simp; done) | (simp; omega)) _ | assumption))⟩
  · by_cases h1 : 4095 < N
    · have h2 : decide (N < 0) = false := by simpa using h0
      have h3 : decide (4095 < N) = true := by simpa using h1
      go_enter Tryz.func17, Tryz.ntmps17
      go_wp2_with (go_at_call 33; refine (sizeI_int _).mono ?_; rintro e w' ⟨rfl, hb⟩; obtain ⟨x, rfl⟩ := bx_of hb)
      go_quiet (fail)
      go_wp2
      go_ret
      exact ⟨ret_int (arrW_big h1).symm, (by repeat (first | with_reducible exact Below.refl _ _ | with_reducible refine bl_alloc ?_ _ | with_reducible refine bl_drew ?_ | with_reducible refine bl_drewN ?_ _ | with_reducible refine bl_bx ?_ _ | with_reducible exact BX.below _ | with_reducible refine bl_set ?_ (by first | (exact Nat.le_refl _) | (simp; done) | (simp; omega)) _ | assumption))⟩
    · have h2 : decide (N < 0) = false := by simpa using h0
      have h3 : decide (4095 < N) = false := by simpa using h1
      have HN := Lib.hid (arrW_ok h0 h1)
      go_enter Tryz.func17, Tryz.ntmps17
      go_wp2_with (go_at_call 33; refine (sizeI_int _).mono ?_; rintro e w' ⟨rfl, hb⟩; obtain ⟨x, rfl⟩ := bx_of hb)
      go_quiet (fail)
      go_wp2
      go_ret
      exact ⟨ret_int HN.out.symm, (by repeat (first | with_reducible exact Below.refl _ _ | with_reducible refine bl_alloc ?_ _ | with_reducible refine bl_drew ?_ | with_reducible refine bl_drewN ?_ _ | with_reducible refine bl_bx ?_ _ | with_reducible exact BX.below _ | with_reducible refine bl_set ?_ (by first | (exact Nat.le_refl _) | (simp; done) | (simp; omega)) _ | assumption))⟩

set_option maxHeartbeats 400000 in
theorem arrSWords (w : World) :
    Calls Tryz.prog 105 #[.agg #[.int .i64 2, .iface 74 (.agg #[])]] w fun e w' => e = .returned (.int .i64 7) ∧ Below w.heap.size w w' := by
  have h4 := wrap1365
  go_enter Tryz.func105, Tryz.ntmps105
  go_wp2_with (go_at_call 106; refine (sizeS_name _).mono ?_; rintro e w' ⟨rfl, hb⟩; obtain ⟨x, rfl⟩ := bx_of hb)
  go_quiet (fail)
  go_wp2
  go_ret
  exact ⟨rfl, (by repeat (first | with_reducible exact Below.refl _ _ | with_reducible refine bl_alloc ?_ _ | with_reducible refine bl_drew ?_ | with_reducible refine bl_drewN ?_ _ | with_reducible refine bl_bx ?_ _ | with_reducible exact BX.below _ | with_reducible refine bl_set ?_ (by first | (exact Nat.le_refl _) | (simp; done) | (simp; omega)) _ | assumption))⟩

set_option maxHeartbeats 400000 in
theorem optIWords (w : World) :
    Calls Tryz.prog 109 #[.agg #[.iface 62 (.agg #[])]] w fun e w' => e = .returned (.int .i64 2) ∧ Below w.heap.size w w' := by
  go_enter Tryz.func109, Tryz.ntmps109
  go_wp2_with (go_at_call 33; refine (sizeI_int _).mono ?_; rintro e w' ⟨rfl, hb⟩; obtain ⟨x, rfl⟩ := bx_of hb)
  go_ret
  exact ⟨rfl, (by repeat (first | with_reducible exact Below.refl _ _ | with_reducible refine bl_alloc ?_ _ | with_reducible refine bl_drew ?_ | with_reducible refine bl_drewN ?_ _ | with_reducible refine bl_bx ?_ _ | with_reducible exact BX.below _ | with_reducible refine bl_set ?_ (by first | (exact Nat.le_refl _) | (simp; done) | (simp; omega)) _ | assumption))⟩

set_option maxHeartbeats 400000 in
theorem sizeSs_c (w : World) :
    Calls Tryz.prog 113 #[.iface 85 (.agg #[.int .i64 2, .iface 74 (.agg #[])])] w fun e w' => e = .returned (.int .i64 7) ∧ Below w.heap.size w w' := by
  go_enter Tryz.func113, Tryz.ntmps113
  go_wp2_with (go_at_call 105; refine (arrSWords _).mono ?_; rintro e w' ⟨rfl, hb⟩)
  go_ret
  exact ⟨rfl, hb⟩
set_option maxHeartbeats 400000 in
theorem sizePI_c (w : World) :
    Calls Tryz.prog 114 #[.iface 87 (.agg #[.iface 62 (.agg #[])])] w fun e w' => e = .returned (.int .i64 2) ∧ Below w.heap.size w w' := by
  go_enter Tryz.func114, Tryz.ntmps114
  go_wp2_with (go_at_call 109; refine (optIWords _).mono ?_; rintro e w' ⟨rfl, hb⟩)
  go_ret
  exact ⟨rfl, hb⟩

set_option maxHeartbeats 400000 in
theorem pairSIWords (w : World) :
    Calls Tryz.prog 112 #[.agg #[.iface 85 (.agg #[.int .i64 2, .iface 74 (.agg #[])]), .iface 87 (.agg #[.iface 62 (.agg #[])])]] w fun e w' => e = .returned (.int .i64 9) ∧ Below w.heap.size w w' := by
  go_enter Tryz.func112, Tryz.ntmps112
  go_wp2
  refine wp_region_bx (by kernel_rfl) (by kernel_rfl) ?_
  repeat (go_big_quiet_step ((first | (go_at_call 113; exact bx_call (sizeSs_c _)) | (go_at_call 114; exact bx_call (sizePI_c _)))))
  refine wpQuiet_nil ?_
  rintro _ ⟨x, rfl⟩
  go_wp2
  go_ret
  exact ⟨rfl, (by repeat (first | with_reducible exact Below.refl _ _ | with_reducible refine bl_alloc ?_ _ | with_reducible refine bl_drew ?_ | with_reducible refine bl_drewN ?_ _ | with_reducible refine bl_bx ?_ _ | with_reducible exact BX.below _ | with_reducible refine bl_set ?_ (by first | (exact Nat.le_refl _) | (simp; done) | (simp; omega)) _ | assumption))⟩
set_option maxHeartbeats 400000 in
theorem sizeSI_c (w : World) :
    Calls Tryz.prog 119 #[.iface 93 (.agg #[.iface 85 (.agg #[.int .i64 2, .iface 74 (.agg #[])]), .iface 87 (.agg #[.iface 62 (.agg #[])])])] w fun e w' => e = .returned (.int .i64 9) ∧ Below w.heap.size w w' := by
  go_enter Tryz.func119, Tryz.ntmps119
  go_wp2_with (go_at_call 112; refine (pairSIWords _).mono ?_; rintro e w' ⟨rfl, hb⟩)
  go_ret
  exact ⟨rfl, hb⟩

/-- The codec of the record of the statements. -/
def codecSI : Value := .agg #[.iface 85 (.agg #[.int .i64 2, .iface 74 (.agg #[])]), .iface 87 (.agg #[.iface 62 (.agg #[])])]
def codecV : Value := .agg #[.iface 81 (.agg #[]), .iface 93 (.agg #[.iface 85 (.agg #[.int .i64 2, .iface 74 (.agg #[])]), .iface 87 (.agg #[.iface 62 (.agg #[])])])]

set_option maxHeartbeats 400000 in
theorem pairBWords (w : World) :
    Calls Tryz.prog 117 #[.agg #[.iface 81 (.agg #[]), .iface 93 (.agg #[.iface 85 (.agg #[.int .i64 2, .iface 74 (.agg #[])]), .iface 87 (.agg #[.iface 62 (.agg #[])])])]] w fun e w' => e = .returned (.int .i64 10) ∧ Below w.heap.size w w' := by
  go_enter Tryz.func117, Tryz.ntmps117
  go_wp2
  refine wp_region_bx (by kernel_rfl) (by kernel_rfl) ?_
  repeat (go_big_quiet_step ((first | (go_at_call 118; exact bx_call (sizeB_bool _)) | (go_at_call 119; exact bx_call (sizeSI_c _)))))
  refine wpQuiet_nil ?_
  rintro _ ⟨x, rfl⟩
  go_wp2
  go_ret
  exact ⟨rfl, (by repeat (first | with_reducible exact Below.refl _ _ | with_reducible refine bl_alloc ?_ _ | with_reducible refine bl_drew ?_ | with_reducible refine bl_drewN ?_ _ | with_reducible refine bl_bx ?_ _ | with_reducible exact BX.below _ | with_reducible refine bl_set ?_ (by first | (exact Nat.le_refl _) | (simp; done) | (simp; omega)) _ | assumption))⟩

set_option maxHeartbeats 400000 in
theorem codec11 (w : World) :
    Calls Tryz.prog 8 #[] w fun e w' => e = .returned (.iface 99 (.agg #[.iface 81 (.agg #[]), .iface 93 (.agg #[.iface 85 (.agg #[.int .i64 2, .iface 74 (.agg #[])]), .iface 87 (.agg #[.iface 62 (.agg #[])])])])) ∧ w = w' := by
  go_enter Tryz.func8, Tryz.ntmps8
  go_wp2
  go_ret
  exact ⟨rfl, rfl⟩
end Go.Proofs.YtlbgmoijepknbaaGreat
