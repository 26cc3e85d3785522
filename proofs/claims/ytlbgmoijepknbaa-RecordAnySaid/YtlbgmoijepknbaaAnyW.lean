/- Words of the compositions of any codecs of uint64. -/
import Derived.Test.YtlbgmoijepknbaaNilA
import Derived.Test.YtlbgmoijepknbaaW
namespace Go.Proofs.Ytlbgmoijepknbaa
open Go.RowKit
set_option linter.unusedVariables false

/-- The size of a codec of uint64, in any world. -/
def SizeU (c : Value) (n : Int) : Prop := ∀ w, Calls Try.prog 64 #[c] w fun e w' => e = .returned (.int .i64 n) ∧ Below w.heap.size w w'
theorem sizeU_isNil : SizeU .nilIface 0 := fun w => (sizeU_nil w).mono fun _ _ ⟨h, k⟩ => ⟨h, by subst k; exact Below.refl _ _⟩
theorem sizeU_isUint : SizeU (.iface 78 (.agg #[])) 1 := fun w => sizeU_uint w

def pairW (a b : Int) : Int := if a = 0 ∨ b = 0 ∨ 4096 < a + b then 0 else a + b
def arrUW (N n : Int) : Int := if n = 0 ∨ N < 0 ∨ 4095 / n < N then 0 else 1 + N * n
def optW (n : Int) : Int := if n = 0 ∨ 4095 < n then 0 else 1 + n

set_option maxRecDepth 100000 in
set_option maxHeartbeats 1000000 in
theorem pairUUWords (w : World) (c1 c2 : Value) (n1 n2 : Int) (h1 : SizeU c1 n1) (h2 : SizeU c2 n2) (r1 : 0 ≤ n1 ∧ n1 ≤ 4096) (r2 : 0 ≤ n2 ∧ n2 ≤ 4096) :
    Calls Try.prog 19 #[.agg #[c1, c2]] w fun e w' => e = .returned (.int .i64 (pairW n1 n2)) ∧ Below w.heap.size w w' := by
  have H1 := Lib.hid h1
  have H2 := Lib.hid h2
  obtain ⟨a1, a2⟩ := r1
  obtain ⟨b1, b2⟩ := r2
  have hw : IntKind.i64.wrap (n1 + n2) = n1 + n2 := IntWalk.i64_in _ (by omega)
  clear h1 h2
  go_enter Try.func19, Try.ntmps19
  go_wp2
  refine wp_region_bx (by kernel_rfl) (by kernel_rfl) ?_
  go_big_quiet_step (fail)
  go_big_quiet_step (fail)
  go_big_quiet_step ((go_at_call 64; exact bx_call (H1.out _)))
  repeat (go_big_quiet_step ((go_at_call 64; exact bx_call (H2.out _))))
  refine wpQuiet_nil ?_
  rintro _ ⟨x, rfl⟩
  by_cases q1 : n1 = 0
  · have HE : Hid (pairW n1 n2 = 0) := by show _ = _; simp [pairW, q1]
    subst q1
    go_wp2
    go_ret
    exact ⟨ret_int HE.out.symm, (by repeat (first | with_reducible exact Below.refl _ _ | with_reducible refine bl_alloc ?_ _ | with_reducible refine bl_drew ?_ | with_reducible refine bl_drewN ?_ _ | with_reducible refine bl_bx ?_ _ | with_reducible exact BX.below _ | with_reducible refine bl_set ?_ (by first | (exact Nat.le_refl _) | (simp; done) | (simp; omega)) _ | assumption))⟩
  · have q1' : (n1 == 0) = false := by simpa using q1
    by_cases q2 : n2 = 0
    · have HE : Hid (pairW n1 n2 = 0) := by show _ = _; simp [pairW, q2]
      subst q2
      clear q1
      go_wp2
      go_ret
      exact ⟨ret_int HE.out.symm, (by repeat (first | with_reducible exact Below.refl _ _ | with_reducible refine bl_alloc ?_ _ | with_reducible refine bl_drew ?_ | with_reducible refine bl_drewN ?_ _ | with_reducible refine bl_bx ?_ _ | with_reducible exact BX.below _ | with_reducible refine bl_set ?_ (by first | (exact Nat.le_refl _) | (simp; done) | (simp; omega)) _ | assumption))⟩
    · have q2' : (n2 == 0) = false := by simpa using q2
      by_cases q3 : n1 + n2 > 4096
      · have HE : Hid (pairW n1 n2 = 0) := by show _ = _; simp only [pairW]; exact if_pos (by omega)
        clear q1 q2
        go_wp2
        go_ret
        exact ⟨ret_int HE.out.symm, (by repeat (first | with_reducible exact Below.refl _ _ | with_reducible refine bl_alloc ?_ _ | with_reducible refine bl_drew ?_ | with_reducible refine bl_drewN ?_ _ | with_reducible refine bl_bx ?_ _ | with_reducible exact BX.below _ | with_reducible refine bl_set ?_ (by first | (exact Nat.le_refl _) | (simp; done) | (simp; omega)) _ | assumption))⟩
      · have HE : Hid (pairW n1 n2 = n1 + n2) := by show _ = _; simp only [pairW]; exact if_neg (by omega)
        clear q1 q2
        go_wp2
        go_ret
        exact ⟨ret_int HE.out.symm, (by repeat (first | with_reducible exact Below.refl _ _ | with_reducible refine bl_alloc ?_ _ | with_reducible refine bl_drew ?_ | with_reducible refine bl_drewN ?_ _ | with_reducible refine bl_bx ?_ _ | with_reducible exact BX.below _ | with_reducible refine bl_set ?_ (by first | (exact Nat.le_refl _) | (simp; done) | (simp; omega)) _ | assumption))⟩

set_option maxRecDepth 100000 in
set_option maxHeartbeats 1000000 in
theorem arrUWords (w : World) (N : Int) (c : Value) (n : Int) (h : SizeU c n) (r : 0 ≤ n ∧ n ≤ 4096) (rN : -9223372036854775808 ≤ N ∧ N < 9223372036854775808) :
    Calls Try.prog 20 #[.agg #[.int .i64 N, c]] w fun e w' => e = .returned (.int .i64 (arrUW N n)) ∧ Below w.heap.size w w' := by
  have H := Lib.hid h
  obtain ⟨a1, a2⟩ := r
  clear h
  by_cases q1 : n = 0
  · have HE : Hid (arrUW N n = 0) := by show _ = _; simp [arrUW, q1]
    subst q1
    go_enter Try.func20, Try.ntmps20
    go_wp2_with (go_at_call 64; refine (H.out _).mono ?_; rintro e w' ⟨rfl, hb⟩; obtain ⟨x, rfl⟩ := bx_of hb; clear hb)
    go_quiet (fail)
    go_wp2
    go_ret
    exact ⟨ret_int HE.out.symm, (by repeat (first | with_reducible exact Below.refl _ _ | with_reducible refine bl_alloc ?_ _ | with_reducible refine bl_drew ?_ | with_reducible refine bl_drewN ?_ _ | with_reducible refine bl_bx ?_ _ | with_reducible exact BX.below _ | with_reducible refine bl_set ?_ (by first | (exact Nat.le_refl _) | (simp; done) | (simp; omega)) _ | assumption))⟩
  · have q1' : (n == 0) = false := by simpa using q1
    by_cases q2 : N < 0
    · have HE : Hid (arrUW N n = 0) := by show _ = _; simp [arrUW, q2]
      have q2' : decide (N < 0) = true := by simpa using q2
      clear q1
      go_enter Try.func20, Try.ntmps20
      go_wp2_with (go_at_call 64; refine (H.out _).mono ?_; rintro e w' ⟨rfl, hb⟩; obtain ⟨x, rfl⟩ := bx_of hb; clear hb)
      go_quiet (fail)
      go_wp2
      go_ret
      exact ⟨ret_int HE.out.symm, (by repeat (first | with_reducible exact Below.refl _ _ | with_reducible refine bl_alloc ?_ _ | with_reducible refine bl_drew ?_ | with_reducible refine bl_drewN ?_ _ | with_reducible refine bl_bx ?_ _ | with_reducible exact BX.below _ | with_reducible refine bl_set ?_ (by first | (exact Nat.le_refl _) | (simp; done) | (simp; omega)) _ | assumption))⟩
    · have q2' : decide (N < 0) = false := by simpa using q2
      have hd : (4095 : Int).tdiv n = 4095 / n := Int.tdiv_eq_ediv_of_nonneg (by omega)
      have hd1 : 0 ≤ (4095 : Int) / n := Int.ediv_nonneg (by omega) a1
      have hd2 : (4095 : Int) / n ≤ 4095 := Int.ediv_le_self _ (by omega)
      have hw : IntKind.i64.wrap (4095 / n) = 4095 / n := IntWalk.i64_in _ (by omega)
      by_cases q3 : N > 4095 / n
      · have HE : Hid (arrUW N n = 0) := by show _ = _; simp only [arrUW]; exact if_pos (by omega)
        have q3' : decide (4095 / n < N) = true := by simpa using q3
        clear hd1 hd2
        go_enter Try.func20, Try.ntmps20
        go_wp2_with (go_at_call 64; refine (H.out _).mono ?_; rintro e w' ⟨rfl, hb⟩; obtain ⟨x, rfl⟩ := bx_of hb; clear hb)
        go_quiet (fail)
        go_wp2
        go_ret
        exact ⟨ret_int HE.out.symm, (by repeat (first | with_reducible exact Below.refl _ _ | with_reducible refine bl_alloc ?_ _ | with_reducible refine bl_drew ?_ | with_reducible refine bl_drewN ?_ _ | with_reducible refine bl_bx ?_ _ | with_reducible exact BX.below _ | with_reducible refine bl_set ?_ (by first | (exact Nat.le_refl _) | (simp; done) | (simp; omega)) _ | assumption))⟩
      · have HE : Hid (arrUW N n = 1 + N * n) := by show _ = _; simp only [arrUW]; exact if_neg (by omega)
        have q3' : decide (4095 / n < N) = false := by simpa using q3
        have hp : N * n ≤ 4095 := by
          have h5 : N * n ≤ 4095 / n * n := Int.mul_le_mul_of_nonneg_right (by omega) (by omega)
          have h6 : 4095 / n * n ≤ 4095 := Int.ediv_mul_le _ q1
          omega
        have hp0 : 0 ≤ N * n := Int.mul_nonneg (by omega) (by omega)
        have hw1 : IntKind.i64.wrap (N * n) = N * n := IntWalk.i64_in _ (by omega)
        have hw2 : IntKind.i64.wrap (1 + N * n) = 1 + N * n := IntWalk.i64_in _ (by omega)
        clear hd1 hd2 hp hp0
        go_enter Try.func20, Try.ntmps20
        go_wp2_with (go_at_call 64; refine (H.out _).mono ?_; rintro e w' ⟨rfl, hb⟩; obtain ⟨x, rfl⟩ := bx_of hb; clear hb)
        go_quiet (fail)
        go_wp2
        go_ret
        exact ⟨ret_int HE.out.symm, (by repeat (first | with_reducible exact Below.refl _ _ | with_reducible refine bl_alloc ?_ _ | with_reducible refine bl_drew ?_ | with_reducible refine bl_drewN ?_ _ | with_reducible refine bl_bx ?_ _ | with_reducible exact BX.below _ | with_reducible refine bl_set ?_ (by first | (exact Nat.le_refl _) | (simp; done) | (simp; omega)) _ | assumption))⟩

set_option maxRecDepth 100000 in
set_option maxHeartbeats 1000000 in
theorem optUWords (w : World) (c : Value) (n : Int) (h : SizeU c n) (r : 0 ≤ n ∧ n ≤ 4096) :
    Calls Try.prog 21 #[.agg #[c]] w fun e w' => e = .returned (.int .i64 (optW n)) ∧ Below w.heap.size w w' := by
  have H := Lib.hid h
  obtain ⟨a1, a2⟩ := r
  have hw : IntKind.i64.wrap (1 + n) = 1 + n := IntWalk.i64_in _ (by omega)
  clear h
  by_cases q1 : n = 0
  · have HE : Hid (optW n = 0) := by show _ = _; simp [optW, q1]
    subst q1
    go_enter Try.func21, Try.ntmps21
    go_wp2_with (go_at_call 64; refine (H.out _).mono ?_; rintro e w' ⟨rfl, hb⟩; obtain ⟨x, rfl⟩ := bx_of hb; clear hb)
    go_ret
    exact ⟨ret_int HE.out.symm, (by repeat (first | with_reducible exact Below.refl _ _ | with_reducible refine bl_alloc ?_ _ | with_reducible refine bl_drew ?_ | with_reducible refine bl_drewN ?_ _ | with_reducible refine bl_bx ?_ _ | with_reducible exact BX.below _ | with_reducible refine bl_set ?_ (by first | (exact Nat.le_refl _) | (simp; done) | (simp; omega)) _ | assumption))⟩
  · have q1' : (n == 0) = false := by simpa using q1
    by_cases q2 : n > 4095
    · have HE : Hid (optW n = 0) := by show _ = _; simp only [optW]; exact if_pos (by omega)
      clear q1
      go_enter Try.func21, Try.ntmps21
      go_wp2_with (go_at_call 64; refine (H.out _).mono ?_; rintro e w' ⟨rfl, hb⟩; obtain ⟨x, rfl⟩ := bx_of hb; clear hb)
      go_ret
      exact ⟨ret_int HE.out.symm, (by repeat (first | with_reducible exact Below.refl _ _ | with_reducible refine bl_alloc ?_ _ | with_reducible refine bl_drew ?_ | with_reducible refine bl_drewN ?_ _ | with_reducible refine bl_bx ?_ _ | with_reducible exact BX.below _ | with_reducible refine bl_set ?_ (by first | (exact Nat.le_refl _) | (simp; done) | (simp; omega)) _ | assumption))⟩
    · have HE : Hid (optW n = 1 + n) := by show _ = _; simp only [optW]; exact if_neg (by omega)
      clear q1
      go_enter Try.func21, Try.ntmps21
      go_wp2_with (go_at_call 64; refine (H.out _).mono ?_; rintro e w' ⟨rfl, hb⟩; obtain ⟨x, rfl⟩ := bx_of hb; clear hb)
      go_ret
      exact ⟨ret_int HE.out.symm, (by repeat (first | with_reducible exact Below.refl _ _ | with_reducible refine bl_alloc ?_ _ | with_reducible refine bl_drew ?_ | with_reducible refine bl_drewN ?_ _ | with_reducible refine bl_bx ?_ _ | with_reducible exact BX.below _ | with_reducible refine bl_set ?_ (by first | (exact Nat.le_refl _) | (simp; done) | (simp; omega)) _ | assumption))⟩
end Go.Proofs.Ytlbgmoijepknbaa
