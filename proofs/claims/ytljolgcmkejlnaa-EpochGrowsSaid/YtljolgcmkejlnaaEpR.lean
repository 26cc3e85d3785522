/- The functions of the reference of epochs. -/
import Derived.Test.YtljolgcmkejlnaaEpNil
import Derived.RegionTactic
namespace Go.Proofs.Ytljolgcmkejlnaa
open Go.RowKit
set_option linter.unusedVariables false

theorem mod18 (w : World) (a : Int) (ha : -9223372036854775808 ≤ a ∧ a < 9223372036854775808) (n : Int) (hn : 1 ≤ n ∧ n ≤ 1000) : Calls Try.prog 17 #[.int .i64 a, .int .i64 n] w fun r w' => r = .returned (.int .i64 (a % n)) ∧ w = w' := by
  obtain ⟨a1, a2⟩ := ha
  obtain ⟨n1, n2⟩ := hn
  have h1 : -n < a.tmod n := by have := Int.lt_tmod_of_pos a (show 0 < n by omega); omega
  have h2 : a.tmod n < n := Int.tmod_lt_of_pos a (by omega)
  have hw : IntKind.i64.wrap (a.tmod n + n) = a.tmod n + n := IntWalk.i64_in _ (by omega)
  have hr : (a.tmod n + n) % n = a % n := by
    rw [Int.add_emod_right]
    have := Int.tmod_add_mul_tdiv a n
    have h3 : a % n = (a.tmod n + n * a.tdiv n) % n := by rw [this]
    rw [h3, Int.add_mul_emod_self_left]
  have hn0 : (n == 0) = false := by simp; omega
  have hn0' : ¬ n = 0 := by omega
  have HR := Lib.hid hr
  clear hr
  go_enter Try.func17, Try.ntmps17
  go_wp2
  go_ret
  exact ⟨ret_int HR.out, rfl⟩

theorem an8 {i : Nat} (hi : i < 8) : i = 0 ∨ i = 1 ∨ i = 2 ∨ i = 3 ∨ i = 4 ∨ i = 5 ∨ i = 6 ∨ i = 7 := by omega
/-- What Enter, Exit and Advance of the reference return. -/
def rEnter (e : Int) (an : Nat → Int) (z : Int) : Int × (Nat → Int) × Int × Int := if z < 0 ∨ 7 < z then (e, an, 0, 1) else if an z.toNat ≠ 0 then (e, an, 0, 8) else (e, setAn an z.toNat e, e, 0)
def rExit (e : Int) (an : Nat → Int) (z : Int) : Int × (Nat → Int) × Int := if z < 0 ∨ 7 < z then (e, an, 1) else if an z.toNat = 0 then (e, an, 8) else (e, setAn an z.toNat 0, 0)
def rAdvance (e : Int) (an : Nat → Int) (z : Int) : Int × (Nat → Int) × Int × Int := if z < 0 ∨ 7 < z then (e, an, 0, 1) else if freeB e an then (e + 1, an, e + 1, 0) else (e, an, 0, 7)

set_option maxRecDepth 100000 in
set_option maxHeartbeats 1000000 in
theorem refEnter_bad (w : World) (e : Int) (an : Nat → Int) (z : Int) (hz : z < 0 ∨ 7 < z) : Calls Try.prog 32 #[rcv e an, .int .i64 z] w fun r w' => r = .returned (.tuple #[rcv e an, .int .u64 0, .int .i64 1]) ∧ Below w.heap.size w w' := by
  unfold rcv
  rcases hz with h | h
  · go_enter Try.func32, Try.ntmps32
    go_wp2
    exact bodyPost_ret (v := .tuple #[rcv e an, .int .u64 0, .int .i64 1]) (by simp [results, Try.results32, go_sem, rcv]) rfl ⟨rfl, (by repeat (first | with_reducible exact Below.refl _ _ | with_reducible refine bl_alloc ?_ _ | with_reducible refine bl_drew ?_ | with_reducible refine bl_drewN ?_ _ | with_reducible refine bl_bx ?_ _ | with_reducible exact BX.below _ | with_reducible refine bl_set ?_ (by first | (exact Nat.le_refl _) | (simp; done) | (simp; omega)) _ | assumption))⟩
  · have h0 : ¬ z < 0 := by omega
    go_enter Try.func32, Try.ntmps32
    go_wp2
    exact bodyPost_ret (v := .tuple #[rcv e an, .int .u64 0, .int .i64 1]) (by simp [results, Try.results32, go_sem, rcv]) rfl ⟨rfl, (by repeat (first | with_reducible exact Below.refl _ _ | with_reducible refine bl_alloc ?_ _ | with_reducible refine bl_drew ?_ | with_reducible refine bl_drewN ?_ _ | with_reducible refine bl_bx ?_ _ | with_reducible exact BX.below _ | with_reducible refine bl_set ?_ (by first | (exact Nat.le_refl _) | (simp; done) | (simp; omega)) _ | assumption))⟩
set_option maxRecDepth 100000 in
set_option maxHeartbeats 4000000 in
theorem refEnter_no (w : World) (e : Int) (an : Nat → Int) (i : Nat) (hi : i < 8) (ha : an i ≠ 0) : Calls Try.prog 32 #[rcv e an, .int .i64 (i : Int)] w fun r w' => r = .returned (.tuple #[rcv e an, .int .u64 0, .int .i64 8]) ∧ Below w.heap.size w w' := by
  unfold rcv
  have ha' : (an i != 0) = true := by simpa using ha
  rcases an8 hi with rfl | rfl | rfl | rfl | rfl | rfl | rfl | rfl
  all_goals
    go_enter Try.func32, Try.ntmps32
    go_wp2
    exact bodyPost_ret (v := .tuple #[rcv e an, .int .u64 0, .int .i64 8]) (by simp [results, Try.results32, go_sem, rcv]) rfl ⟨rfl, (by repeat (first | with_reducible exact Below.refl _ _ | with_reducible refine bl_alloc ?_ _ | with_reducible refine bl_drew ?_ | with_reducible refine bl_drewN ?_ _ | with_reducible refine bl_bx ?_ _ | with_reducible exact BX.below _ | with_reducible refine bl_set ?_ (by first | (exact Nat.le_refl _) | (simp; done) | (simp; omega)) _ | assumption))⟩
set_option maxRecDepth 100000 in
set_option maxHeartbeats 4000000 in
theorem refEnter_ok (w : World) (e : Int) (an : Nat → Int) (i : Nat) (hi : i < 8) (ha : an i = 0) : Calls Try.prog 32 #[rcv e an, .int .i64 (i : Int)] w fun r w' => r = .returned (.tuple #[rcv e (setAn an i e), .int .u64 e, .int .i64 0]) ∧ Below w.heap.size w w' := by
  unfold rcv
  have ha' : (an i != 0) = false := by simpa using ha
  clear ha
  rcases an8 hi with rfl | rfl | rfl | rfl | rfl | rfl | rfl | rfl
  all_goals
    go_enter Try.func32, Try.ntmps32
    go_wp2
    go_region
    go_wp2
    exact bodyPost_ret (v := .tuple #[rcv e (setAn an _ e), .int .u64 e, .int .i64 0]) (by simp [results, Try.results32, go_sem, rcv, setAn]) rfl ⟨rfl, (by repeat (first | with_reducible exact Below.refl _ _ | with_reducible refine bl_alloc ?_ _ | with_reducible refine bl_drew ?_ | with_reducible refine bl_drewN ?_ _ | with_reducible refine bl_bx ?_ _ | with_reducible exact BX.below _ | with_reducible refine bl_set ?_ (by first | (exact Nat.le_refl _) | (simp; done) | (simp; omega)) _ | assumption))⟩

set_option maxRecDepth 100000 in
set_option maxHeartbeats 1000000 in
theorem refExit_bad (w : World) (e : Int) (an : Nat → Int) (z : Int) (hz : z < 0 ∨ 7 < z) : Calls Try.prog 33 #[rcv e an, .int .i64 z] w fun r w' => r = .returned (.tuple #[rcv e an, .int .i64 1]) ∧ Below w.heap.size w w' := by
  unfold rcv
  rcases hz with h | h
  · go_enter Try.func33, Try.ntmps33
    go_wp2
    exact bodyPost_ret (v := .tuple #[rcv e an, .int .i64 1]) (by simp [results, Try.results33, go_sem, rcv]) rfl ⟨rfl, (by repeat (first | with_reducible exact Below.refl _ _ | with_reducible refine bl_alloc ?_ _ | with_reducible refine bl_drew ?_ | with_reducible refine bl_drewN ?_ _ | with_reducible refine bl_bx ?_ _ | with_reducible exact BX.below _ | with_reducible refine bl_set ?_ (by first | (exact Nat.le_refl _) | (simp; done) | (simp; omega)) _ | assumption))⟩
  · have h0 : ¬ z < 0 := by omega
    go_enter Try.func33, Try.ntmps33
    go_wp2
    exact bodyPost_ret (v := .tuple #[rcv e an, .int .i64 1]) (by simp [results, Try.results33, go_sem, rcv]) rfl ⟨rfl, (by repeat (first | with_reducible exact Below.refl _ _ | with_reducible refine bl_alloc ?_ _ | with_reducible refine bl_drew ?_ | with_reducible refine bl_drewN ?_ _ | with_reducible refine bl_bx ?_ _ | with_reducible exact BX.below _ | with_reducible refine bl_set ?_ (by first | (exact Nat.le_refl _) | (simp; done) | (simp; omega)) _ | assumption))⟩
set_option maxRecDepth 100000 in
set_option maxHeartbeats 4000000 in
theorem refExit_no (w : World) (e : Int) (an : Nat → Int) (i : Nat) (hi : i < 8) (ha : an i = 0) : Calls Try.prog 33 #[rcv e an, .int .i64 (i : Int)] w fun r w' => r = .returned (.tuple #[rcv e an, .int .i64 8]) ∧ Below w.heap.size w w' := by
  unfold rcv
  have ha' : (an i == 0) = true := by simpa using ha
  clear ha
  rcases an8 hi with rfl | rfl | rfl | rfl | rfl | rfl | rfl | rfl
  all_goals
    go_enter Try.func33, Try.ntmps33
    go_wp2
    exact bodyPost_ret (v := .tuple #[rcv e an, .int .i64 8]) (by simp [results, Try.results33, go_sem, rcv]) rfl ⟨rfl, (by repeat (first | with_reducible exact Below.refl _ _ | with_reducible refine bl_alloc ?_ _ | with_reducible refine bl_drew ?_ | with_reducible refine bl_drewN ?_ _ | with_reducible refine bl_bx ?_ _ | with_reducible exact BX.below _ | with_reducible refine bl_set ?_ (by first | (exact Nat.le_refl _) | (simp; done) | (simp; omega)) _ | assumption))⟩
set_option maxRecDepth 100000 in
set_option maxHeartbeats 4000000 in
theorem refExit_ok (w : World) (e : Int) (an : Nat → Int) (i : Nat) (hi : i < 8) (ha : an i ≠ 0) : Calls Try.prog 33 #[rcv e an, .int .i64 (i : Int)] w fun r w' => r = .returned (.tuple #[rcv e (setAn an i 0), .int .i64 0]) ∧ Below w.heap.size w w' := by
  unfold rcv
  have ha' : (an i == 0) = false := by simpa using ha
  clear ha
  rcases an8 hi with rfl | rfl | rfl | rfl | rfl | rfl | rfl | rfl
  all_goals
    go_enter Try.func33, Try.ntmps33
    go_wp2
    exact bodyPost_ret (v := .tuple #[rcv e (setAn an _ 0), .int .i64 0]) (by simp [results, Try.results33, go_sem, rcv, setAn]) rfl ⟨rfl, (by repeat (first | with_reducible exact Below.refl _ _ | with_reducible refine bl_alloc ?_ _ | with_reducible refine bl_drew ?_ | with_reducible refine bl_drewN ?_ _ | with_reducible refine bl_bx ?_ _ | with_reducible exact BX.below _ | with_reducible refine bl_set ?_ (by first | (exact Nat.le_refl _) | (simp; done) | (simp; omega)) _ | assumption))⟩

set_option maxRecDepth 100000 in
set_option maxHeartbeats 1000000 in
theorem refAdvance_bad (w : World) (e : Int) (an : Nat → Int) (z : Int) (hz : z < 0 ∨ 7 < z) : Calls Try.prog 34 #[rcv e an, .int .i64 z] w fun r w' => r = .returned (.tuple #[rcv e an, .int .u64 0, .int .i64 1]) ∧ Below w.heap.size w w' := by
  unfold rcv
  rcases hz with h | h
  · go_enter Try.func34, Try.ntmps34
    go_wp2
    exact bodyPost_ret (v := .tuple #[rcv e an, .int .u64 0, .int .i64 1]) (by simp [results, Try.results34, go_sem, rcv]) rfl ⟨rfl, (by repeat (first | with_reducible exact Below.refl _ _ | with_reducible refine bl_alloc ?_ _ | with_reducible refine bl_drew ?_ | with_reducible refine bl_drewN ?_ _ | with_reducible refine bl_bx ?_ _ | with_reducible exact BX.below _ | with_reducible refine bl_set ?_ (by first | (exact Nat.le_refl _) | (simp; done) | (simp; omega)) _ | assumption))⟩
  · have h0 : ¬ z < 0 := by omega
    go_enter Try.func34, Try.ntmps34
    go_wp2
    exact bodyPost_ret (v := .tuple #[rcv e an, .int .u64 0, .int .i64 1]) (by simp [results, Try.results34, go_sem, rcv]) rfl ⟨rfl, (by repeat (first | with_reducible exact Below.refl _ _ | with_reducible refine bl_alloc ?_ _ | with_reducible refine bl_drew ?_ | with_reducible refine bl_drewN ?_ _ | with_reducible refine bl_bx ?_ _ | with_reducible exact BX.below _ | with_reducible refine bl_set ?_ (by first | (exact Nat.le_refl _) | (simp; done) | (simp; omega)) _ | assumption))⟩
/-- What Advance of the reference returns to a thread. -/
def RAdv (e : Int) (an : Nat → Int) (w : World) (r : Ending) (w' : World) : Prop :=
  (if freeB e an then r = .returned (.tuple #[rcv (e + 1) an, .int .u64 (e + 1), .int .i64 0]) else r = .returned (.tuple #[rcv e an, .int .u64 0, .int .i64 7])) ∧ Below w.heap.size w w'
set_option maxRecDepth 100000 in
set_option maxHeartbeats 4000000 in
theorem refAdvance (w : World) (e : Int) (an : Nat → Int) (he : 0 ≤ e ∧ e < 1000000000) (i : Nat) (hi : i < 8) : Calls Try.prog 34 #[rcv e an, .int .i64 (i : Int)] w (RAdv e an w) := by
  have hw : IntKind.u64.wrap (e + 1) = e + 1 := IntWalk.u64_in _ (by omega)
  have h7 : ¬ (7 : Int) < (i : Int) := by omega
  unfold rcv
  go_enter Try.func34, Try.ntmps34
  go_wp2
  go_loop [18, 8, 19, 20, 21, 22, 23, 24, 25, 26, 27, 28, 29, 30] (fun i _ _ _ _ _ _ _ _ _ _ _ _ _ => ∃ k : Nat, k ≤ 8 ∧ i = .int .i64 k ∧ (List.range k).all (busyB e an) = true) (fun i _ _ _ _ _ _ _ _ _ _ _ _ _ => 8 - (intOf i).toNat)
  case atStart => exact ⟨0, by omega, rfl, rfl⟩
  case round =>
    obtain ⟨k, hk, rfl, hall⟩ := hrel
    have HA := Lib.hid hall
    clear hall
    by_cases hlt : k < 8
    · have hix := fun W => run_idx an W k hlt
      have hlt' : (k : Int) < 8 := by omega
      obtain ⟨a, ha⟩ : ∃ a, an k = a := ⟨_, rfl⟩
      rw [ha] at hix
      have HAK := Lib.hid ha
      clear ha
      by_cases h0 : a = 0
      · subst h0
        go_wp2
        go_round
        case rel => exact ⟨k + 1, by omega, by go_num, by rw [range_all_step, HA.out]; simp [busyB, HAK.out]⟩
        case measure => simp [intOf]; omega
      · have h0' : (a != 0) = true := by simpa using h0
        by_cases hae : a = e
        · have hb : (a != e) = false := by simpa using hae
          have HAE := Lib.hid hae
          clear hae
          go_wp2
          go_round
          case rel => exact ⟨k + 1, by omega, by go_num, by rw [range_all_step, HA.out]; simp [busyB, HAK.out, HAE.out]⟩
          case measure => simp [intOf]; omega
        · have hb : (a != e) = true := by simpa using hae
          have HF : Hid (freeB e an = false) := range_all_false hlt (by simp [busyB, HAK.out, h0, hae])
          go_wp2
          refine bodyPost_ret (v := .tuple #[rcv e an, .int .u64 0, .int .i64 7]) (by simp [results, Try.results34, go_sem, rcv]) rfl ⟨?_, (by repeat (first | with_reducible exact Below.refl _ _ | with_reducible refine bl_alloc ?_ _ | with_reducible refine bl_drew ?_ | with_reducible refine bl_drewN ?_ _ | with_reducible refine bl_bx ?_ _ | with_reducible exact BX.below _ | with_reducible refine bl_set ?_ (by first | (exact Nat.le_refl _) | (simp; done) | (simp; omega)) _ | assumption))⟩
          rw [HF.out]; rfl
    · obtain rfl : k = 8 := by omega
      go_wp2
      go_region
      go_wp2
      refine bodyPost_ret (v := .tuple #[rcv (e + 1) an, .int .u64 (e + 1), .int .i64 0]) (by simp [results, Try.results34, go_sem, rcv]) rfl ⟨?_, (by repeat (first | with_reducible exact Below.refl _ _ | with_reducible refine bl_alloc ?_ _ | with_reducible refine bl_drew ?_ | with_reducible refine bl_drewN ?_ _ | with_reducible refine bl_bx ?_ _ | with_reducible exact BX.below _ | with_reducible refine bl_set ?_ (by first | (exact Nat.le_refl _) | (simp; done) | (simp; omega)) _ | assumption))⟩
      rw [show freeB e an = true from HA.out]; rfl
set_option maxRecDepth 100000 in
set_option maxHeartbeats 4000000 in
theorem refSafe (w : World) (e : Int) (an : Nat → Int) (x : Int) : Calls Try.prog 35 #[rcv e an, .int .u64 x] w fun r w' => r = .returned (.bool (safeB e an x)) ∧ Below w.heap.size w w' := by
  unfold rcv
  go_enter Try.func35, Try.ntmps35
  go_wp2
  go_loop [9, 6, 10, 11, 12, 13, 14, 15, 16, 17, 18, 19] (fun i _ _ _ _ _ _ _ _ _ _ _ => ∃ k : Nat, k ≤ 8 ∧ i = .int .i64 k ∧ (List.range k).all (holdB an x) = true) (fun i _ _ _ _ _ _ _ _ _ _ _ => 8 - (intOf i).toNat)
  case atStart => exact ⟨0, by omega, rfl, rfl⟩
  case round =>
    obtain ⟨k, hk, rfl, hall⟩ := hrel
    have HA := Lib.hid hall
    clear hall
    by_cases hlt : k < 8
    · have hix := fun W => run_idx an W k hlt
      have hlt' : (k : Int) < 8 := by omega
      obtain ⟨a, ha⟩ : ∃ a, an k = a := ⟨_, rfl⟩
      rw [ha] at hix
      have HAK := Lib.hid ha
      clear ha
      by_cases h0 : a = 0
      · subst h0
        go_wp2
        go_round
        case rel => exact ⟨k + 1, by omega, by go_num, by rw [range_all_step, HA.out]; simp [holdB, HAK.out]⟩
        case measure => simp [intOf]; omega
      · have h0' : (a != 0) = true := by simpa using h0
        by_cases hax : a ≤ x
        · have HF : Hid (safeB e an x = false) := by show _ = _; unfold safeB; rw [range_all_false hlt (by simp [holdB, HAK.out, h0, hax])]; simp
          go_wp2
          go_ret
          rw [HF.out]
          exact ⟨rfl, (by repeat (first | with_reducible exact Below.refl _ _ | with_reducible refine bl_alloc ?_ _ | with_reducible refine bl_drew ?_ | with_reducible refine bl_drewN ?_ _ | with_reducible refine bl_bx ?_ _ | with_reducible exact BX.below _ | with_reducible refine bl_set ?_ (by first | (exact Nat.le_refl _) | (simp; done) | (simp; omega)) _ | assumption))⟩
        · have hax' : decide (a ≤ x) = false := decide_eq_false hax
          go_wp2
          go_round
          case rel => exact ⟨k + 1, by omega, by go_num, by rw [range_all_step, HA.out]; simp [holdB, HAK.out, hax']⟩
          case measure => simp [intOf]; omega
    · obtain rfl : k = 8 := by omega
      have HF : Hid (safeB e an x = decide (x < e)) := by show _ = _; unfold safeB; rw [HA.out]; simp
      go_wp2
      go_ret
      rw [HF.out]
      exact ⟨rfl, (by repeat (first | with_reducible exact Below.refl _ _ | with_reducible refine bl_alloc ?_ _ | with_reducible refine bl_drew ?_ | with_reducible refine bl_drewN ?_ _ | with_reducible refine bl_bx ?_ _ | with_reducible exact BX.below _ | with_reducible refine bl_set ?_ (by first | (exact Nat.le_refl _) | (simp; done) | (simp; omega)) _ | assumption))⟩
end Go.Proofs.Ytljolgcmkejlnaa
