/- Contracts of Open and Len of a bitmap, and of the reference. -/
import Derived.Test.YtbhkdngbgokilaaDoorBmF
namespace Go.Proofs.YtbhkdngbgokilaaDoor
open Go.RowKit
set_option linter.unusedVariables false

def zmv : Value := .agg #[.nilIface, .int .u64 0, .int .i64 0]
/-- Can a bitmap be opened on 12 lines? -/
def openB (off bits : Int) : Bool := decide (1 ≤ bits) && (decide (bits ≤ 512) && (decide (off % 8 = 0) && decide (off + (bits + 63) / 64 * 8 ≤ 768)))
set_option maxRecDepth 100000 in
theorem bmLen (w : World) (v : Value) (off n : Int) : Calls Tryd.prog 18 #[.agg #[v, .int .u64 off, .int .i64 n]] w fun e w' => e = .returned (.int .i64 n) ∧ Below w.heap.size w w' := by
  go_enter Tryd.func18, Tryd.ntmps18
  go_wp2
  go_ret
  exact ⟨rfl, (by repeat (first | with_reducible exact Below.refl _ _ | with_reducible refine bl_alloc ?_ _ | with_reducible refine bl_drew ?_ | with_reducible refine bl_drewN ?_ _ | with_reducible refine bl_bx ?_ _ | with_reducible exact BX.below _ | with_reducible refine bl_set ?_ (by first | (exact Nat.le_refl _) | (simp; done) | (simp; omega)) _ | assumption))⟩
set_option maxRecDepth 100000 in
set_option maxHeartbeats 1000000 in
theorem bmOpen_nil (w : World) (off bits : Int) : Calls Tryd.prog 13 #[.nilIface, .int .u64 off, .int .i64 bits] w fun e w' => e = .returned (.tuple #[zmv, .int .i64 1]) ∧ Below w.heap.size w w' := by
  go_enter Tryd.func13, Tryd.ntmps13
  go_wp2
  refine bodyPost_ret (v := .tuple #[zmv, .int .i64 1]) (by simp [results, Tryd.results13, go_sem, zmv]) rfl ⟨rfl, (by repeat (first | with_reducible exact Below.refl _ _ | with_reducible refine bl_alloc ?_ _ | with_reducible refine bl_drew ?_ | with_reducible refine bl_drewN ?_ _ | with_reducible refine bl_bx ?_ _ | with_reducible exact BX.below _ | with_reducible refine bl_set ?_ (by first | (exact Nat.le_refl _) | (simp; done) | (simp; omega)) _ | assumption))⟩
set_option maxRecDepth 100000 in
set_option maxHeartbeats 1000000 in
theorem bmOpen_no (w : World) (T : Nat) (off bits : Int) (ho : 0 ≤ off ∧ off < 18446744073709551616) (hb : -9223372036854775808 ≤ bits ∧ bits < 9223372036854775808) (hS : ∀ W, Below w.heap.size w W → Calls Tryd.prog 102 #[.pointer (some ⟨T, 0, none⟩)] W fun e w' => e = .returned (.int .u64 768) ∧ W = w') (hno : openB off bits = false) :
    Calls Tryd.prog 13 #[.iface 28 (.pointer (some ⟨T, 0, none⟩)), .int .u64 off, .int .i64 bits] w fun e w' => e = .returned (.tuple #[zmv, .int .i64 1]) ∧ Below w.heap.size w w' := by
  obtain ⟨o1, o2⟩ := ho
  obtain ⟨b1, b2⟩ := hb
  have HS := Lib.hid hS
  clear hS
  by_cases c1 : off % 8 = 0
  · by_cases c2 : bits < 1
    · clear hno
      go_enter Tryd.func13, Tryd.ntmps13
      go_wp2
      exact bodyPost_ret (v := .tuple #[zmv, .int .i64 1]) (by simp [results, Tryd.results13, go_sem, zmv]) rfl ⟨rfl, (by repeat (first | with_reducible exact Below.refl _ _ | with_reducible refine bl_alloc ?_ _ | with_reducible refine bl_drew ?_ | with_reducible refine bl_drewN ?_ _ | with_reducible refine bl_bx ?_ _ | with_reducible exact BX.below _ | with_reducible refine bl_set ?_ (by first | (exact Nat.le_refl _) | (simp; done) | (simp; omega)) _ | assumption))⟩
    · by_cases c3 : bits > 512
      · clear hno
        go_enter Tryd.func13, Tryd.ntmps13
        go_wp2
        exact bodyPost_ret (v := .tuple #[zmv, .int .i64 1]) (by simp [results, Tryd.results13, go_sem, zmv]) rfl ⟨rfl, (by repeat (first | with_reducible exact Below.refl _ _ | with_reducible refine bl_alloc ?_ _ | with_reducible refine bl_drew ?_ | with_reducible refine bl_drewN ?_ _ | with_reducible refine bl_bx ?_ _ | with_reducible exact BX.below _ | with_reducible refine bl_set ?_ (by first | (exact Nat.le_refl _) | (simp; done) | (simp; omega)) _ | assumption))⟩
      · have hno' : 768 < off + (bits + 63) / 64 * 8 := by
          unfold openB at hno
          rw [decide_eq_true (by omega), decide_eq_true (by omega), decide_eq_true c1] at hno
          simp at hno
          omega
        obtain ⟨m, hm⟩ : ∃ m : Int, (bits + 63) / 64 = m := ⟨_, rfl⟩
        have hm1 : (bits + 64 - 1) / 64 = m := by rw [← hm]; congr 1; omega
        have hmr : 1 ≤ m ∧ m ≤ 8 := by omega
        rw [hm] at hno'
        have e1 : IntKind.u64.wrap m = m := IntWalk.u64_in _ (by omega)
        have e2 : IntKind.u64.wrap (m * 8) = m * 8 := IntWalk.u64_in _ (by omega)
        clear hno
        by_cases c4 : off > 768
        · go_enter Tryd.func13, Tryd.ntmps13
          go_wp2_with (first | (go_at_call 102; refine (HS.out _ (by (repeat (first | with_reducible exact Below.refl _ _ | with_reducible refine bl_alloc ?_ _ | with_reducible refine bl_drew ?_ | with_reducible refine bl_drewN ?_ _ | with_reducible refine bl_bx ?_ _ | with_reducible exact BX.below _ | with_reducible refine bl_set ?_ (by first | (exact Nat.le_refl _) | (simp; done) | (simp; omega)) _ | assumption)))).mono ?_; rintro e w' ⟨rfl, rfl⟩))
          exact bodyPost_ret (v := .tuple #[zmv, .int .i64 1]) (by simp [results, Tryd.results13, go_sem, zmv]) rfl ⟨rfl, (by repeat (first | with_reducible exact Below.refl _ _ | with_reducible refine bl_alloc ?_ _ | with_reducible refine bl_drew ?_ | with_reducible refine bl_drewN ?_ _ | with_reducible refine bl_bx ?_ _ | with_reducible exact BX.below _ | with_reducible refine bl_set ?_ (by first | (exact Nat.le_refl _) | (simp; done) | (simp; omega)) _ | assumption))⟩
        · have e3 : IntKind.u64.wrap (768 - off) = 768 - off := IntWalk.u64_in _ (by omega)
          have c5 : 768 - off < m * 8 := by omega
          go_enter Tryd.func13, Tryd.ntmps13
          go_wp2_with (first | (go_at_call 102; refine (HS.out _ (by (repeat (first | with_reducible exact Below.refl _ _ | with_reducible refine bl_alloc ?_ _ | with_reducible refine bl_drew ?_ | with_reducible refine bl_drewN ?_ _ | with_reducible refine bl_bx ?_ _ | with_reducible exact BX.below _ | with_reducible refine bl_set ?_ (by first | (exact Nat.le_refl _) | (simp; done) | (simp; omega)) _ | assumption)))).mono ?_; rintro e w' ⟨rfl, rfl⟩))
          exact bodyPost_ret (v := .tuple #[zmv, .int .i64 1]) (by simp [results, Tryd.results13, go_sem, zmv]) rfl ⟨rfl, (by repeat (first | with_reducible exact Below.refl _ _ | with_reducible refine bl_alloc ?_ _ | with_reducible refine bl_drew ?_ | with_reducible refine bl_drewN ?_ _ | with_reducible refine bl_bx ?_ _ | with_reducible exact BX.below _ | with_reducible refine bl_set ?_ (by first | (exact Nat.le_refl _) | (simp; done) | (simp; omega)) _ | assumption))⟩
  · have c1' : (off % 8 != 0) = true := by simpa using c1
    clear hno
    go_enter Tryd.func13, Tryd.ntmps13
    go_wp2
    exact bodyPost_ret (v := .tuple #[zmv, .int .i64 1]) (by simp [results, Tryd.results13, go_sem, zmv]) rfl ⟨rfl, (by repeat (first | with_reducible exact Below.refl _ _ | with_reducible refine bl_alloc ?_ _ | with_reducible refine bl_drew ?_ | with_reducible refine bl_drewN ?_ _ | with_reducible refine bl_bx ?_ _ | with_reducible exact BX.below _ | with_reducible refine bl_set ?_ (by first | (exact Nat.le_refl _) | (simp; done) | (simp; omega)) _ | assumption))⟩
set_option maxRecDepth 100000 in
set_option maxHeartbeats 1000000 in
theorem bmOpen_ok (w : World) (T : Nat) (off bits er : Int) (ho : 0 ≤ off) (hS : ∀ W, Below w.heap.size w W → Calls Tryd.prog 102 #[.pointer (some ⟨T, 0, none⟩)] W fun e w' => e = .returned (.int .u64 768) ∧ W = w') (hE : ∀ W, Below w.heap.size w W → Calls Tryd.prog 17 #[.pointer (some ⟨T, 0, none⟩)] W fun e w' => e = .returned (.int .i64 er) ∧ W = w') (hok : openB off bits = true) :
    Calls Tryd.prog 13 #[.iface 28 (.pointer (some ⟨T, 0, none⟩)), .int .u64 off, .int .i64 bits] w fun e w' => e = .returned (.tuple #[if er = 0 then bmv T off bits else zmv, .int .i64 er]) ∧ Below w.heap.size w w' := by
  have HS := Lib.hid hS
  have HE := Lib.hid hE
  unfold openB at hok
  simp only [Bool.and_eq_true, decide_eq_true_eq] at hok
  obtain ⟨b1, b2, o1, o2⟩ := hok
  obtain ⟨m, hm⟩ : ∃ m : Int, (bits + 63) / 64 = m := ⟨_, rfl⟩
  have hmr : 1 ≤ m ∧ m ≤ 8 := by omega
  rw [hm] at o2
  have HM : Hid ((bits + 64 - 1) / 64 = m) := by show _ = _; rw [← hm]; congr 1; omega
  have c1' : (off % 8 != 0) = false := by simpa using o1
  have e1 : IntKind.u64.wrap m = m := IntWalk.u64_in _ (by omega)
  have e2 : IntKind.u64.wrap (m * 8) = m * 8 := IntWalk.u64_in _ (by omega)
  have e3 : IntKind.u64.wrap (768 - off) = 768 - off := IntWalk.u64_in _ (by omega)
  have c5 : ¬ 768 - off < m * 8 := by omega
  have c6 : ¬ off > 768 := by omega
  clear hS hE hm o1
  unfold bmv
  by_cases her : er = 0
  · subst her
    rw [if_pos rfl]
    go_enter Tryd.func13, Tryd.ntmps13
    go_upto_region 4 with (fail)
    rw [HM.out]
    go_wp2_with (first | (go_at_call 102; refine (HS.out _ (by (repeat (first | with_reducible exact Below.refl _ _ | with_reducible refine bl_alloc ?_ _ | with_reducible refine bl_drew ?_ | with_reducible refine bl_drewN ?_ _ | with_reducible refine bl_bx ?_ _ | with_reducible exact BX.below _ | with_reducible refine bl_set ?_ (by first | (exact Nat.le_refl _) | (simp; done) | (simp; omega)) _ | assumption)))).mono ?_; rintro e w' ⟨rfl, rfl⟩) | (go_at_call 17; refine (HE.out _ (by (repeat (first | with_reducible exact Below.refl _ _ | with_reducible refine bl_alloc ?_ _ | with_reducible refine bl_drew ?_ | with_reducible refine bl_drewN ?_ _ | with_reducible refine bl_bx ?_ _ | with_reducible exact BX.below _ | with_reducible refine bl_set ?_ (by first | (exact Nat.le_refl _) | (simp; done) | (simp; omega)) _ | assumption)))).mono ?_; rintro e w' ⟨rfl, rfl⟩))
    exact bodyPost_ret (v := .tuple #[.agg #[.iface 28 (.pointer (some ⟨T, 0, none⟩)), .int .u64 off, .int .i64 bits], .int .i64 0]) (by simp [results, Tryd.results13, go_sem]) rfl ⟨rfl, (by repeat (first | with_reducible exact Below.refl _ _ | with_reducible refine bl_alloc ?_ _ | with_reducible refine bl_drew ?_ | with_reducible refine bl_drewN ?_ _ | with_reducible refine bl_bx ?_ _ | with_reducible exact BX.below _ | with_reducible refine bl_set ?_ (by first | (exact Nat.le_refl _) | (simp; done) | (simp; omega)) _ | assumption))⟩
  · rw [if_neg her]
    have her' : (er != 0) = true := by simpa using her
    go_enter Tryd.func13, Tryd.ntmps13
    go_upto_region 4 with (fail)
    rw [HM.out]
    go_wp2_with (first | (go_at_call 102; refine (HS.out _ (by (repeat (first | with_reducible exact Below.refl _ _ | with_reducible refine bl_alloc ?_ _ | with_reducible refine bl_drew ?_ | with_reducible refine bl_drewN ?_ _ | with_reducible refine bl_bx ?_ _ | with_reducible exact BX.below _ | with_reducible refine bl_set ?_ (by first | (exact Nat.le_refl _) | (simp; done) | (simp; omega)) _ | assumption)))).mono ?_; rintro e w' ⟨rfl, rfl⟩) | (go_at_call 17; refine (HE.out _ (by (repeat (first | with_reducible exact Below.refl _ _ | with_reducible refine bl_alloc ?_ _ | with_reducible refine bl_drew ?_ | with_reducible refine bl_drewN ?_ _ | with_reducible refine bl_bx ?_ _ | with_reducible exact BX.below _ | with_reducible refine bl_set ?_ (by first | (exact Nat.le_refl _) | (simp; done) | (simp; omega)) _ | assumption)))).mono ?_; rintro e w' ⟨rfl, rfl⟩))
    exact bodyPost_ret (v := .tuple #[zmv, .int .i64 er]) (by simp [results, Tryd.results13, go_sem, zmv]) rfl ⟨rfl, (by repeat (first | with_reducible exact Below.refl _ _ | with_reducible refine bl_alloc ?_ _ | with_reducible refine bl_drew ?_ | with_reducible refine bl_drewN ?_ _ | with_reducible refine bl_bx ?_ _ | with_reducible exact BX.below _ | with_reducible refine bl_set ?_ (by first | (exact Nat.le_refl _) | (simp; done) | (simp; omega)) _ | assumption))⟩
end Go.Proofs.YtbhkdngbgokilaaDoor
