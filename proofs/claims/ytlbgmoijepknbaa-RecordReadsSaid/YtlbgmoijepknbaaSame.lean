/- Contract of Same of the reference of records. -/
import Derived.Test.YtlbgmoijepknbaaVal
namespace Go.Proofs.Ytlbgmoijepknbaa
open Go.RowKit
set_option linter.unusedVariables false

def recSame (f g : Bool) (l k : List ByteArray) (h i : Bool) (n m : Int) : Bool := f == g && h == i && n == m && l == k
set_option maxRecDepth 100000 in
set_option maxHeartbeats 4000000 in
theorem same11_yes (w : World) (f h : Bool) (n : Int) (A B : Option Addr) (m c d : Nat) (l : List ByteArray) (hl : l.length = m) (hA : RdV w A (strVals l)) (hB : RdV w B (strVals l)) (hm : m ≤ 1000000) :
    Calls Try.prog 15 #[.agg #[.bool f, .slice A m c, .bool h, .int .i64 n], .agg #[.bool f, .slice B m d, .bool h, .int .i64 n]] w fun e w' => e = .returned (.bool true) ∧ Below w.heap.size w w' := by
  have HA := Lib.hid hA
  have HB := Lib.hid hB
  have HL := Lib.hid hl
  clear hA hB hl
  have e1 : (f != f) = false := by simp
  have e2 : (h != h) = false := by simp
  have e3 : (n != n) = false := by simp
  have e4 : ((m : Int) != (m : Int)) = false := by simp
  go_enter Try.func15, Try.ntmps15
  go_wp2
  go_loopw [37, 4, 5, 38, 39, 40, 41, 42, 43, 44, 45, 46, 47, 48, 49, 50, 51] (fun i _ _ _ _ _ _ _ _ _ _ _ _ _ _ _ _ wr => ∃ k : Nat, k ≤ m ∧ i = .int .i64 k ∧ ∃ q, wr = ((w.alloc (.cells #[.bool f, .slice A m c, .bool h, .int .i64 n] 24)).alloc (.cells #[.bool f, .slice B m d, .bool h, .int .i64 n] 24)).drewN q) (fun i _ _ _ _ _ _ _ _ _ _ _ _ _ _ _ _ _ => m - (intOf i).toNat)
  case atStart => exact ⟨0, Nat.zero_le _, rfl, 0, rfl⟩
  case round =>
    obtain ⟨k, hk, rfl, q, rfl⟩ := hrel
    by_cases hlt : k < m
    · have hk' : k < (strVals l).length := by rw [length_strVals, HL.out]; exact hlt
      have hkl : k < l.length := by rw [HL.out]; exact hlt
      obtain ⟨b1, o1, rfl, hb1, hc1⟩ := HA.out.at_ hk'
      obtain ⟨b2, o2, rfl, hb2, hc2⟩ := HB.out.at_ hk'
      rw [get_strVals l k hkl] at hc1 hc2
      have n1 : ¬ b1 = w.heap.size := by omega
      have n2 : ¬ b2 = w.heap.size := by omega
      have n3 : b1 < w.heap.size + 1 := by omega
      have n4 : b2 < w.heap.size + 1 := by omega
      go_wp2
      go_quiet (fail)
      go_wp2
      go_roundw
      case rel => exact ⟨k + 1, by omega, by go_num, _, rfl⟩
      case measure => simp [intOf]; omega
    · go_wp2
      go_ret
      exact ⟨rfl, (by repeat (first | with_reducible exact Below.refl _ _ | with_reducible refine bl_alloc ?_ _ | with_reducible refine bl_drew ?_ | with_reducible refine bl_drewN ?_ _ | with_reducible refine bl_bx ?_ _ | with_reducible exact BX.below _ | with_reducible refine bl_set ?_ (by first | (exact Nat.le_refl _) | (simp; done) | (simp; omega)) _ | assumption))⟩
end Go.Proofs.Ytlbgmoijepknbaa
