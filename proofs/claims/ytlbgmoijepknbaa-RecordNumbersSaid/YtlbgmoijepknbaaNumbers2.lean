/- The law RecordNumbers returns true: slices that have not one word. -/
import Derived.Test.YtlbgmoijepknbaaAwake
namespace Go.Proofs.Ytlbgmoijepknbaa
open Go.RowKit
set_option linter.unusedVariables false

set_option maxRecDepth 100000 in
set_option maxHeartbeats 4000000 in
theorem law_RecordNumbers_not (w : World) (u i : Int) (n m : Nat) (hn : n ≤ 255) (h1 : n % 3 = m) (hm : m ≠ 1) (fl : Bool) (hfl : ((n : Int) % 2 == 1) = fl) :
    Calls Try.prog 6 #[.int .u64 u, .int .i64 i, .int .u8 (n : Int)] w fun e w' => e = .returned (.bool true) ∧ Below w.heap.size w w' := by
  have e1 : (n : Int) % 3 = (m : Int) := by omega
  have e2 : ((m : Int) == 1) = false := by simp; omega
  have hm2 : m ≤ 2 := by omega
  have hmI : (0 : Int) ≤ (m : Int) := by omega
  go_enter Try.func6, Try.ntmps6
  go_wp2_with (go_at_call 12; refine (awake_any _).mono ?_; rintro e w' ⟨rfl, hb⟩; obtain ⟨x, rfl⟩ := bx_of hb; clear hb)
  refine (blank_any _ m (by omega)).mono ?_
  rintro e w1 ⟨rfl, hI1, hb1⟩
  obtain ⟨x1, rfl⟩ := bx_of hb1
  have HI1 := Lib.hid hI1
  clear hb1 hI1
  go_wp2_with fail
  refine (blank_any _ m (by omega)).mono ?_
  rintro e w1 ⟨rfl, hI2, hb1⟩
  obtain ⟨x2, rfl⟩ := bx_of hb1
  have HI2 := Lib.hid hI2
  clear hb1 hI2
  go_wp2_with fail
  refine (blank_any _ m (by omega)).mono ?_
  rintro e w1 ⟨rfl, hI3, hb1⟩
  obtain ⟨x3, rfl⟩ := bx_of hb1
  have HI3 := Lib.hid hI3
  clear hb1 hI3
  generalize hG1 : x.w.heap.size + 1 = g1 at *
  generalize hG2 : x1.w.heap.size + 1 = g2 at *
  generalize hG3 : x2.w.heap.size + 1 = g3 at *
  have J1 : Hid (IB .u64 26 x3.w g1 (List.replicate m 7)) := (HI1.out.bx x2).bx x3
  have J2 : Hid (IB .u64 26 x3.w g2 (List.replicate m 7)) := HI2.out.bx x3
  have J3 : Hid (IB .u64 26 x3.w g3 (List.replicate m 7)) := HI3.out
  clear HI1 HI2 HI3 hG1 hG2 hG3
  go_wp2_with (first
    | (go_at_call 29; refine (uintEncode_no _ _ _ _ _ hm).mono ?_; rintro e w' ⟨rfl, hb⟩; obtain ⟨x4, rfl⟩ := bx_of hb; clear hb)
    | (go_at_call 30; refine (intEncode_no _ _ _ _ _ hm).mono ?_; rintro e w' ⟨rfl, hb⟩; obtain ⟨x5, rfl⟩ := bx_of hb; clear hb)
    | (go_at_call 31; refine (boolEncode_no _ _ _ _ _ hm).mono ?_; rintro e w' ⟨rfl, hb⟩; obtain ⟨x6, rfl⟩ := bx_of hb; clear hb)
    | (go_at_call 32; refine (uintDecode_no _ _ _ _ hm).mono ?_; rintro e w' ⟨rfl, hb⟩; obtain ⟨x7, rfl⟩ := bx_of hb; clear hb)
    | (go_at_call 33; refine (intDecode_no _ _ _ _ hm).mono ?_; rintro e w' ⟨rfl, hb⟩; obtain ⟨x8, rfl⟩ := bx_of hb; clear hb)
    | (go_at_call 34; refine (boolDecode_no _ _ _ _ hm).mono ?_; rintro e w' ⟨rfl, hb⟩; obtain ⟨x9, rfl⟩ := bx_of hb; clear hb))
  have K1 : Hid (IB .u64 26 x9.w g1 (List.replicate m 7)) := (((((J1.out.bx x4).bx x5).bx x6).bx x7).bx x8).bx x9
  have K2 : Hid (IB .u64 26 x9.w g2 (List.replicate m 7)) := (((((J2.out.bx x4).bx x5).bx x6).bx x7).bx x8).bx x9
  have K3 : Hid (IB .u64 26 x9.w g3 (List.replicate m 7)) := (((((J3.out.bx x4).bx x5).bx x6).bx x7).bx x8).bx x9
  have hBB : Below w.heap.size w x9.w := (by repeat (first | with_reducible exact Below.refl _ _ | with_reducible refine bl_alloc ?_ _ | with_reducible refine bl_drew ?_ | with_reducible refine bl_drewN ?_ _ | with_reducible refine bl_bx ?_ _ | with_reducible exact BX.below _ | assumption))
  have HBB := Lib.hid hBB
  clear J1 J2 J3 hBB
  refine (blank_any _ m (by omega)).mono ?_
  rintro e w1 ⟨rfl, hI4, hb1⟩
  obtain ⟨y, rfl⟩ := bx_of hb1
  have HI4 := Lib.hid hI4
  clear hb1 hI4
  go_wp2_with fail
  refine (equalU_n _ _ _ m m _ _ (List.replicate m 7) (List.replicate m 7) (by simp) (by simp) (K1.out.bx y).rd0 HI4.out.rd0 (by omega) (by omega)).mono ?_
  rw [show (List.replicate m (7 : Int) == List.replicate m 7) = true from by simp]
  rintro e w2 ⟨rfl, n1, rfl⟩
  go_wp2_with fail
  refine (equalU_n _ _ _ m m _ _ (List.replicate m 7) (List.replicate m 7) (by simp) (by simp) (by exact ((K2.out.bx y).drewN _).rd0) (by exact ((K1.out.bx y).drewN _).rd0) (by omega) (by omega)).mono ?_
  rw [show (List.replicate m (7 : Int) == List.replicate m 7) = true from by simp]
  rintro e w2 ⟨rfl, n2, rfl⟩
  go_wp2_with fail
  refine (equalU_n _ _ _ m m _ _ (List.replicate m 7) (List.replicate m 7) (by simp) (by simp) (by exact ((K3.out.bx y).drewN _).rd0) (by exact ((K1.out.bx y).drewN _).rd0) (by omega) (by omega)).mono ?_
  rw [show (List.replicate m (7 : Int) == List.replicate m 7) = true from by simp]
  rintro e w2 ⟨rfl, n3, rfl⟩
  go_wp2
  go_ret
  exact ⟨rfl, bl_drewN (bl_bx HBB.out y) _⟩
end Go.Proofs.Ytlbgmoijepknbaa
