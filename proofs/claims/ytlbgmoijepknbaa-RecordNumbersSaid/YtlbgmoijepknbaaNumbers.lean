/- The law RecordNumbers returns true. -/
import Derived.Test.YtlbgmoijepknbaaAwake
namespace Go.Proofs.Ytlbgmoijepknbaa
open Go.RowKit
set_option linter.unusedVariables false

set_option maxRecDepth 100000 in
set_option maxHeartbeats 4000000 in
theorem law_RecordNumbers_one (w : World) (u i : Int) (n : Nat) (hi : -9223372036854775808 ≤ i ∧ i < 9223372036854775808) (hn : n ≤ 255) (h1 : n % 3 = 1) (fl : Bool) (hfl : ((n : Int) % 2 == 1) = fl) :
    Calls Try.prog 6 #[.int .u64 u, .int .i64 i, .int .u8 (n : Int)] w fun e w' => e = .returned (.bool true) ∧ Below w.heap.size w w' := by
  have e1 : (n : Int) % 3 = 1 := by omega
  have HI := Lib.hid hi
  have hwi : wrap64 (IntKind.u64.wrap i) = i := by unfold wrap64; rw [IntKind.wrap_u64]; omega
  have HWI := Lib.hid hwi
  clear hi hwi
  go_enter Try.func6, Try.ntmps6
  go_wp2_with (go_at_call 12; refine (awake_any _).mono ?_; rintro e w' ⟨rfl, hb⟩; obtain ⟨x, rfl⟩ := bx_of hb; clear hb)
  refine (blank_any _ 1 (by omega)).mono ?_
  rintro e w1 ⟨rfl, hI1, hb1⟩
  obtain ⟨x1, rfl⟩ := bx_of hb1
  have hg1 := hI1.lt
  have HI1 := Lib.hid hI1
  clear hb1 hI1
  go_wp2_with fail
  refine (blank_any _ 1 (by omega)).mono ?_
  rintro e w1 ⟨rfl, hI2, hb1⟩
  obtain ⟨x2, rfl⟩ := bx_of hb1
  have hg2 := hI2.lt
  have HI2 := Lib.hid hI2
  clear hb1 hI2
  go_wp2_with fail
  refine (blank_any _ 1 (by omega)).mono ?_
  rintro e w1 ⟨rfl, hI3, hb1⟩
  obtain ⟨x3, rfl⟩ := bx_of hb1
  have hg3 := hI3.lt
  have HI3 := Lib.hid hI3
  clear hb1 hI3
  generalize hG1 : x.w.heap.size + 1 = g1 at *
  generalize hG2 : x1.w.heap.size + 1 = g2 at *
  generalize hG3 : x2.w.heap.size + 1 = g3 at *
  have hB3 : Below w.heap.size w x3.w := (by repeat (first | with_reducible exact Below.refl _ _ | with_reducible refine bl_alloc ?_ _ | with_reducible refine bl_drew ?_ | with_reducible refine bl_drewN ?_ _ | with_reducible refine bl_bx ?_ _ | with_reducible exact BX.below _ | assumption))
  have HB3 := Lib.hid hB3
  have h12 : g1 < g2 := by omega
  have h23 : g2 < g3 := by omega
  have hw1 : w.heap.size ≤ g1 := by have := x.size; omega
  have J1 : Hid (IB .u64 26 x3.w g1 [7]) := (HI1.out.bx x2).bx x3
  have J2 : Hid (IB .u64 26 x3.w g2 [7]) := HI2.out.bx x3
  have J3 : Hid (IB .u64 26 x3.w g3 [7]) := HI3.out
  clear hB3 HI1 HI2 HI3 hG1 hG2 hG3
  go_wp2_with fail
  refine (uintEncode_ok _ g1 0 1 [7] u J1.out (by simp)).mono ?_
  rintro e w4 ⟨rfl, hI, hC⟩
  have J1 : Hid (IB .u64 26 w4 g1 [u]) := hI
  have J2 : Hid (IB .u64 26 w4 g2 [7]) := J2.out.ch hC (by unfold At; omega)
  have J3 : Hid (IB .u64 26 w4 g3 [7]) := J3.out.ch hC (by unfold At; omega)
  have HB4 := Lib.hid (bl_ch HB3.out hC (fun b hb => by unfold At at hb; omega))
  clear hI hC
  go_wp2_with fail
  refine (intEncode_ok _ g2 0 1 [7] i J2.out (by simp)).mono ?_
  rintro e w5 ⟨rfl, hI, hC⟩
  have J2 : Hid (IB .u64 26 w5 g2 [IntKind.u64.wrap i]) := hI
  have J1 : Hid (IB .u64 26 w5 g1 [u]) := J1.out.ch hC (by unfold At; omega)
  have J3 : Hid (IB .u64 26 w5 g3 [7]) := J3.out.ch hC (by unfold At; omega)
  have HB5 := Lib.hid (bl_ch HB4.out hC (fun b hb => by unfold At at hb; omega))
  clear hI hC
  go_wp2_with fail
  refine (boolEncode_ok _ g3 0 1 [7] fl J3.out (by simp)).mono ?_
  rintro e w6 ⟨rfl, hI, hC⟩
  have J3 : Hid (IB .u64 26 w6 g3 [if fl then 1 else 0]) := hI
  have J1 : Hid (IB .u64 26 w6 g1 [u]) := J1.out.ch hC (by unfold At; omega)
  have J2 : Hid (IB .u64 26 w6 g2 [IntKind.u64.wrap i]) := J2.out.ch hC (by unfold At; omega)
  have HB6 := Lib.hid (bl_ch HB5.out hC (fun b hb => by unfold At at hb; omega))
  clear hI hC
  go_wp2_with fail
  refine (uintDecode_ok _ w6.heap.size 0 1 u (by simp) (by simp)).mono ?_
  rintro e w7 ⟨rfl, hb7⟩
  obtain ⟨x7, rfl⟩ := bx_of hb7
  clear hb7
  go_wp2_with fail
  refine (intDecode_ok _ x7.w.heap.size 0 1 (IntKind.u64.wrap i) (by simp) (by simp)).mono ?_
  rw [HWI.out]
  rintro e w8 ⟨rfl, hb8⟩
  obtain ⟨x8, rfl⟩ := bx_of hb8
  clear hb8
  go_wp2_with fail
  refine (boolDecode_any _ x8.w.heap.size 0 1 u (by simp) (by simp)).mono ?_
  rintro e w9 ⟨rfl, hb9⟩
  obtain ⟨x9, rfl⟩ := bx_of hb9
  clear hb9
  have hc1 : x9.w.cell? ⟨g1, 0, none⟩ = some (.int .u64 u) := (((((((J1.out.alloc _).bx x7).alloc _).bx x8).alloc _).bx x9).cell (i := 0) (by simp))
  have hc2 : x9.w.cell? ⟨g2, 0, none⟩ = some (.int .u64 (IntKind.u64.wrap i)) := (((((((J2.out.alloc _).bx x7).alloc _).bx x8).alloc _).bx x9).cell (i := 0) (by simp))
  have hc3 : x9.w.cell? ⟨g3, 0, none⟩ = some (.int .u64 (if fl then 1 else 0)) := (((((((J3.out.alloc _).bx x7).alloc _).bx x8).alloc _).bx x9).cell (i := 0) (by simp))
  have hB9 : Below w.heap.size w x9.w := bl_bx (bl_alloc (bl_bx (bl_alloc (bl_bx (bl_alloc HB6.out _) _) _) _) _) _
  have HB9 := Lib.hid hB9
  clear hB9
  clear J1 J2 J3
  cases fl
  all_goals
    go_wp2_with (first | (go_at_call 35; refine (uintWords _).mono ?_; rintro e w' ⟨rfl, hb⟩; obtain ⟨y1, rfl⟩ := bx_of hb; clear hb) | (go_at_call 36; refine (intWords _).mono ?_; rintro e w' ⟨rfl, hb⟩; obtain ⟨y2, rfl⟩ := bx_of hb; clear hb) | (go_at_call 37; refine (boolWords _).mono ?_; rintro e w' ⟨rfl, hb⟩; obtain ⟨y3, rfl⟩ := bx_of hb; clear hb))
    go_ret
    exact ⟨rfl, bl_bx (bl_bx (bl_bx HB9.out _) _) _⟩
end Go.Proofs.Ytlbgmoijepknbaa
