/- The law's fixed example returns true. -/
import Derived.Test.YtlbgmoijepknbaaArrD
import Derived.Test.YtlbgmoijepknbaaName
namespace Go.Proofs.Ytlbgmoijepknbaa
open Go.RowKit
set_option linter.unusedVariables false

theorem aw_vals : arrVals [1, 18446744073709551615, 0] 1 = [-1] := by decide +kernel
theorem aw_name : nameRes (nameDec 2 25185 0) = .returned (.tuple #[.string ⟨#[97, 98]⟩, .bool true]) := by
  have : nameDec 2 25185 0 = some [97, 98] := by decide
  rw [this]; rfl

set_option maxRecDepth 100000 in
set_option maxHeartbeats 2000000 in
theorem awake_any (w : World) :
    Calls Try.prog 12 #[] w fun e w' => e = .returned (.bool true) ∧ Below w.heap.size w w' := by
  have hmk := fun W => run_make_z (P := Try.prog) 31 26 .u64 .i64 .i64 3 3 rfl Try.underlying31 8 info_u64 (by omega) (by omega) W
  go_enter Try.func12, Try.ntmps12
  go_wp2_with (go_at_call 43; refine (arrIWords _ 2).mono ?_; rw [show arrW 2 = 3 from rfl]; rintro e w' ⟨rfl, hb⟩; obtain ⟨x, rfl⟩ := bx_of hb; clear hb)
  have hx : w.heap.size + 1 < x.w.heap.size := x.lt_size (by simp)
  have hT := ((IB.new_at .u64 26 (w.alloc (.cells #[.int .i64 2, .iface 80 (.agg #[])] 100)) (w.heap.size + 1) [0, 0, 0] (by simp)).bx x).alloc (.cells #[.int .i64 (-1)] 2)
  refine (arrIEncode_ok (x.w.alloc (.cells #[.int .i64 (-1)] 2)) 2 (by omega) (some ⟨x.w.heap.size, 0, none⟩) 1 [-1] (rd_one .i64 2 _ (-1)) (by simp) (w.heap.size + 1) 0 3 [0, 0, 0] hT (by simp)).mono ?_
  rintro e w1 ⟨rfl, hI1, hC1⟩
  have e1 : splice [0, 0, 0] 0 (arrEnc 2 [-1]) = [1, 18446744073709551615, 0] := by decide
  rw [e1] at hI1
  have hB1 : Below w.heap.size w w1 := bl_ch (bl_alloc (bl_bx (bl_alloc (bl_alloc (Below.refl _ _) _) _) x) _) hC1 (fun b hb => by unfold At at hb; omega)
  have hc0 : w1.cell? ⟨w.heap.size, 0, none⟩ = some (.int .i64 2) := by rw [hC1.cells _ _ (by simp; omega) (by unfold At; omega), World.cell?_alloc_past _ _ _ (by omega), BX.cell x _ _ (by simp; omega), World.cell?_alloc_past _ _ _ (by simp)]; simp
  have hc1 : w1.cell? ⟨w.heap.size, 1, none⟩ = some (.iface 80 (.agg #[])) := by rw [hC1.cells _ _ (by simp; omega) (by unfold At; omega), World.cell?_alloc_past _ _ _ (by omega), BX.cell x _ _ (by simp; omega), World.cell?_alloc_past _ _ _ (by simp)]; simp
  have hs1 : w.heap.size + 1 < w1.heap.size := Nat.lt_of_lt_of_le hx (by have := hC1.size; simp at this; omega)
  have hs0 : w.heap.size < w1.heap.size := by omega
  have HI1 := Lib.hid hI1
  have HB1 := Lib.hid hB1
  clear hI1 hC1 e1 hT hB1 hx
  go_wp2_with fail
  refine (equalU_n _ _ _ 3 3 _ _ [1, 18446744073709551615, 0] [1, 18446744073709551615, 0] rfl rfl (HI1.out.alloc _).rd0 (by exact rd_lit _ rfl) (by omega) (by omega)).mono ?_
  rw [show (([1, 18446744073709551615, 0] : List Int) == [1, 18446744073709551615, 0]) = true from by decide]
  rintro e w2 ⟨rfl, n2, rfl⟩
  go_wp2_with fail
  refine (arrIDecode_ok _ 2 (by omega) (w.heap.size + 1) 0 3 [1, 18446744073709551615, 0] 1 rfl (by omega) ((HI1.out.alloc _).drewN n2).rd0 (by simp; omega) (by have := ((HI1.out.alloc (.cells #[.int .u64 1, .int .u64 18446744073709551615, .int .u64 0] 26)).drewN n2).cell (i := 0) (by simp); simpa using this) (by omega) (by decide)).mono ?_
  rw [aw_vals]
  rintro e w3 ⟨⟨A3, c3, rfl, hR3⟩, hb3⟩
  obtain ⟨x3, rfl⟩ := bx_of hb3
  have HR3 := Lib.hid hR3
  clear hb3 hR3
  have hs3 : w.heap.size < x3.w.heap.size := x3.lt_size (by simp; omega)
  go_wp2_with fail
  refine (arrIDecode_bad _ 2 (by omega) x3.w.heap.size 0 3 [1, 5, 7] 1 rfl (by omega) (by exact rd_lit _ rfl) (by simp) (by simp) (by omega) (by decide)).mono ?_
  rintro e w4 ⟨rfl, hb4⟩
  obtain ⟨x4, rfl⟩ := bx_of hb4
  clear hb4
  go_wp2_with fail
  refine (nameDecode_3 _ x4.w.heap.size 0 3 2 25185 0 (by simp) (by simp) (by omega) (by omega) (by omega) (by omega) (by simp) (by simp) (by omega)).mono ?_
  rw [aw_name]
  rintro e w5 ⟨rfl, hb5⟩
  obtain ⟨x5, rfl⟩ := bx_of hb5
  clear hb5
  go_wp2_with fail
  refine (equalI_n _ A3 _ 1 1 _ _ [-1] [-1] rfl rfl (((((HR3.out.alloc _).below x4.below).alloc _).below x5.below).alloc _) (by exact rd_lit _ rfl) (by omega) (by omega)).mono ?_
  rw [show (([-1] : List Int) == [-1]) = true from by decide]
  rintro e w6 ⟨rfl, n6, rfl⟩
  go_wp2_with (first | (go_at_call 13; refine (codec11 _).mono ?_; rintro e w' ⟨rfl, rfl⟩) | (go_at_call 125; refine (pairBWords _).mono ?_; rintro e w' ⟨rfl, hb7⟩; obtain ⟨x7, rfl⟩ := bx_of hb7; clear hb7))
  go_ret
  exact ⟨rfl, bl_bx (bl_drewN (bl_alloc (bl_bx (bl_alloc (bl_bx (bl_alloc (bl_bx (bl_drewN (bl_alloc HB1.out _) _) _) _) _) _) _) _) _) _⟩
end Go.Proofs.Ytlbgmoijepknbaa
