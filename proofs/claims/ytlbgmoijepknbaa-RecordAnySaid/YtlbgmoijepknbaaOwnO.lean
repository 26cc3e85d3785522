/- Encode and Decode of an option of an own codec. -/
import Derived.Test.YtlbgmoijepknbaaOwnP
namespace Go.Proofs.Ytlbgmoijepknbaa
open Go.RowKit
set_option linter.unusedVariables false

theorem optOwnWords (b m : Nat) (hb : 1 ≤ b) (hm : m = b + 1) (h4 : m ≤ 4096) (w : World) :
    Calls Try.prog 21 #[.agg #[ownC b]] w fun e w' => e = .returned (.int .i64 (m : Int)) ∧ Below w.heap.size w w' := by
  have h := optUWords w _ _ (sizeU_own (b : Int)) (ownW_range _)
  rwa [ownW_nat hb (by omega), show optW (b : Int) = (m : Int) by unfold optW; rw [if_neg (by omega)]; omega] at h

set_option maxRecDepth 100000 in
set_option maxHeartbeats 1000000 in
theorem optUEncode_nil (w : World) (b m : Nat) (hb1 : 1 ≤ b) (hm : m = b + 1) (h4 : m ≤ 4096)
    (g off c : Nat) (xs : List Int) (hb : IB .u64 26 w g xs) (ho : off + m ≤ xs.length) (hc : m ≤ c) :
    Calls Try.prog 26 #[.agg #[ownC b], .pointer none, .slice (some ⟨g, off, none⟩) m c] w
      fun e w' => EncPost w (some (List.replicate m 0)) g off xs e w' := by
  have HB := Lib.hid hb
  have hgl := hb.lt
  have HPW := Lib.hid (optOwnWords b m hb1 hm h4)
  have hmk := fun W => run_make_z (P := Try.prog) 31 26 .u64 .i64 .i64 (m : Int) m (by omega) Try.underlying31 8 info_u64 (by omega) (by omega) W
  have e1 : ((m : Int) == 0) = false := by simp; omega
  have e2 : ((m : Int) != (m : Int)) = false := by simp
  have e4 : ¬ m = 0 := by omega
  have HM := Lib.hid hm
  clear hb hm
  unfold ownC at *
  go_enter Try.func26, Try.ntmps26
  go_wp2_with (go_at_call 21; refine (HPW.out _).mono ?_; rintro e w' ⟨rfl, hb⟩; obtain ⟨x, rfl⟩ := bx_of hb; clear hb)
  obtain ⟨w1, hr1, hI1, hC1⟩ := run_copy_ints (P := Try.prog) (x.w.alloc (.cells (ia .u64 (List.replicate m 0)) 26)) 31 31 3 26 Try.underlying31 size_u64 .u64 26 (some ⟨g, off, none⟩) (some ⟨x.w.heap.size, 0, none⟩) m c m m g off xs (List.replicate m 0) (HB.out.below (bl_alloc (bl_bx (bl_alloc (Below.refl _ _) _) x) _) hgl) (by simp) (fun _ => rfl) (by simpa using ho) (IB.new x.w _).rd0
  rw [List.length_replicate] at hr1
  have HR := Lib.hid hr1
  have HI1 := Lib.hid hI1
  have HC1 := Lib.hid hC1
  clear hr1 hI1 hC1
  rw [HR.out]
  go_wp2
  go_ret
  exact ⟨rfl, HI1.out, (Ch.of_below (bl_alloc (bl_bx (bl_alloc (Below.refl _ _) _) x) _)).trans HC1.out (fun _ h _ => h)⟩

theorem splice_opt (v : Int) (b : Nat) : splice ((List.replicate (b + 1) 0).set 0 1) 1 (ownE v b) = 1 :: ownE v b := by
  simp [splice, List.replicate_succ, length_ownE]; omega

set_option maxRecDepth 100000 in
set_option maxHeartbeats 2000000 in
theorem optUEncode_some (w : World) (b m : Nat) (hb1 : 1 ≤ b) (hm : m = b + 1) (h4 : m ≤ 4096) (pb po : Nat) (v : Int) (hv : v ≤ 9) (hp : w.cell? ⟨pb, po, none⟩ = some (.int .u64 v)) (hpl : pb < w.heap.size)
    (g off c : Nat) (xs : List Int) (hb : IB .u64 26 w g xs) (ho : off + m ≤ xs.length) (hc : m ≤ c) :
    Calls Try.prog 26 #[.agg #[ownC b], .pointer (some ⟨pb, po, none⟩), .slice (some ⟨g, off, none⟩) m c] w
      fun e w' => EncPost w (some (1 :: ownE v b)) g off xs e w' := by
  have HB := Lib.hid hb
  have hgl := hb.lt
  have HPW := Lib.hid (optOwnWords b m hb1 hm h4)
  have hmk := fun W => run_make_z (P := Try.prog) 31 26 .u64 .i64 .i64 (m : Int) m (by omega) Try.underlying31 8 info_u64 (by omega) (by omega) W
  have e1 : ((m : Int) == 0) = false := by simp; omega
  have e2 : ((m : Int) != (m : Int)) = false := by simp
  have e4 : ¬ m = 0 := by omega
  have e5 : ¬ m = 1 := by omega
  have e6 : 0 < m := by omega
  have e7 : 1 ≤ m := by omega
  have hltn : ¬ pb = w.heap.size := by omega
  have hlt1 : pb < w.heap.size + 1 := by omega
  have HP := Lib.hid hp
  have HM := Lib.hid hm
  have HM1 : Hid (m - 1 = b) := (show _ = _ by omega)
  clear hb hp hm
  unfold ownC at *
  go_enter Try.func26, Try.ntmps26
  go_upto_region 6 with (first | (go_at_call 21; refine (HPW.out _).mono ?_; rintro e w' ⟨rfl, hb⟩; obtain ⟨x, rfl⟩ := bx_of hb; clear hb))
  have hbx : pb < x.w.heap.size := x.lt_size (by simp; omega)
  have hxc : x.w.cell? ⟨pb, po, none⟩ = some (.int .u64 v) := (x.cell pb po (by simp; omega)).trans ((World.cell?_alloc_old _ _ ⟨pb, po, none⟩ (show pb ≠ _ from hltn)).trans HP.out)
  have hwx : w.heap.size < x.w.heap.size := x.lt_size (by simp)
  have hwc : x.w.cell? ⟨w.heap.size, 0, none⟩ = some (.iface 47 (.agg #[.int .i64 (b : Int)])) := by go_simp
  obtain ⟨g1, hg1⟩ : ∃ g1, x.w.heap.size = g1 := ⟨_, rfl⟩
  obtain ⟨W, hW⟩ : ∃ W, x.w.alloc (.cells (ia .u64 (List.replicate m 0)) 26) = W := ⟨_, rfl⟩
  have hIW : IB .u64 26 W g1 (List.replicate m 0) := by rw [← hW, ← hg1]; exact IB.new x.w _
  have hgW := hIW.lt
  have hpW : W.cell? ⟨pb, po, none⟩ = some (.int .u64 v) := by rw [← hW]; exact (World.cell?_alloc_old _ _ ⟨pb, po, none⟩ (show pb ≠ _ by omega)).trans hxc
  have hcW : W.cell? ⟨w.heap.size, 0, none⟩ = some (.iface 47 (.agg #[.int .i64 (b : Int)])) := by rw [← hW]; exact (World.cell?_alloc_old _ _ ⟨w.heap.size, 0, none⟩ (show w.heap.size ≠ _ by omega)).trans hwc
  have hBW : Below w.heap.size w W := by rw [← hW]; exact bl_alloc (bl_bx (bl_alloc (Below.refl _ _) _) x) _
  have hsW : w.heap.size < W.heap.size := by omega
  have hpW' : pb < W.heap.size := by omega
  have n1 : ¬ pb = g1 := by omega
  have n2 : ¬ w.heap.size = g1 := by omega
  have n3 : ¬ g1 = pb := by omega
  have n4 : ¬ g1 = w.heap.size := by omega
  have HGW : Hid (w.heap.size ≤ g1) := (show _ ≤ _ by omega)
  have hc0 := hIW.cell (i := 0) (by simp; omega)
  have hf0 := hIW.frozen 0
  rw [hg1, hW]
  have HIW := Lib.hid (hIW.set 0 1)
  have HBW := Lib.hid hBW
  clear hW hIW hBW hmk hxc hwc hbx hwx
  go_wp2
  refine wp_region_still_n 9 (by kernel_rfl) (by kernel_rfl) ?_
  simp only [List.take_succ_cons, List.take_zero, List.drop_succ_cons, List.drop_zero]
  repeat (go_big_quiet_step (fail))
  refine wpQuiet_nil ?_
  rintro _ ⟨nq, rfl⟩
  go_wp2_with fail
  refine (ownEncode_n _ b (m - 1) HM1.out hb1 v hv g1 1 (m - 1) ((List.replicate m 0).set 0 1) (HIW.out.drewN nq) (by simp; have := HM.out; omega) (by have := HM1.out; omega)).mono ?_
  rintro e w2 ⟨rfl, hI2, hC2⟩
  have hB2 : Below w.heap.size w w2 := bl_ch (bl_drewN (bl_set HBW.out HGW.out _) nq) hC2 (fun b hb => by have := HGW.out; unfold At at hb; omega)
  have hm := HM.out
  subst hm
  rw [splice_opt] at hI2
  have hll : (1 :: ownE v b).length = b + 1 := by rw [List.length_cons, length_ownE]
  obtain ⟨w1, hr1, hI1, hC1⟩ := run_copy_ints (P := Try.prog) w2 31 31 3 26 Try.underlying31 size_u64 .u64 26 (some ⟨g, off, none⟩) (some ⟨g1, 0, none⟩) (b + 1) c (b + 1) (b + 1) g off xs (1 :: ownE v b) (HB.out.below hB2 hgl) (by rw [hll]; simp) (fun _ => rfl) (by rw [hll]; exact ho) hI2.rd0
  rw [hll] at hr1
  have HR := Lib.hid hr1
  have HI1 := Lib.hid hI1
  have HC1 := Lib.hid hC1
  have HB2 := Lib.hid hB2
  clear hr1 hI1 hC1 hI2 hC2 hB2 hll
  go_wp2
  rw [HR.out]
  go_wp2
  go_ret
  exact ⟨rfl, HI1.out, (Ch.of_below HB2.out).trans HC1.out (fun _ h _ => h)⟩

set_option maxRecDepth 100000 in
set_option maxHeartbeats 2000000 in
theorem optUDecode_some (w : World) (b m : Nat) (hb1 : 1 ≤ b) (hm : m = b + 1) (h4 : m ≤ 4096) (v : Int) (hv : v ≤ 9)
    (g off c : Nat) (hR : Rd .u64 w (some ⟨g, off, none⟩) (1 :: ownE v b)) (hg : g < w.heap.size) (hc : m ≤ c) :
    Calls Try.prog 25 #[.agg #[ownC b], .slice (some ⟨g, off, none⟩) m c] w
      fun e w' => ∃ q, e = .returned (.tuple #[.pointer (some ⟨q, 0, none⟩), .bool true]) ∧ w.heap.size ≤ q ∧ q < w'.heap.size ∧ w'.cell? ⟨q, 0, none⟩ = some (.int .u64 v) ∧ Below w.heap.size w w' := by
  have HPW := Lib.hid (optOwnWords b m hb1 hm h4)
  have e1 : ((m : Int) == 0) = false := by simp; omega
  have e2 : ((m : Int) != (m : Int)) = false := by simp
  have e4 : ¬ m = 0 := by omega
  have e5 : ¬ m = 1 := by omega
  have e6 : ¬ c = 1 := by omega
  have e7 : 1 ≤ m := by omega
  have h0 : w.cell? ⟨g, off, none⟩ = some (.int .u64 1) := (hR.cellG (j := 0) (by simp)).trans (by simp)
  have HR2 : Hid (Rd .u64 w (some ⟨g, off + 1, none⟩) (ownE v b)) := hR.drop 1
  have hgn : ¬ g = w.heap.size := by omega
  have HM := Lib.hid hm
  have HM1 : Hid (m - 1 = b) := (show _ = _ by omega)
  have hb4 : b ≤ 4096 := by omega
  have hb5 : b ≤ c - 1 := by omega
  have i1 : (1 : Int) ≤ (m : Int) := by omega
  have i2 : (m : Int) ≤ (c : Int) := by omega
  clear hR hm
  unfold ownC at *
  go_enter Try.func25, Try.ntmps25
  go_upto_region 2 with (first | (go_at_call 21; refine (HPW.out _).mono ?_; rintro e w' ⟨rfl, hb⟩; obtain ⟨x, rfl⟩ := bx_of hb; clear hb))
  have k0 : x.w.cell? ⟨g, off, none⟩ = some (.int .u64 1) := (x.cell g off (by simp; omega)).trans ((World.cell?_alloc_old _ _ ⟨g, off, none⟩ (show g ≠ _ from hgn)).trans h0)
  have k1 : g < x.w.heap.size := x.lt_size (by simp; omega)
  have hwx : w.heap.size < x.w.heap.size := x.lt_size (by simp)
  have hwc : x.w.cell? ⟨w.heap.size, 0, none⟩ = some (.iface 47 (.agg #[.int .i64 (b : Int)])) := by go_simp
  have HR3 : Hid (Rd .u64 x.w (some ⟨g, off + 1, none⟩) (ownE v b)) := (HR2.out.alloc _).below x.below
  have HBX : Hid (Below w.heap.size w x.w) := bl_bx (bl_alloc (Below.refl _ _) _) x
  clear HR2 h0
  go_wp2
  go_region_held3 (fun w' => w'.cell? ⟨w.heap.size, 0, none⟩ = some (.iface 47 (.agg #[.int .i64 (b : Int)])) ∧ w.heap.size < w'.heap.size ∧ g < w'.heap.size ∧ Below x.w.heap.size x.w w')
    ((refine ⟨?_, ?_, ?_, ?_⟩ <;> first | ((repeat (first | with_reducible exact Below.refl _ _ | with_reducible refine bl_alloc ?_ _ | with_reducible refine bl_drew ?_ | with_reducible refine bl_drewN ?_ _ | with_reducible refine bl_bx ?_ _ | with_reducible exact BX.below _ | with_reducible refine bl_set ?_ (by first | (exact Nat.le_refl _) | (simp; done) | (simp; omega)) _ | assumption)); done) | (go_simp; done) | (simp_all; done)))
    (first | (go_at_call 105; refine (ownDecode_n _ b (m - 1) HM1.out hb1 hb4 v hv g (off + 1) (c - 1) (HR3.out.below (by first | assumption | (repeat (first | with_reducible exact Below.refl _ _ | with_reducible refine bl_alloc ?_ _ | with_reducible refine bl_drew ?_ | with_reducible refine bl_drewN ?_ _ | with_reducible refine bl_bx ?_ _ | with_reducible exact BX.below _ | with_reducible refine bl_set ?_ (by first | (exact Nat.le_refl _) | (simp; done) | (simp; omega)) _ | assumption)))) (by first | assumption | (simp; omega) | omega) hb5).mono ?_; rintro e w' ⟨rfl, hb⟩; obtain ⟨q, rfl⟩ := bx_of hb; clear hb))
  all_goals go_wp2
  all_goals go_ret2
  all_goals refine ⟨_, rfl, ?_, ?_, ?_, (by repeat (first | with_reducible exact Below.refl _ _ | with_reducible refine bl_alloc ?_ _ | with_reducible refine bl_drew ?_ | with_reducible refine bl_drewN ?_ _ | with_reducible refine bl_bx ?_ _ | with_reducible exact BX.below _ | with_reducible refine bl_set ?_ (by first | (exact Nat.le_refl _) | (simp; done) | (simp; omega)) _ | assumption))⟩
  all_goals first | (have := x.size; have := q.size; simp at this; simp; omega) | (simp; exact BX.lt_size _ (by simp)) | (simp; done) | (go_simp; done) | (have hq := BX.cell q x.w.heap.size 0 (by simp); go_simp; done) | trace_state
end Go.Proofs.Ytlbgmoijepknbaa
