/- Encode and Decode of a pair of own codecs. -/
import Derived.Test.YtlbgmoijepknbaaOwn
import Derived.Test.YtlbgmoijepknbaaPerm
namespace Go.Proofs.Ytlbgmoijepknbaa
open Go.RowKit
set_option linter.unusedVariables false

theorem ownW_nat {a : Nat} (h1 : 1 ≤ a) (h2 : a ≤ 4096) : ownW (a : Int) = (a : Int) := if_pos (by omega)
theorem pairOwnWords (a b m : Nat) (ha : 1 ≤ a) (hb : 1 ≤ b) (hm : m = a + b) (h4 : m ≤ 4096) (w : World) :
    Calls Try.prog 19 #[.agg #[ownC a, ownC b]] w fun e w' => e = .returned (.int .i64 (m : Int)) ∧ Below w.heap.size w w' := by
  have h := pairUUWords w _ _ _ _ (sizeU_own (a : Int)) (sizeU_own (b : Int)) (ownW_range _) (ownW_range _)
  rwa [ownW_nat ha (by omega), ownW_nat hb (by omega), show pairW (a : Int) (b : Int) = (m : Int) by unfold pairW; rw [if_neg (by omega)]; omega] at h

def pairE (x y : Int) (a b : Nat) : Option (List Int) := if y ≤ 9 then some (ownE x a ++ ownE y b) else none

set_option maxRecDepth 100000 in
set_option maxHeartbeats 4000000 in
theorem pairUUEncode (w : World) (a b m : Nat) (ha : 1 ≤ a) (hb1 : 1 ≤ b) (hm : m = a + b) (h4 : m ≤ 4096) (x y : Int) (hx : x ≤ 9)
    (g off c : Nat) (xs : List Int) (hb : IB .u64 26 w g xs) (ho : off + m ≤ xs.length) (hc : m ≤ c) :
    Calls Try.prog 24 #[.agg #[ownC a, ownC b], .agg #[.int .u64 x, .int .u64 y], .slice (some ⟨g, off, none⟩) m c] w
      fun e w' => EncPost w (pairE x y a b) g off xs e w' := by
  have HB := Lib.hid hb
  have hgl := hb.lt
  have HPW := Lib.hid (pairOwnWords a b m ha hb1 hm h4)
  have HSU : Hid (SizeU (ownC (a : Int)) (a : Int)) := by have := sizeU_own (a : Int); rwa [ownW_nat ha (by omega)] at this
  have hmk := fun W => run_make_z (P := Try.prog) 31 26 .u64 .i64 .i64 (m : Int) m (by omega) Try.underlying31 8 info_u64 (by omega) (by omega) W
  have e1 : ((m : Int) == 0) = false := by simp; omega
  have e2 : ((m : Int) != (m : Int)) = false := by simp
  have e3 : a ≤ m := by omega
  have e4 : ¬ m = 0 := by omega
  have e5 : (a : Int) ≤ (m : Int) := by omega
  have hbm : b ≤ m := by omega
  have e7 : ¬ m = a := by omega
  have HM := Lib.hid hm
  clear hb hm
  unfold ownC at *
  go_enter Try.func24, Try.ntmps24
  go_wp2_with (first | (go_at_call 19; refine (HPW.out _).mono ?_; rintro e w' ⟨rfl, hb⟩; obtain ⟨z, rfl⟩ := bx_of hb; clear hb; have hx0 : w.heap.size < z.w.heap.size := z.lt_size (by simp; omega); have hx1 : w.heap.size + 1 < z.w.heap.size := z.lt_size (by simp)) | (go_at_call 64; refine (HSU.out _).mono ?_; rintro e w' ⟨rfl, hb⟩; obtain ⟨u, rfl⟩ := bx_of hb; clear hb))
  have hy0 : z.w.heap.size < u.w.heap.size := u.lt_size (by simp)
  have hyw : w.heap.size < u.w.heap.size := u.lt_size (by simp; omega)
  have hyw1 : w.heap.size + 1 < u.w.heap.size := u.lt_size (by simp; omega)
  have hc0 : u.w.cell? ⟨w.heap.size, 0, none⟩ = some (.iface 47 (.agg #[.int .i64 (a : Int)])) := by go_simp
  have hc1 : u.w.cell? ⟨w.heap.size, 1, none⟩ = some (.iface 47 (.agg #[.int .i64 (b : Int)])) := by go_simp
  have hc2 : u.w.cell? ⟨w.heap.size + 1, 0, none⟩ = some (.int .u64 x) := by go_simp
  have hc3 : u.w.cell? ⟨w.heap.size + 1, 1, none⟩ = some (.int .u64 y) := by go_simp
  have hI : IB .u64 26 u.w z.w.heap.size (List.replicate m 0) := (IB.new (k := .u64) (e := 26) z.w (List.replicate m 0)).below u.below (by simp)
  have HI := Lib.hid hI
  have hbe : Below w.heap.size w u.w := bl_bx (bl_alloc (bl_bx (bl_alloc (bl_alloc (Below.refl _ _) _) _) z) _) u
  have HBE := Lib.hid hbe
  clear hI hbe hmk
  refine ord_reads [0, 1, 2, 3, 4, 5, 6, 7, 8, 9] [.h [10, 11, 12], .q [13, 14, 15, 16, 17, 18, 19, 20, 21], .h [22, 23, 24]] (by kernel_rfl) (fun _ _ d _ _ h => by cases d <;> exact h) (by kernel_rfl) ?_
  dsimp only [pick, List.filterMap, List.getElem?_cons_zero, List.getElem?_cons_succ]
  (repeat (go_big_quiet_step (fail))); refine wpQuiet_nil ?_
  rintro _ ⟨nq, rfl⟩
  with_reducible refine part_hard ?_
  dsimp only [pick, List.filterMap, List.getElem?_cons_zero, List.getElem?_cons_succ]
  go_wp2_with fail
  refine (ownEncode_ok _ a ha x hx z.w.heap.size 0 a (List.replicate m 0) (HI.out.drewN nq) (by simp; omega) (by omega)).mono ?_
  rintro e w2 ⟨rfl, hI2, hC2⟩
  have d0 : w2.cell? ⟨w.heap.size, 1, none⟩ = u.w.cell? ⟨w.heap.size, 1, none⟩ := hC2.cells _ _ hyw (by unfold At; omega)
  have d1 : w2.cell? ⟨w.heap.size + 1, 1, none⟩ = u.w.cell? ⟨w.heap.size + 1, 1, none⟩ := hC2.cells _ _ hyw1 (by unfold At; omega)
  have hB2 := bl_ch (bl_drewN HBE.out nq) hC2 (fun b hb => by unfold At at hb; omega)
  have HI2 := Lib.hid hI2
  have HC2 := Lib.hid hC2
  have HB2 := Lib.hid hB2
  have hx2 : w.heap.size < w2.heap.size := Nat.lt_of_lt_of_le hyw hC2.size
  have hx3 : w.heap.size + 1 < w2.heap.size := Nat.lt_of_lt_of_le hyw1 hC2.size
  clear hI2 hC2 hB2
  go_wp2
  with_reducible refine segs_end ?_
  with_reducible refine part_reads ?_
  dsimp only [pick, List.filterMap, List.getElem?_cons_zero, List.getElem?_cons_succ]
  (repeat (go_big_quiet_step (fail))); refine wpQuiet_nil ?_
  rintro _ ⟨nq2, rfl⟩
  with_reducible refine part_hard ?_
  dsimp only [pick, List.filterMap, List.getElem?_cons_zero, List.getElem?_cons_succ]
  go_wp2_with fail
  by_cases hy : y ≤ 9
  · have HE : Hid (pairE x y a b = some (ownE x a ++ ownE y b)) := by show _ = _; exact if_pos hy
    refine (ownEncode_n _ b (m - a) (by have := HM.out; omega) hb1 y hy z.w.heap.size a (m - a) (splice (List.replicate m 0) 0 (ownE x a)) (HI2.out.drewN nq2) (by rw [length_splice (List.replicate m 0) 0 (ownE x a) (by rw [length_ownE]; simp; omega)]; simp; have := HM.out; omega) (by have := HM.out; omega)).mono ?_
    rintro e w3 ⟨rfl, hI3, hC3⟩
    rw [splice_two _ _ a b m (length_ownE _ _) (length_ownE _ _) HM.out] at hI3
    have hB3 := bl_ch (bl_drewN HB2.out nq2) hC3 (fun b hb => by unfold At at hb; omega)
    have hll : (ownE x a ++ ownE y b).length = m := by rw [List.length_append, length_ownE, length_ownE, HM.out]
    obtain ⟨w1, hr1, hI1, hC1⟩ := run_copy_ints (P := Try.prog) w3 31 31 3 26 Try.underlying31 size_u64 .u64 26 (some ⟨g, off, none⟩) (some ⟨z.w.heap.size, 0, none⟩) m c m m g off xs (ownE x a ++ ownE y b) (HB.out.below hB3 hgl) (by rw [hll]; simp) (fun _ => rfl) (by rw [hll]; exact ho) hI3.rd0
    rw [hll] at hr1
    have HR := Lib.hid hr1
    have HI1 := Lib.hid hI1
    have HC1 := Lib.hid hC1
    have HB3 := Lib.hid hB3
    clear hr1 hI1 hC1 hI3 hC3 hB3 hll
    go_wp2
    with_reducible refine segs_end ?_
    with_reducible refine part_nil ?_
    go_wp2
    rw [HR.out]
    go_wp2
    go_ret
    rw [HE.out]
    exact ⟨rfl, HI1.out, (Ch.of_below HB3.out).trans HC1.out (fun _ h _ => h)⟩
  · have HE : Hid (pairE x y a b = none) := by show _ = _; exact if_neg hy
    refine (ownEncode_bad_n _ b (m - a) (by have := HM.out; omega) hb1 y (by omega) _ _).mono ?_
    rintro e w3 ⟨rfl, hb3⟩
    obtain ⟨q, rfl⟩ := bx_of hb3
    clear hb3
    go_wp2
    with_reducible refine segs_end ?_
    with_reducible refine part_nil ?_
    go_wp2
    go_ret
    rw [HE.out]
    exact ⟨rfl, bl_bx (bl_drewN HB2.out nq2) q⟩

set_option maxRecDepth 100000 in
set_option maxHeartbeats 4000000 in
theorem pairUUDecode_own (w : World) (a b m : Nat) (ha : 1 ≤ a) (hb1 : 1 ≤ b) (hm : m = a + b) (h4 : m ≤ 4096) (x y : Int) (hx : x ≤ 9) (hy : y ≤ 9)
    (g off c : Nat) (hR : Rd .u64 w (some ⟨g, off, none⟩) (ownE x a ++ ownE y b)) (hg : g < w.heap.size) (hc : m ≤ c) :
    Calls Try.prog 22 #[.agg #[ownC a, ownC b], .slice (some ⟨g, off, none⟩) m c] w fun e w' => e = .returned (.tuple #[.agg #[.int .u64 x, .int .u64 y], .bool true]) ∧ Below w.heap.size w w' := by
  have HPW := Lib.hid (pairOwnWords a b m ha hb1 hm h4)
  have HSU : Hid (SizeU (ownC (a : Int)) (a : Int)) := by have := sizeU_own (a : Int); rwa [ownW_nat ha (by omega)] at this
  have HR1 : Hid (Rd .u64 w (some ⟨g, off, none⟩) (ownE x a)) := by
    have := hR.take a
    rwa [List.take_left' (length_ownE _ _)] at this
  have HR2 : Hid (Rd .u64 w (some ⟨g, off + a, none⟩) (ownE y b)) := by
    have := hR.drop a
    rwa [List.drop_left' (length_ownE _ _)] at this
  have e1 : ((m : Int) == 0) = false := by simp; omega
  have e2 : ((m : Int) != (m : Int)) = false := by simp
  have e3 : a ≤ m := by omega
  have e4 : ¬ m = 0 := by omega
  have e5 : (a : Int) ≤ (m : Int) := by omega
  have e6 : a ≤ c := by omega
  have e7 : ¬ c = a := by omega
  have HM := Lib.hid hm
  clear hR hm
  unfold ownC at *
  have hgw : g < w.heap.size := hg
  go_enter Try.func22, Try.ntmps22
  go_wp2_with (first | (go_at_call 19; refine (HPW.out _).mono ?_; rintro e w' ⟨rfl, hb⟩; obtain ⟨z, rfl⟩ := bx_of hb; clear hb; have hx0 : w.heap.size < z.w.heap.size := z.lt_size (by first | (simp; done) | (simp; omega) | omega); have hx1 : w.heap.size + 1 < z.w.heap.size := z.lt_size (by first | (simp; done) | (simp; omega) | omega); have hx2 : w.heap.size + 1 + 1 < z.w.heap.size := z.lt_size (by first | (simp; done) | (simp; omega) | omega); have hx3 : w.heap.size + 1 + 1 + 1 < z.w.heap.size := z.lt_size (by first | (simp; done) | (simp; omega) | omega)) | (go_at_call 64; refine (HSU.out _).mono ?_; rintro e w' ⟨rfl, hb⟩; obtain ⟨u, rfl⟩ := bx_of hb; clear hb))
  have hy0 : w.heap.size < u.w.heap.size := u.lt_size hx0
  have hy1 : w.heap.size + 1 < u.w.heap.size := u.lt_size hx1
  have hy2 : w.heap.size + 1 + 1 < u.w.heap.size := u.lt_size hx2
  have hy3 : w.heap.size + 1 + 1 + 1 < u.w.heap.size := u.lt_size hx3
  have c00 : u.w.cell? ⟨w.heap.size, 0, none⟩ = some (.iface 47 (.agg #[.int .i64 (a : Int)])) := by go_simp
  have c01 : u.w.cell? ⟨w.heap.size, 1, none⟩ = some (.iface 47 (.agg #[.int .i64 (b : Int)])) := by go_simp
  have hbe : Below w.heap.size w u.w := (by repeat (first | with_reducible exact Below.refl _ _ | with_reducible refine bl_alloc ?_ _ | with_reducible refine bl_drew ?_ | with_reducible refine bl_drewN ?_ _ | with_reducible refine bl_bx ?_ _ | with_reducible exact BX.below _ | with_reducible refine bl_set ?_ (by first | (exact Nat.le_refl _) | (simp; done) | (simp; omega)) _ | assumption))
  have HBE := Lib.hid hbe
  have hgy : g < u.w.heap.size := by omega
  clear hbe
  refine ord_reads [0, 1, 2, 3, 4, 5, 6, 7] [.h [8, 9], .p [10, 11, 12], .h [13, 14]] (by kernel_rfl) (fun _ _ d _ _ h => by cases d <;> exact h) (by kernel_rfl) ?_
  dsimp only [pick, List.filterMap, List.getElem?_cons_zero, List.getElem?_cons_succ]
  (repeat (go_big_quiet_step (fail))); refine wpQuiet_nil ?_
  rintro _ ⟨nq, rfl⟩
  with_reducible refine part_hard ?_
  dsimp only [pick, List.filterMap, List.getElem?_cons_zero, List.getElem?_cons_succ]
  go_wp2_with fail
  refine (ownDecode_ok _ a ha (by omega) x hx g off a ((HR1.out.below HBE.out).drewN nq) hgy (by omega)).mono ?_
  rintro e w2 ⟨rfl, hb2⟩
  obtain ⟨q, rfl⟩ := bx_of hb2
  clear hb2
  have d30 : q.w.cell? ⟨w.heap.size + 1 + 1 + 1, 0, none⟩ = some (.int .u64 0) := by go_simp
  have f30 : q.w.frozen? ⟨w.heap.size + 1 + 1 + 1, 0, none⟩ = false := by go_simp
  have hz3 : w.heap.size + 1 + 1 + 1 < q.w.heap.size := q.lt_size hy3
  have hz1 : w.heap.size + 1 < q.w.heap.size := q.lt_size hy1
  have hz0 : w.heap.size < q.w.heap.size := q.lt_size hy0
  have hgz : g < q.w.heap.size := q.lt_size hgy
  have HBz : Hid (Below w.heap.size w q.w) := bl_bx (bl_drewN HBE.out nq) q
  go_wp2
  with_reducible refine segs_end ?_
  with_reducible refine part_pure ?_
  dsimp only [pick, List.filterMap, List.getElem?_cons_zero, List.getElem?_cons_succ]
  (repeat (first | (refine pure_cons rfl (fun _ => rfl) ?_) | (refine pure_skip rfl ?_) | (refine pure_ex rfl ?_; apply Exists.intro; apply And.intro; (intro w; go_simp; rfl)))); refine pure_nil ?_
  with_reducible refine part_hard ?_
  dsimp only [pick, List.filterMap, List.getElem?_cons_zero, List.getElem?_cons_succ]
  go_wp2
  with_reducible refine segs_end ?_
  with_reducible refine part_nil ?_
  go_wp2
  have hWs : (q.w.setCell ⟨w.heap.size + 1 + 1 + 1, 0, none⟩ (.int .u64 x)).heap.size = q.w.heap.size := by simp
  have HBW : Hid (Below w.heap.size w (q.w.setCell ⟨w.heap.size + 1 + 1 + 1, 0, none⟩ (.int .u64 x))) := bl_set HBz.out (by show _ ≤ w.heap.size + 1 + 1 + 1; omega) _
  have wc01 : (q.w.setCell ⟨w.heap.size + 1 + 1 + 1, 0, none⟩ (.int .u64 x)).cell? ⟨w.heap.size, 1, none⟩ = some (.iface 47 (.agg #[.int .i64 (b : Int)])) := by go_simp
  have w30 : (q.w.setCell ⟨w.heap.size + 1 + 1 + 1, 0, none⟩ (.int .u64 x)).cell? ⟨w.heap.size + 1 + 1 + 1, 0, none⟩ = some (.int .u64 x) := by go_simp
  have w31 : (q.w.setCell ⟨w.heap.size + 1 + 1 + 1, 0, none⟩ (.int .u64 x)).cell? ⟨w.heap.size + 1 + 1 + 1, 1, none⟩ = some (.int .u64 0) := by go_simp
  have w10 : (q.w.setCell ⟨w.heap.size + 1 + 1 + 1, 0, none⟩ (.int .u64 x)).cell? ⟨w.heap.size + 1, 0, none⟩ = some (.int .u64 0) := by go_simp
  have w11 : (q.w.setCell ⟨w.heap.size + 1 + 1 + 1, 0, none⟩ (.int .u64 x)).cell? ⟨w.heap.size + 1, 1, none⟩ = some (.int .u64 0) := by go_simp
  have wf10 : (q.w.setCell ⟨w.heap.size + 1 + 1 + 1, 0, none⟩ (.int .u64 x)).frozen? ⟨w.heap.size + 1, 0, none⟩ = false := by go_simp
  have wf11 : (q.w.setCell ⟨w.heap.size + 1 + 1 + 1, 0, none⟩ (.int .u64 x)).frozen? ⟨w.heap.size + 1, 1, none⟩ = false := by go_simp
  have wf31 : (q.w.setCell ⟨w.heap.size + 1 + 1 + 1, 0, none⟩ (.int .u64 x)).frozen? ⟨w.heap.size + 1 + 1 + 1, 1, none⟩ = false := by go_simp
  have wf30 : (q.w.setCell ⟨w.heap.size + 1 + 1 + 1, 0, none⟩ (.int .u64 x)).frozen? ⟨w.heap.size + 1 + 1 + 1, 0, none⟩ = false := by go_simp
  clear d30 f30 c00 c01
  generalize q.w.setCell ⟨w.heap.size + 1 + 1 + 1, 0, none⟩ (.int .u64 x) = W at *
  have hgW : g < W.heap.size := by omega
  have hW0 : w.heap.size < W.heap.size := by omega
  have hW1 : w.heap.size + 1 < W.heap.size := by omega
  have hW3 : w.heap.size + 1 + 1 + 1 < W.heap.size := by omega
  clear hWs
  refine ord_reads [0, 1, 2, 3, 4, 5, 6] [.h [7, 8], .p [9, 10, 11], .h [12, 13]] (by kernel_rfl) (fun _ _ d _ _ h => by cases d <;> exact h) (by kernel_rfl) ?_
  dsimp only [pick, List.filterMap, List.getElem?_cons_zero, List.getElem?_cons_succ]
  (repeat (go_big_quiet_step (fail))); refine wpQuiet_nil ?_
  rintro _ ⟨nq2, rfl⟩
  with_reducible refine part_hard ?_
  dsimp only [pick, List.filterMap, List.getElem?_cons_zero, List.getElem?_cons_succ]
  go_wp2_with fail
  refine (ownDecode_n _ b (m - a) (by have := HM.out; omega) hb1 (by have := HM.out; omega) y hy g (off + a) (c - a) ((HR2.out.below HBW.out).drewN nq2) hgW (by have := HM.out; omega)).mono ?_
  rintro e w3 ⟨rfl, hb3⟩
  obtain ⟨r, rfl⟩ := bx_of hb3
  clear hb3
  have hr3 : w.heap.size + 1 + 1 + 1 < r.w.heap.size := r.lt_size hW3
  have hr1 : w.heap.size + 1 < r.w.heap.size := r.lt_size hW1
  have r30 : r.w.cell? ⟨w.heap.size + 1 + 1 + 1, 0, none⟩ = some (.int .u64 x) := by go_simp
  have r31 : r.w.cell? ⟨w.heap.size + 1 + 1 + 1, 1, none⟩ = some (.int .u64 0) := by go_simp
  have rf31 : r.w.frozen? ⟨w.heap.size + 1 + 1 + 1, 1, none⟩ = false := by go_simp
  have r10 : r.w.cell? ⟨w.heap.size + 1, 0, none⟩ = some (.int .u64 0) := by go_simp
  have r11 : r.w.cell? ⟨w.heap.size + 1, 1, none⟩ = some (.int .u64 0) := by go_simp
  have rf10 : r.w.frozen? ⟨w.heap.size + 1, 0, none⟩ = false := by go_simp
  have rf11 : r.w.frozen? ⟨w.heap.size + 1, 1, none⟩ = false := by go_simp
  have HBR : Hid (Below w.heap.size w r.w) := bl_bx (bl_drewN HBW.out nq2) r
  clear w30 w31 w10 w11 wf10 wf11 wf31 wf30
  go_wp2
  with_reducible refine segs_end ?_
  with_reducible refine part_pure ?_
  dsimp only [pick, List.filterMap, List.getElem?_cons_zero, List.getElem?_cons_succ]
  (repeat (first | (refine pure_cons rfl (fun _ => rfl) ?_) | (refine pure_skip rfl ?_) | (refine pure_ex rfl ?_; apply Exists.intro; apply And.intro; (intro w; go_simp; rfl)))); refine pure_nil ?_
  with_reducible refine part_hard ?_
  dsimp only [pick, List.filterMap, List.getElem?_cons_zero, List.getElem?_cons_succ]
  go_wp2
  with_reducible refine segs_end ?_
  with_reducible refine part_nil ?_
  go_wp2
  have HE : Hid (Below w.heap.size w (((r.w.setCell ⟨w.heap.size + 1 + 1 + 1, 1, none⟩ (.int .u64 y)).setCell ⟨w.heap.size + 1, 0, none⟩ (.int .u64 x)).setCell ⟨w.heap.size + 1, 1, none⟩ (.int .u64 y))) :=
    bl_set (bl_set (bl_set HBR.out (by show _ ≤ w.heap.size + 1 + 1 + 1; omega) _) (by show _ ≤ w.heap.size + 1; omega) _) (by show _ ≤ w.heap.size + 1; omega) _
  exact bodyPost_ret (v := .tuple #[.agg #[.int .u64 x, .int .u64 y], .bool true]) (by simp [results, Try.results22, go_sem, r10, r11]) rfl ⟨rfl, HE.out⟩
end Go.Proofs.Ytlbgmoijepknbaa
