/- Contract of Encode of the record of the statements. -/
import Derived.Test.YtlbgmoijepknbaaGreatPairE
namespace Go.Proofs.YtlbgmoijepknbaaGreat
open Go.RowKit
set_option linter.unusedVariables false

def encF (f : Bool) : List Int := [if f then 1 else 0]
def encV (f : Bool) (l : List ByteArray) (o : Option Int) : Option (List Int) := (encSI l o).map (encF f ++ ·)
theorem length_encSI {l : List ByteArray} {o : Option Int} {ws : List Int} (h : encSI l o = some ws) : ws.length = 9 := by
  unfold encSI at h
  cases hE : encS l with
  | none => rw [hE] at h; cases h
  | some us =>
    rw [hE] at h
    injection h with h
    rw [← h, List.length_append, length_encS hE, length_encO]
theorem length_encF (f : Bool) : (encF f).length = 1 := rfl

set_option maxRecDepth 100000 in
set_option maxHeartbeats 4000000 in
theorem pairBEncode (w : World) (f : Bool) (A : Option Addr) (ca : Nat) (l : List ByteArray) (m : Nat) (hm : l.length = m) (hA : RdV w A (strVals l)) (p : Option Addr) (o : Option Int) (hp : PtrI w p o)
    (g off c : Nat) (xs : List Int) (hb : IB .u64 34 w g xs) (ho : off + 10 ≤ xs.length) :
    Calls Tryz.prog 116 #[.agg #[.iface 81 (.agg #[]), .iface 93 (.agg #[.iface 85 (.agg #[.int .i64 2, .iface 74 (.agg #[])]), .iface 87 (.agg #[.iface 62 (.agg #[])])])], .agg #[.bool f, .slice A m ca, .pointer p], .slice (some ⟨g, off, none⟩) 10 c] w
      fun e w' => EncPost w (encV f l o) g off xs e w' := by
  have HB := Lib.hid hb
  have HA := Lib.hid hA
  have HP := Lib.hid hp
  have HM := Lib.hid hm
  have hgl := hb.lt
  have hmk := fun W => run_make_z (P := Tryz.prog) 27 34 .u64 .i64 .i64 10 10 (by omega) Tryz.underlying27 8 info_u64 (by omega) (by omega) W
  clear hb hA hp hm
  go_enter Tryz.func116, Tryz.ntmps116
  go_wp2_with (first | (go_at_call 117; refine (pairBWords _).mono ?_; rintro e w' ⟨rfl, hb⟩; obtain ⟨x, rfl⟩ := bx_of hb; clear hb; have hx0 : w.heap.size < x.w.heap.size := x.lt_size (by simp; omega); have hx1 : w.heap.size + 1 < x.w.heap.size := x.lt_size (by simp)) | (go_at_call 118; refine (sizeB_bool _).mono ?_; rintro e w' ⟨rfl, hb⟩; obtain ⟨y, rfl⟩ := bx_of hb; clear hb))
  have hy0 : x.w.heap.size < y.w.heap.size := y.lt_size (by simp)
  have hyw : w.heap.size < y.w.heap.size := y.lt_size (by simp; omega)
  have hyw1 : w.heap.size + 1 < y.w.heap.size := y.lt_size (by simp; omega)
  have hc0 : y.w.cell? ⟨w.heap.size, 0, none⟩ = some (.iface 81 (.agg #[])) := by go_simp
  have hc1 : y.w.cell? ⟨w.heap.size, 1, none⟩ = some (.iface 93 (.agg #[.iface 85 (.agg #[.int .i64 2, .iface 74 (.agg #[])]), .iface 87 (.agg #[.iface 62 (.agg #[])])])) := by go_simp
  have hc2 : y.w.cell? ⟨w.heap.size + 1, 0, none⟩ = some (.bool f) := by go_simp
  have hc3 : y.w.cell? ⟨w.heap.size + 1, 1, none⟩ = some (.slice A m ca) := by go_simp
  have hc4 : y.w.cell? ⟨w.heap.size + 1, 2, none⟩ = some (.pointer p) := by go_simp
  have hI : IB .u64 34 y.w x.w.heap.size (List.replicate 10 0) := (IB.new (k := .u64) (e := 34) x.w (List.replicate 10 0)).below y.below (by simp)
  have HI := Lib.hid hI
  have hbe : Below w.heap.size w y.w := bl_bx (bl_alloc (bl_bx (bl_alloc (bl_alloc (Below.refl _ _) _) _) x) _) y
  have HBE := Lib.hid hbe
  clear hI hbe hmk
  refine wp_region_reads 10 [(false, 3), (true, 9), (false, 3)] (by kernel_rfl) (by kernel_rfl) ?_
  simp only [List.take_succ_cons, List.take_zero, List.drop_succ_cons, List.drop_zero]
  repeat (go_big_quiet_step (fail))
  refine wpQuiet_nil ?_
  rintro _ ⟨nq, rfl⟩
  refine segs_hard ?_
  simp only [List.take_succ_cons, List.take_zero, List.drop_succ_cons, List.drop_zero]
  go_wp2_with fail
  refine (boolEncode_ok _ x.w.heap.size 0 1 (List.replicate 10 0) f (HI.out.drewN nq) (by simp)).mono ?_
  rintro e w2 ⟨rfl, hI2, hC2⟩
  have d0 : w2.cell? ⟨w.heap.size, 1, none⟩ = y.w.cell? ⟨w.heap.size, 1, none⟩ := hC2.cells _ _ hyw (by unfold At; omega)
  have d1 : w2.cell? ⟨w.heap.size + 1, 1, none⟩ = y.w.cell? ⟨w.heap.size + 1, 1, none⟩ := hC2.cells _ _ hyw1 (by unfold At; omega)
  have d2 : w2.cell? ⟨w.heap.size + 1, 2, none⟩ = y.w.cell? ⟨w.heap.size + 1, 2, none⟩ := hC2.cells _ _ hyw1 (by unfold At; omega)
  have hB2 := bl_ch (bl_drewN HBE.out nq) hC2 (fun b hb => by unfold At at hb; omega)
  have HI2 := Lib.hid hI2
  have HC2 := Lib.hid hC2
  have HB2 := Lib.hid hB2
  have hx2 : w.heap.size < w2.heap.size := Nat.lt_of_lt_of_le hyw hC2.size
  have hx3 : w.heap.size + 1 < w2.heap.size := Nat.lt_of_lt_of_le hyw1 hC2.size
  clear hI2 hC2 hB2
  go_wp2
  with_reducible refine segs_end ?_
  with_reducible refine segs_reads ?_
  simp only [List.take_succ_cons, List.take_zero, List.drop_succ_cons, List.drop_zero]
  repeat (go_big_quiet_step (fail))
  refine wpQuiet_nil ?_
  rintro _ ⟨nq2, rfl⟩
  refine segs_hard ?_
  simp only [List.take_succ_cons, List.take_zero, List.drop_succ_cons, List.drop_zero]
  go_wp2_with fail
  refine (pairSIEncode _ A ca l m HM.out ((HA.out.below HB2.out).drewN nq2) p o ((HP.out.below HB2.out).below (below_drewN (Below.refl _ _) nq2)) x.w.heap.size 1 9 ((List.replicate 10 0).set 0 (if f then 1 else 0)) (HI2.out.drewN nq2) (by simp)).mono ?_

  cases hE : encSI l o with
  | none =>
    have HE : Hid (encV f l o = none) := by show _ = _; unfold encV; rw [hE]; rfl
    clear hE
    rintro e w3 ⟨rfl, hb3⟩
    have HB3 := Lib.hid (bl_drewN HB2.out nq2 |>.trans (hb3.mono (Nat.le_of_lt (by simpa using Nat.lt_of_lt_of_le (Nat.lt_of_succ_lt hx3) (Nat.le_refl _)))))
    clear hb3
    go_wp2
    with_reducible refine segs_end ?_
    with_reducible refine segs_nil ?_
    go_wp2
    go_ret
    rw [HE.out]
    exact ⟨rfl, HB3.out⟩
  | some ws =>
    have HE : Hid (encV f l o = some (encF f ++ ws)) := by show _ = _; unfold encV; rw [hE]; rfl
    have HL := Lib.hid (length_encSI hE)
    clear hE
    rintro e w3 ⟨rfl, hI3, hC3⟩
    rw [show ((List.replicate 10 0).set 0 (if f then 1 else 0) : List Int) = splice (List.replicate 10 0) 0 (encF f) from rfl, splice_two _ _ 1 9 10 (length_encF f) HL.out rfl] at hI3
    have hB3 := bl_ch (bl_drewN HB2.out nq2) hC3 (fun b hb => by unfold At at hb; omega)
    obtain ⟨w1, hr1, hI1, hC1⟩ := run_copy_ints (P := Tryz.prog) w3 27 27 3 34 Tryz.underlying27 size_u64 .u64 34 (some ⟨g, off, none⟩) (some ⟨x.w.heap.size, 0, none⟩) 10 c 10 10 g off xs (encF f ++ ws) (HB.out.below hB3 hgl) (by rw [List.length_append, (length_encF f), HL.out]; rfl) (fun _ => rfl) (by rw [List.length_append, (length_encF f), HL.out]; exact ho) hI3.rd0
    rw [List.length_append, (length_encF f), HL.out] at hr1
    have HR := Lib.hid hr1
    have HI1 := Lib.hid hI1
    have HC1 := Lib.hid hC1
    have HB3 := Lib.hid hB3
    clear hr1 hI1 hC1 hI3 hC3 hB3
    go_wp2
    with_reducible refine segs_end ?_
    with_reducible refine segs_nil ?_
    go_wp2
    rw [HR.out]
    go_wp2
    go_ret
    rw [HE.out]
    exact ⟨rfl, HI1.out, (Ch.of_below HB3.out).trans HC1.out (fun _ h _ => h)⟩

end Go.Proofs.YtlbgmoijepknbaaGreat
