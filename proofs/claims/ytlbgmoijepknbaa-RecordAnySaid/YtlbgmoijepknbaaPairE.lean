/- Contracts of Encode of the pairs of the record of the statements. -/
import Derived.Test.YtlbgmoijepknbaaOptI
import Derived.Test.YtlbgmoijepknbaaSeg
namespace Go.Proofs.Ytlbgmoijepknbaa
open Go.RowKit
set_option linter.unusedVariables false

def encSI (l : List ByteArray) (o : Option Int) : Option (List Int) := (encS l).map (· ++ encO o)
theorem length_encS {l : List ByteArray} {ws : List Int} (h : encS l = some ws) : ws.length = 7 := by
  unfold encS at h
  split at h
  · cases h
  · rename_i hn
    injection h with h
    subst h
    have h1 : l.all (fun s => decide (s.size ≤ 16)) = true := by
      cases hh : l.all (fun s => decide (s.size ≤ 16))
      · exact absurd (.inr hh) hn
      · rfl
    have h2 : ¬ 2 < l.length := fun h => hn (.inl h)
    simp only [List.length_cons, List.length_append, length_namesW _ h1, List.length_replicate]; omega
theorem length_encO (o : Option Int) : (encO o).length = 2 := by cases o <;> rfl

theorem ptr_ch {S : Nat → Prop} {w w' : World} {p : Option Addr} {o : Option Int} (h : PtrI w p o) (hc : Ch S w w') (hS : ∀ b, b < w.heap.size → ¬ S b) : PtrI w' p o := by
  refine h.below ⟨hc.os, hc.tape, hc.output, hc.size, fun b hb => hc.block b hb (hS b hb)⟩

theorem splice_two (a b : List Int) (n m k : Nat) (ha : a.length = n) (hb : b.length = m) (hk : k = n + m) : splice (splice (List.replicate k 0) 0 a) n b = a ++ b := by
  subst ha hb hk
  simp [splice, List.drop_append]


set_option maxRecDepth 100000 in
set_option maxHeartbeats 4000000 in
theorem pairSIEncode (w : World) (A : Option Addr) (ca : Nat) (l : List ByteArray) (m : Nat) (hm : l.length = m) (hA : RdV w A (strVals l)) (p : Option Addr) (o : Option Int) (hp : PtrI w p o)
    (g off c : Nat) (xs : List Int) (hb : IB .u64 26 w g xs) (ho : off + 9 ≤ xs.length) :
    Calls Try.prog 119 #[.agg #[.iface 133 (.agg #[.int .i64 2, .iface 73 (.agg #[])]), .iface 135 (.agg #[.iface 80 (.agg #[])])], .agg #[.slice A m ca, .pointer p], .slice (some ⟨g, off, none⟩) 9 c] w
      fun e w' => EncPost w (encSI l o) g off xs e w' := by
  have HB := Lib.hid hb
  have HA := Lib.hid hA
  have HP := Lib.hid hp
  have HM := Lib.hid hm
  have hgl := hb.lt
  have hmk := fun W => run_make_z (P := Try.prog) 31 26 .u64 .i64 .i64 9 9 (by omega) Try.underlying31 8 info_u64 (by omega) (by omega) W
  clear hb hA hp hm
  go_enter Try.func119, Try.ntmps119
  go_wp2_with (first | (go_at_call 120; refine (pairSIWords _).mono ?_; rintro e w' ⟨rfl, hb⟩; obtain ⟨x, rfl⟩ := bx_of hb; clear hb; have hx0 : w.heap.size < x.w.heap.size := x.lt_size (by simp; omega); have hx1 : w.heap.size + 1 < x.w.heap.size := x.lt_size (by simp)) | (go_at_call 121; refine (sizeSs_c _).mono ?_; rintro e w' ⟨rfl, hb⟩; obtain ⟨y, rfl⟩ := bx_of hb; clear hb))
  have hy0 : x.w.heap.size < y.w.heap.size := y.lt_size (by simp)
  have hyw : w.heap.size < y.w.heap.size := y.lt_size (by simp; omega)
  have hyw1 : w.heap.size + 1 < y.w.heap.size := y.lt_size (by simp; omega)
  have hc0 : y.w.cell? ⟨w.heap.size, 0, none⟩ = some (.iface 133 (.agg #[.int .i64 2, .iface 73 (.agg #[])])) := by go_simp
  have hc1 : y.w.cell? ⟨w.heap.size, 1, none⟩ = some (.iface 135 (.agg #[.iface 80 (.agg #[])])) := by go_simp
  have hc2 : y.w.cell? ⟨w.heap.size + 1, 0, none⟩ = some (.slice A m ca) := by go_simp
  have hc3 : y.w.cell? ⟨w.heap.size + 1, 1, none⟩ = some (.pointer p) := by go_simp
  have hI : IB .u64 26 y.w x.w.heap.size (List.replicate 9 0) := (IB.new (k := .u64) (e := 26) x.w (List.replicate 9 0)).below y.below (by simp)
  have HI := Lib.hid hI
  have hbe : Below w.heap.size w y.w := bl_bx (bl_alloc (bl_bx (bl_alloc (bl_alloc (Below.refl _ _) _) _) x) _) y
  have HBE := Lib.hid hbe
  clear hI hbe hmk
  refine wp_region_reads 10 [(false, 3), (true, 9), (false, 3)] (by kernel_rfl) (by kernel_rfl) ?_
  simp only [List.take_succ_cons, List.take_zero, List.drop_succ_cons, List.drop_zero]
  repeat (go_big_quiet_step (fail))
  refine wpQuiet_nil ?_
  rintro _ ⟨nq, rfl⟩
  refine segs_hard ?_
  simp only [List.take_succ_cons, List.take_zero, List.drop_succ_cons, List.drop_zero]
  go_wp2_with fail
  refine (arrSEncode _ A ca l m HM.out ((HA.out.below HBE.out).drewN nq) x.w.heap.size 0 7 (List.replicate 9 0) (HI.out.drewN nq) (by simp)).mono ?_
  cases hE : encS l with
  | none =>
    have HE : Hid (encSI l o = none) := by show _ = _; unfold encSI; rw [hE]; rfl
    clear hE
    rintro e w' ⟨rfl, hb⟩
    obtain ⟨z, rfl⟩ := bx_of hb
    clear hb
    go_wp2
    with_reducible refine segs_end ?_
    with_reducible refine segs_reads ?_
    simp only [List.take_succ_cons, List.take_zero, List.drop_succ_cons, List.drop_zero]
    repeat (go_big_quiet_step (fail))
    refine wpQuiet_nil ?_
    rintro _ ⟨nq2, rfl⟩
    refine segs_hard ?_
    simp only [List.take_succ_cons, List.take_zero, List.drop_succ_cons, List.drop_zero]
    go_wp2
    with_reducible refine segs_end ?_
    with_reducible refine segs_nil ?_
    go_wp2
    go_ret
    rw [HE.out]
    exact ⟨rfl, bl_drewN (bl_bx (bl_drewN HBE.out nq) z) nq2⟩
  | some ws =>
    have HE : Hid (encSI l o = some (ws ++ encO o)) := by show _ = _; unfold encSI; rw [hE]; rfl
    have HL := Lib.hid (length_encS hE)
    clear hE
    rintro e w2 ⟨rfl, hI2, hC2⟩
    have d0 : w2.cell? ⟨w.heap.size, 1, none⟩ = y.w.cell? ⟨w.heap.size, 1, none⟩ := hC2.cells _ _ hyw (by unfold At; omega)
    have d1 : w2.cell? ⟨w.heap.size + 1, 1, none⟩ = y.w.cell? ⟨w.heap.size + 1, 1, none⟩ := hC2.cells _ _ hyw1 (by unfold At; omega)
    skip
    have hB2 := bl_ch (bl_drewN HBE.out nq) hC2 (fun b hb => by unfold At at hb; omega)
    have HI2 := Lib.hid hI2
    have HC2 := Lib.hid hC2
    have HB2 := Lib.hid hB2
    have hx2 : w.heap.size < w2.heap.size := Nat.lt_of_lt_of_le hyw hC2.size
    have hx3 : w.heap.size + 1 < w2.heap.size := Nat.lt_of_lt_of_le hyw1 hC2.size
    clear hI2 hC2 hB2
    go_wp2
    with_reducible refine segs_end ?_
    with_reducible refine segs_reads ?_
    simp only [List.take_succ_cons, List.take_zero, List.drop_succ_cons, List.drop_zero]
    repeat (go_big_quiet_step (fail))
    refine wpQuiet_nil ?_
    rintro _ ⟨nq2, rfl⟩
    refine segs_hard ?_
    simp only [List.take_succ_cons, List.take_zero, List.drop_succ_cons, List.drop_zero]
    go_wp2_with fail
    refine (optIEncode _ p o ((HP.out.below HB2.out).below (below_drewN (Below.refl _ _) nq2)) x.w.heap.size 7 2 (splice (List.replicate 9 0) 0 ws) (HI2.out.drewN nq2) (by simp [splice, HL.out])).mono ?_
    rintro e w3 ⟨rfl, hI3, hC3⟩
    rw [splice_two _ _ 7 2 9 HL.out (length_encO o) rfl] at hI3
    have hB3 := bl_ch (bl_drewN HB2.out nq2) hC3 (fun b hb => by unfold At at hb; omega)
    obtain ⟨w1, hr1, hI1, hC1⟩ := run_copy_ints (P := Try.prog) w3 31 31 3 26 Try.underlying31 size_u64 .u64 26 (some ⟨g, off, none⟩) (some ⟨x.w.heap.size, 0, none⟩) 9 c 9 9 g off xs (ws ++ encO o) (HB.out.below hB3 hgl) (by rw [List.length_append, HL.out, (length_encO o)]; rfl) (fun _ => rfl) (by rw [List.length_append, HL.out, (length_encO o)]; exact ho) hI3.rd0
    rw [List.length_append, HL.out, (length_encO o)] at hr1
    have HR := Lib.hid hr1
    have HI1 := Lib.hid hI1
    have HC1 := Lib.hid hC1
    have HB3 := Lib.hid hB3
    clear hr1 hI1 hC1 hI3 hC3 hB3
    go_wp2
    with_reducible refine segs_end ?_
    with_reducible refine segs_nil ?_
    go_wp2
    rw [HR.out]
    go_wp2
    go_ret
    rw [HE.out]
    exact ⟨rfl, HI1.out, (Ch.of_below HB3.out).trans HC1.out (fun _ h _ => h)⟩

end Go.Proofs.Ytlbgmoijepknbaa
