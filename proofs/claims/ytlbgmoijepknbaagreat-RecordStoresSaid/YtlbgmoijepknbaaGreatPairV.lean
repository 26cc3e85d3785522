/- Contract of Decode of the record of the statements. -/
import Derived.Test.YtlbgmoijepknbaaGreatPairD
namespace Go.Proofs.YtlbgmoijepknbaaGreat
open Go.RowKit
set_option linter.unusedVariables false

def decV (ws : List Int) : Option (Bool × List ByteArray × Option Int) :=
  if 1 < word0 ws then none else match decSI (ws.drop 1) with
  | some (l, o) => some (word0 ws == 1, l, o)
  | none => none
def DecVPost (w : World) (r : Option (Bool × List ByteArray × Option Int)) (e : Ending) (w' : World) : Prop :=
  Below w.heap.size w w' ∧ match r with
  | some (f, l, o) => ∃ A' c' p, e = .returned (.tuple #[.agg #[.bool f, .slice A' l.length c', .pointer p], .bool true]) ∧ RdV w' A' (strVals l) ∧ PtrI w' p o ∧ (∀ b, OwnB A' b → w.heap.size ≤ b) ∧ (∀ b, OwnB p b → w.heap.size ≤ b)
  | none => e = .returned (.tuple #[.agg #[.bool false, .slice none 0 0, .pointer none], .bool false])

set_option maxRecDepth 100000 in
set_option maxHeartbeats 4000000 in
theorem pairBDecode (w : World) (g off c : Nat) (ws : List Int) (hl : ws.length = 10) (hc : 10 ≤ c) (hR : Rd .u64 w (some ⟨g, off, none⟩) ws) (hg : g < w.heap.size) (hw : U64s ws) :
    Calls Tryz.prog 115 #[.agg #[.iface 81 (.agg #[]), .iface 93 (.agg #[.iface 85 (.agg #[.int .i64 2, .iface 74 (.agg #[])]), .iface 87 (.agg #[.iface 62 (.agg #[])])])], .slice (some ⟨g, off, none⟩) 10 c] w (DecVPost w (decV ws)) := by
  have h0 : w.cell? ⟨g, off, none⟩ = some (.int .u64 (ws[0]?.getD 0)) := hR.cell (j := 0) (by omega)
  have h0n := (hw.getD 0).1
  have HE : Hid (decV ws = if 1 < (ws[0]?.getD 0 : Int) then none else match decSI (ws.drop 1) with | some (l, o) => some (ws[0]?.getD 0 == 1, l, o) | none => none) := (show _ = _ from rfl)
  generalize ws[0]?.getD 0 = a at *
  have HL := Lib.hid hl
  have HR := Lib.hid hR
  have HW := Lib.hid hw
  have H0 := Lib.hid h0
  have hcc : ¬ c = 1 := by omega
  clear hl hR hw h0
  go_enter Tryz.func115, Tryz.ntmps115
  go_wp2_with (first | (go_at_call 117; refine (pairBWords _).mono ?_; rintro e w' ⟨rfl, hb⟩; obtain ⟨x, rfl⟩ := bx_of hb; clear hb; have hx0 : w.heap.size < x.w.heap.size := x.lt_size (by first | (simp; done) | (simp; omega) | omega); have hx1 : w.heap.size + 1 < x.w.heap.size := x.lt_size (by first | (simp; done) | (simp; omega) | omega); have hx2 : w.heap.size + 1 + 1 < x.w.heap.size := x.lt_size (by first | (simp; done) | (simp; omega) | omega); have hx3 : w.heap.size + 1 + 1 + 1 < x.w.heap.size := x.lt_size (by first | (simp; done) | (simp; omega) | omega)) | (go_at_call 118; refine (sizeB_bool _).mono ?_; rintro e w' ⟨rfl, hb⟩; obtain ⟨y, rfl⟩ := bx_of hb; clear hb))
  have hy0 : w.heap.size < y.w.heap.size := y.lt_size hx0
  have hy1 : w.heap.size + 1 < y.w.heap.size := y.lt_size hx1
  have hy2 : w.heap.size + 1 + 1 < y.w.heap.size := y.lt_size hx2
  have hy3 : w.heap.size + 1 + 1 + 1 < y.w.heap.size := y.lt_size hx3
  have c00 : y.w.cell? ⟨w.heap.size, 0, none⟩ = some (.iface 81 (.agg #[])) := by go_simp
  have c01 : y.w.cell? ⟨w.heap.size, 1, none⟩ = some (.iface 93 (.agg #[.iface 85 (.agg #[.int .i64 2, .iface 74 (.agg #[])]), .iface 87 (.agg #[.iface 62 (.agg #[])])])) := by go_simp
  have hbe : Below w.heap.size w y.w := (by repeat (first | with_reducible exact Below.refl _ _ | with_reducible refine bl_alloc ?_ _ | with_reducible refine bl_drew ?_ | with_reducible refine bl_drewN ?_ _ | with_reducible refine bl_bx ?_ _ | with_reducible exact BX.below _ | with_reducible refine bl_set ?_ (by first | (exact Nat.le_refl _) | (simp; done) | (simp; omega)) _ | assumption))
  have HBE := Lib.hid hbe
  have hgy : g < y.w.heap.size := by omega
  have H0y : Hid (y.w.cell? ⟨g, off, none⟩ = some (.int .u64 a)) := (hbe.cell (p := ⟨g, off, none⟩) hg).trans H0.out
  clear hbe
  refine ord_reads [0, 1, 2, 3, 4, 5, 6, 7] [.h [8, 9], .p [10, 11, 12], .h [13, 14]] (by kernel_rfl) (fun _ _ d _ _ h => by cases d <;> exact h) (by kernel_rfl) ?_
  dsimp only [pick, List.filterMap, List.getElem?_cons_zero, List.getElem?_cons_succ]
  (repeat (go_big_quiet_step (fail))); refine wpQuiet_nil ?_
  rintro _ ⟨nq, rfl⟩
  with_reducible refine part_hard ?_
  dsimp only [pick, List.filterMap, List.getElem?_cons_zero, List.getElem?_cons_succ]
  go_wp2_with fail
  by_cases ha : 1 < a
  · have HE' : Hid (decV ws = none) := by show _ = _; rw [HE.out, if_pos ha]
    refine (boolDecode_big (y.w.drewN nq) g off 1 a H0y.out hgy ha).mono ?_
    rintro e w2 ⟨rfl, hb2⟩
    obtain ⟨z, rfl⟩ := bx_of hb2
    clear hb2 ha
    have d30 : z.w.cell? ⟨w.heap.size + 1 + 1 + 1, 0, none⟩ = some (.bool false) := by go_simp
    have f30 : z.w.frozen? ⟨w.heap.size + 1 + 1 + 1, 0, none⟩ = false := by go_simp
    have d10 : z.w.cell? ⟨w.heap.size + 1, 0, none⟩ = some (.bool false) := by go_simp
    have d11 : z.w.cell? ⟨w.heap.size + 1, 1, none⟩ = some (.slice none 0 0) := by go_simp
    have d12 : z.w.cell? ⟨w.heap.size + 1, 2, none⟩ = some (.pointer none) := by go_simp
    have d20 : z.w.cell? ⟨w.heap.size + 1 + 1, 0, none⟩ = some (.bool false) := by go_simp
    have d21 : z.w.cell? ⟨w.heap.size + 1 + 1, 1, none⟩ = some (.slice none 0 0) := by go_simp
    have d22 : z.w.cell? ⟨w.heap.size + 1 + 1, 2, none⟩ = some (.pointer none) := by go_simp
    have d31 : z.w.cell? ⟨w.heap.size + 1 + 1 + 1, 1, none⟩ = some (.slice none 0 0) := by go_simp
    have d32 : z.w.cell? ⟨w.heap.size + 1 + 1 + 1, 2, none⟩ = some (.pointer none) := by go_simp
    have df10 : z.w.frozen? ⟨w.heap.size + 1, 0, none⟩ = false := by go_simp
    have df11 : z.w.frozen? ⟨w.heap.size + 1, 1, none⟩ = false := by go_simp
    have df12 : z.w.frozen? ⟨w.heap.size + 1, 2, none⟩ = false := by go_simp
    have df31 : z.w.frozen? ⟨w.heap.size + 1 + 1 + 1, 1, none⟩ = false := by go_simp
    have df32 : z.w.frozen? ⟨w.heap.size + 1 + 1 + 1, 2, none⟩ = false := by go_simp
    go_wp2
    with_reducible refine segs_end ?_
    with_reducible refine part_pure ?_
    dsimp only [pick, List.filterMap, List.getElem?_cons_zero, List.getElem?_cons_succ]
    (repeat (first | (refine pure_cons rfl (fun _ => rfl) ?_) | (refine pure_skip rfl ?_) | (refine pure_ex rfl ?_; apply Exists.intro; apply And.intro; (intro w; go_simp; rfl)))); refine pure_nil ?_
    with_reducible refine part_hard ?_
    dsimp only [pick, List.filterMap, List.getElem?_cons_zero, List.getElem?_cons_succ]
    go_wp2
    with_reducible refine segs_end ?_
    with_reducible refine part_nil ?_
    go_wp2
    exact bodyPost_ret (v := .tuple #[.agg #[.bool false, .slice none 0 0, .pointer none], .bool false]) (by simp [results, Tryz.results115, go_sem, d10, d11, d12]) rfl (by unfold DecVPost; rw [HE'.out]; exact ⟨(by repeat (first | with_reducible exact Below.refl _ _ | with_reducible refine bl_alloc ?_ _ | with_reducible refine bl_drew ?_ | with_reducible refine bl_drewN ?_ _ | with_reducible refine bl_bx ?_ _ | with_reducible exact BX.below _ | with_reducible refine bl_set ?_ (by first | (exact Nat.le_refl _) | (simp; done) | (simp; omega)) _ | assumption)), rfl⟩)
  · refine (boolDecode_ok (y.w.drewN nq) g off 1 a H0y.out hgy (by omega)).mono ?_
    rintro e w2 ⟨rfl, hb2⟩
    obtain ⟨z, rfl⟩ := bx_of hb2
    clear hb2
    have HA1 := Lib.hid ha
    clear ha
    have hz0 : w.heap.size < z.w.heap.size := z.lt_size hy0
    have hz1 : w.heap.size + 1 < z.w.heap.size := z.lt_size hy1
    have hz2 : w.heap.size + 1 + 1 < z.w.heap.size := z.lt_size hy2
    have hz3 : w.heap.size + 1 + 1 + 1 < z.w.heap.size := z.lt_size hy3
    have hgz : g < z.w.heap.size := z.lt_size hgy
    have d30 : z.w.cell? ⟨w.heap.size + 1 + 1 + 1, 0, none⟩ = some (.bool false) := by go_simp
    have f30 : z.w.frozen? ⟨w.heap.size + 1 + 1 + 1, 0, none⟩ = false := by go_simp
    have d10 : z.w.cell? ⟨w.heap.size + 1, 0, none⟩ = some (.bool false) := by go_simp
    have d11 : z.w.cell? ⟨w.heap.size + 1, 1, none⟩ = some (.slice none 0 0) := by go_simp
    have d12 : z.w.cell? ⟨w.heap.size + 1, 2, none⟩ = some (.pointer none) := by go_simp
    have d20 : z.w.cell? ⟨w.heap.size + 1 + 1, 0, none⟩ = some (.bool false) := by go_simp
    have d21 : z.w.cell? ⟨w.heap.size + 1 + 1, 1, none⟩ = some (.slice none 0 0) := by go_simp
    have d22 : z.w.cell? ⟨w.heap.size + 1 + 1, 2, none⟩ = some (.pointer none) := by go_simp
    have d31 : z.w.cell? ⟨w.heap.size + 1 + 1 + 1, 1, none⟩ = some (.slice none 0 0) := by go_simp
    have d32 : z.w.cell? ⟨w.heap.size + 1 + 1 + 1, 2, none⟩ = some (.pointer none) := by go_simp
    have df10 : z.w.frozen? ⟨w.heap.size + 1, 0, none⟩ = false := by go_simp
    have df11 : z.w.frozen? ⟨w.heap.size + 1, 1, none⟩ = false := by go_simp
    have df12 : z.w.frozen? ⟨w.heap.size + 1, 2, none⟩ = false := by go_simp
    have df31 : z.w.frozen? ⟨w.heap.size + 1 + 1 + 1, 1, none⟩ = false := by go_simp
    have df32 : z.w.frozen? ⟨w.heap.size + 1 + 1 + 1, 2, none⟩ = false := by go_simp
    have HBz : Hid (Below w.heap.size w z.w) := bl_bx (bl_drewN HBE.out nq) z
    go_wp2
    with_reducible refine segs_end ?_
    with_reducible refine part_pure ?_
    dsimp only [pick, List.filterMap, List.getElem?_cons_zero, List.getElem?_cons_succ]
    (repeat (first | (refine pure_cons rfl (fun _ => rfl) ?_) | (refine pure_skip rfl ?_) | (refine pure_ex rfl ?_; apply Exists.intro; apply And.intro; (intro w; go_simp; rfl)))); refine pure_nil ?_
    with_reducible refine part_hard ?_
    dsimp only [pick, List.filterMap, List.getElem?_cons_zero, List.getElem?_cons_succ]
    go_wp2
    with_reducible refine segs_end ?_
    with_reducible refine part_nil ?_
    go_wp2
    have hWs : (z.w.setCell ⟨w.heap.size + 1 + 1 + 1, 0, none⟩ (.bool (a == 1))).heap.size = z.w.heap.size := by simp
    have HBW : Hid (Below w.heap.size w (z.w.setCell ⟨w.heap.size + 1 + 1 + 1, 0, none⟩ (.bool (a == 1)))) := bl_set HBz.out (by show _ ≤ w.heap.size + 1 + 1 + 1; omega) _
    have wc01 : (z.w.setCell ⟨w.heap.size + 1 + 1 + 1, 0, none⟩ (.bool (a == 1))).cell? ⟨w.heap.size, 1, none⟩ = some (.iface 93 (.agg #[.iface 85 (.agg #[.int .i64 2, .iface 74 (.agg #[])]), .iface 87 (.agg #[.iface 62 (.agg #[])])])) := by go_simp
    have w30 : (z.w.setCell ⟨w.heap.size + 1 + 1 + 1, 0, none⟩ (.bool (a == 1))).cell? ⟨w.heap.size + 1 + 1 + 1, 0, none⟩ = some (.bool (a == 1)) := by go_simp
    have w10 : (z.w.setCell ⟨w.heap.size + 1 + 1 + 1, 0, none⟩ (.bool (a == 1))).cell? ⟨w.heap.size + 1, 0, none⟩ = some (.bool false) := by go_simp
    have w11 : (z.w.setCell ⟨w.heap.size + 1 + 1 + 1, 0, none⟩ (.bool (a == 1))).cell? ⟨w.heap.size + 1, 1, none⟩ = some (.slice none 0 0) := by go_simp
    have w12 : (z.w.setCell ⟨w.heap.size + 1 + 1 + 1, 0, none⟩ (.bool (a == 1))).cell? ⟨w.heap.size + 1, 2, none⟩ = some (.pointer none) := by go_simp
    have w20 : (z.w.setCell ⟨w.heap.size + 1 + 1 + 1, 0, none⟩ (.bool (a == 1))).cell? ⟨w.heap.size + 1 + 1, 0, none⟩ = some (.bool false) := by go_simp
    have w21 : (z.w.setCell ⟨w.heap.size + 1 + 1 + 1, 0, none⟩ (.bool (a == 1))).cell? ⟨w.heap.size + 1 + 1, 1, none⟩ = some (.slice none 0 0) := by go_simp
    have w22 : (z.w.setCell ⟨w.heap.size + 1 + 1 + 1, 0, none⟩ (.bool (a == 1))).cell? ⟨w.heap.size + 1 + 1, 2, none⟩ = some (.pointer none) := by go_simp
    have w31 : (z.w.setCell ⟨w.heap.size + 1 + 1 + 1, 0, none⟩ (.bool (a == 1))).cell? ⟨w.heap.size + 1 + 1 + 1, 1, none⟩ = some (.slice none 0 0) := by go_simp
    have w32 : (z.w.setCell ⟨w.heap.size + 1 + 1 + 1, 0, none⟩ (.bool (a == 1))).cell? ⟨w.heap.size + 1 + 1 + 1, 2, none⟩ = some (.pointer none) := by go_simp
    have wf10 : (z.w.setCell ⟨w.heap.size + 1 + 1 + 1, 0, none⟩ (.bool (a == 1))).frozen? ⟨w.heap.size + 1, 0, none⟩ = false := by go_simp
    have wf11 : (z.w.setCell ⟨w.heap.size + 1 + 1 + 1, 0, none⟩ (.bool (a == 1))).frozen? ⟨w.heap.size + 1, 1, none⟩ = false := by go_simp
    have wf12 : (z.w.setCell ⟨w.heap.size + 1 + 1 + 1, 0, none⟩ (.bool (a == 1))).frozen? ⟨w.heap.size + 1, 2, none⟩ = false := by go_simp
    have wf31 : (z.w.setCell ⟨w.heap.size + 1 + 1 + 1, 0, none⟩ (.bool (a == 1))).frozen? ⟨w.heap.size + 1 + 1 + 1, 1, none⟩ = false := by go_simp
    have wf32 : (z.w.setCell ⟨w.heap.size + 1 + 1 + 1, 0, none⟩ (.bool (a == 1))).frozen? ⟨w.heap.size + 1 + 1 + 1, 2, none⟩ = false := by go_simp
    have wf30 : (z.w.setCell ⟨w.heap.size + 1 + 1 + 1, 0, none⟩ (.bool (a == 1))).frozen? ⟨w.heap.size + 1 + 1 + 1, 0, none⟩ = false := by go_simp
    generalize z.w.setCell ⟨w.heap.size + 1 + 1 + 1, 0, none⟩ (.bool (a == 1)) = W at *
    have hgW : g < W.heap.size := by omega
    have hW0 : w.heap.size < W.heap.size := by omega
    have hW1 : w.heap.size + 1 < W.heap.size := by omega
    have hW2 : w.heap.size + 1 + 1 < W.heap.size := by omega
    have hW3 : w.heap.size + 1 + 1 + 1 < W.heap.size := by omega
    clear hWs
    refine ord_reads [0, 1, 2, 3, 4, 5, 6] [.h [7, 8], .p [9, 10, 11], .h [12, 13]] (by kernel_rfl) (fun _ _ d _ _ h => by cases d <;> exact h) (by kernel_rfl) ?_
    dsimp only [pick, List.filterMap, List.getElem?_cons_zero, List.getElem?_cons_succ]
    (repeat (go_big_quiet_step (fail))); refine wpQuiet_nil ?_
    rintro _ ⟨nq2, rfl⟩
    with_reducible refine part_hard ?_
    dsimp only [pick, List.filterMap, List.getElem?_cons_zero, List.getElem?_cons_succ]
    go_wp2_with fail
    refine (pairSIDecode (W.drewN nq2) g (off + 1) (c - 1) (ws.drop 1) (by rw [List.length_drop, HL.out]) (by omega) (((HR.out.below HBW.out).drop 1).drewN nq2) hgW (HW.out.drop 1)).mono ?_
    cases hS : decSI (ws.drop 1) with
    | none =>
      have HE' : Hid (decV ws = none) := by show _ = _; rw [HE.out, if_neg (by have := HA1.out; omega), hS]
      clear hS
      rintro e w3 ⟨hb3, rfl⟩
      obtain ⟨q, rfl⟩ := bx_of hb3
      clear hb3
      go_wp2
      with_reducible refine segs_end ?_
      with_reducible refine part_pure ?_
      dsimp only [pick, List.filterMap, List.getElem?_cons_zero, List.getElem?_cons_succ]
      (repeat (first | (refine pure_cons rfl (fun _ => rfl) ?_) | (refine pure_skip rfl ?_) | (refine pure_ex rfl ?_; apply Exists.intro; apply And.intro; (intro w; go_simp; rfl)))); refine pure_nil ?_
      with_reducible refine part_hard ?_
      dsimp only [pick, List.filterMap, List.getElem?_cons_zero, List.getElem?_cons_succ]
      go_wp2
      with_reducible refine segs_end ?_
      with_reducible refine part_nil ?_
      go_wp2
      have q10 : q.w.cell? ⟨w.heap.size + 1, 0, none⟩ = some (.bool false) := by go_simp
      have q11 : q.w.cell? ⟨w.heap.size + 1, 1, none⟩ = some (.slice none 0 0) := by go_simp
      have q12 : q.w.cell? ⟨w.heap.size + 1, 2, none⟩ = some (.pointer none) := by go_simp
      exact bodyPost_ret (v := .tuple #[.agg #[.bool false, .slice none 0 0, .pointer none], .bool false]) (by simp [results, Tryz.results115, go_sem, q10, q11, q12]) rfl (by unfold DecVPost; rw [HE'.out]; exact ⟨(by repeat (first | with_reducible exact Below.refl _ _ | with_reducible refine bl_alloc ?_ _ | with_reducible refine bl_drew ?_ | with_reducible refine bl_drewN ?_ _ | with_reducible refine bl_bx ?_ _ | with_reducible exact BX.below _ | with_reducible refine bl_set ?_ (by first | (exact Nat.le_refl _) | (simp; done) | (simp; omega)) _ | assumption)), rfl⟩)
    | some lo =>
      obtain ⟨l, o⟩ := lo
      have HE' : Hid (decV ws = some (a == 1, l, o)) := by show _ = _; rw [HE.out, if_neg (by have := HA1.out; omega), hS]
      clear hS
      rintro e w3 ⟨hb3, A', c', p, rfl, hA, hp, hAf, hpf⟩
      obtain ⟨q, rfl⟩ := bx_of hb3
      have HA := Lib.hid hA
      have HAF := Lib.hid hAf
      have HP := Lib.hid hp
      have HPF := Lib.hid hpf
      clear hb3 hp hpf hA hAf
      go_wp2
      with_reducible refine segs_end ?_
      with_reducible refine part_pure ?_
      dsimp only [pick, List.filterMap, List.getElem?_cons_zero, List.getElem?_cons_succ]
      (repeat (first | (refine pure_cons rfl (fun _ => rfl) ?_) | (refine pure_skip rfl ?_) | (refine pure_ex rfl ?_; apply Exists.intro; apply And.intro; (intro w; go_simp; rfl)))); refine pure_nil ?_
      with_reducible refine part_hard ?_
      dsimp only [pick, List.filterMap, List.getElem?_cons_zero, List.getElem?_cons_succ]
      go_wp2
      with_reducible refine segs_end ?_
      with_reducible refine part_nil ?_
      go_wp2
      have q10 : q.w.cell? ⟨w.heap.size + 1, 0, none⟩ = some (.bool false) := by go_simp
      have q11 : q.w.cell? ⟨w.heap.size + 1, 1, none⟩ = some (.slice none 0 0) := by go_simp
      have q12 : q.w.cell? ⟨w.heap.size + 1, 2, none⟩ = some (.pointer none) := by go_simp
      have hA3 : ∀ b, OwnB A' b → w.heap.size + 1 + 1 + 1 < b := fun b hb => by have h1 := HAF.out b hb; have h2 : W.heap.size ≤ b := h1; omega
      have hp3 : ∀ b, OwnB p b → w.heap.size + 1 + 1 + 1 < b := fun b hb => by have h1 := HPF.out b hb; have h2 : W.heap.size ≤ b := h1; omega
      have hF := ((((((((((HA.out).setCell (p := ⟨w.heap.size + 1 + 1 + 1, 1, none⟩) (fun b hb => by have := hA3 b hb; show b ≠ w.heap.size + 1 + 1 + 1; omega) (.slice A' l.length c'))).setCell (p := ⟨w.heap.size + 1 + 1 + 1, 2, none⟩) (fun b hb => by have := hA3 b hb; show b ≠ w.heap.size + 1 + 1 + 1; omega) (.pointer p))).setCell (p := ⟨w.heap.size + 1, 0, none⟩) (fun b hb => by have := hA3 b hb; show b ≠ w.heap.size + 1; omega) (.bool (a == 1)))).setCell (p := ⟨w.heap.size + 1, 1, none⟩) (fun b hb => by have := hA3 b hb; show b ≠ w.heap.size + 1; omega) (.slice A' l.length c'))).setCell (p := ⟨w.heap.size + 1, 2, none⟩) (fun b hb => by have := hA3 b hb; show b ≠ w.heap.size + 1; omega) (.pointer p))
      have hG := ((((((((((HP.out).setCell (p := ⟨w.heap.size + 1 + 1 + 1, 1, none⟩) (fun b hb => by have := hp3 b hb; show b ≠ w.heap.size + 1 + 1 + 1; omega) (.slice A' l.length c'))).setCell (p := ⟨w.heap.size + 1 + 1 + 1, 2, none⟩) (fun b hb => by have := hp3 b hb; show b ≠ w.heap.size + 1 + 1 + 1; omega) (.pointer p))).setCell (p := ⟨w.heap.size + 1, 0, none⟩) (fun b hb => by have := hp3 b hb; show b ≠ w.heap.size + 1; omega) (.bool (a == 1)))).setCell (p := ⟨w.heap.size + 1, 1, none⟩) (fun b hb => by have := hp3 b hb; show b ≠ w.heap.size + 1; omega) (.slice A' l.length c'))).setCell (p := ⟨w.heap.size + 1, 2, none⟩) (fun b hb => by have := hp3 b hb; show b ≠ w.heap.size + 1; omega) (.pointer p))
      have hB := bl_set (bl_set (bl_set (bl_set (bl_set (bl_bx (bl_drewN HBW.out nq2) q) (p := ⟨w.heap.size + 1 + 1 + 1, 1, none⟩) (by show _ ≤ w.heap.size + 1 + 1 + 1; omega) (.slice A' l.length c')) (p := ⟨w.heap.size + 1 + 1 + 1, 2, none⟩) (by show _ ≤ w.heap.size + 1 + 1 + 1; omega) (.pointer p)) (p := ⟨w.heap.size + 1, 0, none⟩) (by show _ ≤ w.heap.size + 1; omega) (.bool (a == 1))) (p := ⟨w.heap.size + 1, 1, none⟩) (by show _ ≤ w.heap.size + 1; omega) (.slice A' l.length c')) (p := ⟨w.heap.size + 1, 2, none⟩) (by show _ ≤ w.heap.size + 1; omega) (.pointer p)
      exact bodyPost_ret (v := .tuple #[.agg #[.bool (a == 1), .slice A' l.length c', .pointer p], .bool true]) (by simp [results, Tryz.results115, go_sem, q10, q11, q12]) rfl (by unfold DecVPost; rw [HE'.out]; exact ⟨hB, A', c', p, rfl, hF, hG, fun b hb => by have := hA3 b hb; omega, fun b hb => by have := hp3 b hb; omega⟩)
end Go.Proofs.YtlbgmoijepknbaaGreat
