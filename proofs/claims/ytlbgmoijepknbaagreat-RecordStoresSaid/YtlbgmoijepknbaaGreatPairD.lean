/- Contract of Decode of the pair of names and number. -/
import Derived.Test.YtlbgmoijepknbaaGreatOptD
import Derived.Test.YtlbgmoijepknbaaGreatPerm
namespace Go.Proofs.YtlbgmoijepknbaaGreat
open Go.RowKit
set_option linter.unusedVariables false

def decSI (ws : List Int) : Option (List ByteArray × Option Int) :=
  match decS (ws.take 7), decO (ws[7]?.getD 0) (ws[8]?.getD 0) with
  | some l, some o => some (l, o)
  | _, _ => none
def DecSIPost (w : World) (r : Option (List ByteArray × Option Int)) (e : Ending) (w' : World) : Prop :=
  Below w.heap.size w w' ∧ match r with
  | some (l, o) => ∃ A' c' p, e = .returned (.tuple #[.agg #[.slice A' l.length c', .pointer p], .bool true]) ∧ RdV w' A' (strVals l) ∧ PtrI w' p o ∧ (∀ b, OwnB A' b → w.heap.size ≤ b) ∧ (∀ b, OwnB p b → w.heap.size ≤ b)
  | none => e = .returned (.tuple #[.agg #[.slice none 0 0, .pointer none], .bool false])

theorem Rd.cell {k : IntKind} {w : World} {g off : Nat} {ws : List Int} (h : Rd k w (some ⟨g, off, none⟩) ws) {j : Nat} (hj : j < ws.length) : w.cell? ⟨g, off + j, none⟩ = some (.int k (ws[j]?.getD 0)) := by
  obtain ⟨b, o, h1, _, h2⟩ := h.at_ hj
  injection h1 with h1
  injection h1 with h1 h1'
  subst h1 h1'
  simp [hj]; exact h2
theorem U64s.getD {ws : List Int} (h : U64s ws) (i : Nat) : 0 ≤ ws[i]?.getD 0 ∧ ws[i]?.getD 0 < 18446744073709551616 := by
  rcases Nat.lt_or_ge i ws.length with hi | hi
  · simp [hi]; exact h.get hi
  · simp [hi]

set_option maxRecDepth 100000 in
set_option maxHeartbeats 4000000 in
theorem pairSIDecode (w : World) (g off c : Nat) (ws : List Int) (hl : ws.length = 9) (hc : 9 ≤ c) (hR : Rd .u64 w (some ⟨g, off, none⟩) ws) (hg : g < w.heap.size) (hw : U64s ws) :
    Calls Tryz.prog 110 #[.agg #[.iface 85 (.agg #[.int .i64 2, .iface 74 (.agg #[])]), .iface 87 (.agg #[.iface 62 (.agg #[])])], .slice (some ⟨g, off, none⟩) 9 c] w (DecSIPost w (decSI ws)) := by
  have h7 : w.cell? ⟨g, off + 7, none⟩ = some (.int .u64 (ws[7]?.getD 0)) := hR.cell (j := 7) (by omega)
  have h8 : w.cell? ⟨g, off + 7 + 1, none⟩ = some (.int .u64 (ws[8]?.getD 0)) := hR.cell (j := 8) (by omega)
  have h7n := (hw.getD 7).1
  have HE : Hid (decSI ws = match decS (ws.take 7), decO (ws[7]?.getD 0) (ws[8]?.getD 0) with | some l, some o => some (l, o) | _, _ => none) := (show _ = _ from rfl)
  generalize ws[7]?.getD 0 = a at *
  generalize ws[8]?.getD 0 = b at *
  have HL := Lib.hid hl
  have HR := Lib.hid hR
  have HW := Lib.hid hw
  have H7 := Lib.hid h7
  have H8 := Lib.hid h8
  have hcc : ¬ c = 7 := by omega
  clear hl hR hw h7 h8
  go_enter Tryz.func110, Tryz.ntmps110
  go_wp2_with (first | (go_at_call 112; refine (pairSIWords _).mono ?_; rintro e w' ⟨rfl, hb⟩; obtain ⟨x, rfl⟩ := bx_of hb; clear hb; have hx0 : w.heap.size < x.w.heap.size := x.lt_size (by first | (simp; done) | (simp; omega) | omega); have hx1 : w.heap.size + 1 < x.w.heap.size := x.lt_size (by first | (simp; done) | (simp; omega) | omega); have hx2 : w.heap.size + 1 + 1 < x.w.heap.size := x.lt_size (by first | (simp; done) | (simp; omega) | omega); have hx3 : w.heap.size + 1 + 1 + 1 < x.w.heap.size := x.lt_size (by first | (simp; done) | (simp; omega) | omega)) | (go_at_call 113; refine (sizeSs_c _).mono ?_; rintro e w' ⟨rfl, hb⟩; obtain ⟨y, rfl⟩ := bx_of hb; clear hb))
  have hy0 : w.heap.size < y.w.heap.size := y.lt_size hx0
  have hy1 : w.heap.size + 1 < y.w.heap.size := y.lt_size hx1
  have hy2 : w.heap.size + 1 + 1 < y.w.heap.size := y.lt_size hx2
  have hy3 : w.heap.size + 1 + 1 + 1 < y.w.heap.size := y.lt_size hx3
  have c00 : y.w.cell? ⟨w.heap.size, 0, none⟩ = some (.iface 85 (.agg #[.int .i64 2, .iface 74 (.agg #[])])) := by go_simp
  have c01 : y.w.cell? ⟨w.heap.size, 1, none⟩ = some (.iface 87 (.agg #[.iface 62 (.agg #[])])) := by go_simp
  have hbe : Below w.heap.size w y.w := (by repeat (first | with_reducible exact Below.refl _ _ | with_reducible refine bl_alloc ?_ _ | with_reducible refine bl_drew ?_ | with_reducible refine bl_drewN ?_ _ | with_reducible refine bl_bx ?_ _ | with_reducible exact BX.below _ | with_reducible refine bl_set ?_ (by first | (exact Nat.le_refl _) | (simp; done) | (simp; omega)) _ | assumption))
  have HBE := Lib.hid hbe
  have hgy : g < y.w.heap.size := by omega
  clear hbe
  refine ord_reads [0, 1, 2, 3, 4, 5, 6, 7] [.h [8, 9], .p [10, 11, 12], .h [13, 14]] (by kernel_rfl) (fun _ _ d _ _ h => by cases d <;> exact h) (by kernel_rfl) ?_
  dsimp only [pick, List.filterMap, List.getElem?_cons_zero, List.getElem?_cons_succ]
  (repeat (go_big_quiet_step (fail))); refine wpQuiet_nil ?_
  rintro _ ⟨nq, rfl⟩
  with_reducible refine part_hard ?_
  dsimp only [pick, List.filterMap, List.getElem?_cons_zero, List.getElem?_cons_succ]
  go_wp2_with fail
  refine (arrSDecode _ g off 7 (ws.take 7) (by rw [List.length_take, HL.out]; rfl) (by omega) (((HR.out.below HBE.out).take 7).drewN nq) hgy (HW.out.take 7)).mono ?_
  cases hS : decS (ws.take 7) with
  | none =>
    have HE' : Hid (decSI ws = none) := by show _ = _; rw [HE.out, hS]
    clear hS
    rintro e w2 ⟨hb2, rfl⟩
    obtain ⟨z, rfl⟩ := bx_of hb2
    clear hb2
    have d30 : z.w.cell? ⟨w.heap.size + 1 + 1 + 1, 0, none⟩ = some (.slice none 0 0) := by go_simp
    have f30 : z.w.frozen? ⟨w.heap.size + 1 + 1 + 1, 0, none⟩ = false := by go_simp
    have d10 : z.w.cell? ⟨w.heap.size + 1, 0, none⟩ = some (.slice none 0 0) := by go_simp
    have d11 : z.w.cell? ⟨w.heap.size + 1, 1, none⟩ = some (.pointer none) := by go_simp
    have d20 : z.w.cell? ⟨w.heap.size + 1 + 1, 0, none⟩ = some (.slice none 0 0) := by go_simp
    have d21 : z.w.cell? ⟨w.heap.size + 1 + 1, 1, none⟩ = some (.pointer none) := by go_simp
    have d31 : z.w.cell? ⟨w.heap.size + 1 + 1 + 1, 1, none⟩ = some (.pointer none) := by go_simp
    have df10 : z.w.frozen? ⟨w.heap.size + 1, 0, none⟩ = false := by go_simp
    have df11 : z.w.frozen? ⟨w.heap.size + 1, 1, none⟩ = false := by go_simp
    have df31 : z.w.frozen? ⟨w.heap.size + 1 + 1 + 1, 1, none⟩ = false := by go_simp
    go_wp2
    with_reducible refine segs_end ?_
    with_reducible refine part_pure ?_
    dsimp only [pick, List.filterMap, List.getElem?_cons_zero, List.getElem?_cons_succ]
    (repeat (first | (refine pure_cons rfl (fun _ => rfl) ?_) | (refine pure_skip rfl ?_) | (refine pure_ex rfl ?_; apply Exists.intro; apply And.intro; (intro w; go_simp; rfl)))); refine pure_nil ?_
    with_reducible refine part_hard ?_
    dsimp only [pick, List.filterMap, List.getElem?_cons_zero, List.getElem?_cons_succ]
    go_wp2
    with_reducible refine segs_end ?_
    with_reducible refine part_nil ?_
    go_wp2
    exact bodyPost_ret (v := .tuple #[.agg #[.slice none 0 0, .pointer none], .bool false]) (by simp [results, Tryz.results110, go_sem, d10, d11]) rfl (by unfold DecSIPost; rw [HE'.out]; exact ⟨(by repeat (first | with_reducible exact Below.refl _ _ | with_reducible refine bl_alloc ?_ _ | with_reducible refine bl_drew ?_ | with_reducible refine bl_drewN ?_ _ | with_reducible refine bl_bx ?_ _ | with_reducible exact BX.below _ | with_reducible refine bl_set ?_ (by first | (exact Nat.le_refl _) | (simp; done) | (simp; omega)) _ | assumption)), rfl⟩)
  | some l =>
    have hlen : (ws.take 7).length = 7 := by rw [List.length_take, HL.out]; rfl
    clear hlen
    rintro e w2 ⟨hb2, A', c', rfl, hA, hAf⟩
    obtain ⟨z, rfl⟩ := bx_of hb2
    clear hb2
    have HA := Lib.hid hA
    have HAF := Lib.hid hAf
    have HS := Lib.hid hS
    clear hA hS hAf
    have hz0 : w.heap.size < z.w.heap.size := z.lt_size hy0
    have hz1 : w.heap.size + 1 < z.w.heap.size := z.lt_size hy1
    have hz2 : w.heap.size + 1 + 1 < z.w.heap.size := z.lt_size hy2
    have hz3 : w.heap.size + 1 + 1 + 1 < z.w.heap.size := z.lt_size hy3
    have hgz : g < z.w.heap.size := z.lt_size hgy
    have d30 : z.w.cell? ⟨w.heap.size + 1 + 1 + 1, 0, none⟩ = some (.slice none 0 0) := by go_simp
    have f30 : z.w.frozen? ⟨w.heap.size + 1 + 1 + 1, 0, none⟩ = false := by go_simp
    have c30 : ∀ u, (z.w.setCell ⟨w.heap.size + 1 + 1 + 1, 0, none⟩ u).cell? ⟨w.heap.size + 1 + 1 + 1, 0, none⟩ = some u := by intro u; go_simp
    have HBz : Hid (Below w.heap.size w z.w) := bl_bx (bl_drewN HBE.out nq) z
    go_wp2
    with_reducible refine segs_end ?_
    with_reducible refine part_pure ?_
    dsimp only [pick, List.filterMap, List.getElem?_cons_zero, List.getElem?_cons_succ]
    (repeat (first | (refine pure_cons rfl (fun _ => rfl) ?_) | (refine pure_skip rfl ?_) | (refine pure_ex rfl ?_; apply Exists.intro; apply And.intro; (intro w; go_simp; rfl)))); refine pure_nil ?_
    with_reducible refine part_hard ?_
    dsimp only [pick, List.filterMap, List.getElem?_cons_zero, List.getElem?_cons_succ]
    go_wp2
    with_reducible refine segs_end ?_
    with_reducible refine part_nil ?_
    go_wp2
    have hWs : (z.w.setCell ⟨w.heap.size + 1 + 1 + 1, 0, none⟩ (.slice A' l.length c')).heap.size = z.w.heap.size := by simp
    have HBW : Hid (Below w.heap.size w (z.w.setCell ⟨w.heap.size + 1 + 1 + 1, 0, none⟩ (.slice A' l.length c'))) := bl_set HBz.out (by show _ ≤ w.heap.size + 1 + 1 + 1; omega) _
    have HAW : Hid (RdV (z.w.setCell ⟨w.heap.size + 1 + 1 + 1, 0, none⟩ (.slice A' l.length c')) A' (strVals l)) := HA.out.setCell (fun b hb => by have h1 := HAF.out b hb; have h2 : y.w.heap.size ≤ b := h1; show b ≠ w.heap.size + 1 + 1 + 1; omega) _
    have wc01 : (z.w.setCell ⟨w.heap.size + 1 + 1 + 1, 0, none⟩ (.slice A' l.length c')).cell? ⟨w.heap.size, 1, none⟩ = some (.iface 87 (.agg #[.iface 62 (.agg #[])])) := by go_simp
    have w30 := c30 (.slice A' l.length c')
    clear c30 d30 f30
    have w10 : (z.w.setCell ⟨w.heap.size + 1 + 1 + 1, 0, none⟩ (.slice A' l.length c')).cell? ⟨w.heap.size + 1, 0, none⟩ = some (.slice none 0 0) := by go_simp
    have w11 : (z.w.setCell ⟨w.heap.size + 1 + 1 + 1, 0, none⟩ (.slice A' l.length c')).cell? ⟨w.heap.size + 1, 1, none⟩ = some (.pointer none) := by go_simp
    have w20 : (z.w.setCell ⟨w.heap.size + 1 + 1 + 1, 0, none⟩ (.slice A' l.length c')).cell? ⟨w.heap.size + 1 + 1, 0, none⟩ = some (.slice none 0 0) := by go_simp
    have w21 : (z.w.setCell ⟨w.heap.size + 1 + 1 + 1, 0, none⟩ (.slice A' l.length c')).cell? ⟨w.heap.size + 1 + 1, 1, none⟩ = some (.pointer none) := by go_simp
    have w31 : (z.w.setCell ⟨w.heap.size + 1 + 1 + 1, 0, none⟩ (.slice A' l.length c')).cell? ⟨w.heap.size + 1 + 1 + 1, 1, none⟩ = some (.pointer none) := by go_simp
    have wf10 : (z.w.setCell ⟨w.heap.size + 1 + 1 + 1, 0, none⟩ (.slice A' l.length c')).frozen? ⟨w.heap.size + 1, 0, none⟩ = false := by go_simp
    have wf11 : (z.w.setCell ⟨w.heap.size + 1 + 1 + 1, 0, none⟩ (.slice A' l.length c')).frozen? ⟨w.heap.size + 1, 1, none⟩ = false := by go_simp
    have wf31 : (z.w.setCell ⟨w.heap.size + 1 + 1 + 1, 0, none⟩ (.slice A' l.length c')).frozen? ⟨w.heap.size + 1 + 1 + 1, 1, none⟩ = false := by go_simp
    have wf30 : (z.w.setCell ⟨w.heap.size + 1 + 1 + 1, 0, none⟩ (.slice A' l.length c')).frozen? ⟨w.heap.size + 1 + 1 + 1, 0, none⟩ = false := by go_simp
    generalize z.w.setCell ⟨w.heap.size + 1 + 1 + 1, 0, none⟩ (.slice A' l.length c') = W at *
    have hgW : g < W.heap.size := by omega
    have hW0 : w.heap.size < W.heap.size := by omega
    have hW1 : w.heap.size + 1 < W.heap.size := by omega
    have hW2 : w.heap.size + 1 + 1 < W.heap.size := by omega
    have hW3 : w.heap.size + 1 + 1 + 1 < W.heap.size := by omega
    clear hWs
    refine ord_reads [0, 1, 2, 3, 4, 5, 6] [.h [7, 8], .p [9, 10, 11], .h [12, 13]] (by kernel_rfl) (fun _ _ d _ _ h => by cases d <;> exact h) (by kernel_rfl) ?_
    dsimp only [pick, List.filterMap, List.getElem?_cons_zero, List.getElem?_cons_succ]
    (repeat (go_big_quiet_step (fail))); refine wpQuiet_nil ?_
    rintro _ ⟨nq2, rfl⟩
    with_reducible refine part_hard ?_
    dsimp only [pick, List.filterMap, List.getElem?_cons_zero, List.getElem?_cons_succ]
    go_wp2_with fail
    refine (optIDecode (W.drewN nq2) g (off + 7) (c - 7) a b (by omega) hgW ((HBW.out.cell (p := ⟨g, off + 7, none⟩) hg).trans H7.out) ((HBW.out.cell (p := ⟨g, off + 7 + 1, none⟩) hg).trans H8.out) h7n).mono ?_
    cases hO : decO a b with
    | none =>
      have HE' : Hid (decSI ws = none) := by show _ = _; rw [HE.out, HS.out, hO]
      clear hO
      rintro e w3 ⟨hb3, rfl⟩
      obtain ⟨q, rfl⟩ := bx_of hb3
      clear hb3
      go_wp2
      with_reducible refine segs_end ?_
      with_reducible refine part_pure ?_
      dsimp only [pick, List.filterMap, List.getElem?_cons_zero, List.getElem?_cons_succ]
      (repeat (first | (refine pure_cons rfl (fun _ => rfl) ?_) | (refine pure_skip rfl ?_) | (refine pure_ex rfl ?_; apply Exists.intro; apply And.intro; (intro w; go_simp; rfl)))); refine pure_nil ?_
      with_reducible refine part_hard ?_
      dsimp only [pick, List.filterMap, List.getElem?_cons_zero, List.getElem?_cons_succ]
      go_wp2
      with_reducible refine segs_end ?_
      with_reducible refine part_nil ?_
      go_wp2
      have q10 : q.w.cell? ⟨w.heap.size + 1, 0, none⟩ = some (.slice none 0 0) := by go_simp
      have q11 : q.w.cell? ⟨w.heap.size + 1, 1, none⟩ = some (.pointer none) := by go_simp
      exact bodyPost_ret (v := .tuple #[.agg #[.slice none 0 0, .pointer none], .bool false]) (by simp [results, Tryz.results110, go_sem, q10, q11]) rfl (by unfold DecSIPost; rw [HE'.out]; exact ⟨(by repeat (first | with_reducible exact Below.refl _ _ | with_reducible refine bl_alloc ?_ _ | with_reducible refine bl_drew ?_ | with_reducible refine bl_drewN ?_ _ | with_reducible refine bl_bx ?_ _ | with_reducible exact BX.below _ | with_reducible refine bl_set ?_ (by first | (exact Nat.le_refl _) | (simp; done) | (simp; omega)) _ | assumption)), rfl⟩)
    | some o =>
      have HE' : Hid (decSI ws = some (l, o)) := by show _ = _; rw [HE.out, HS.out, hO]
      clear hO
      rintro e w3 ⟨hb3, p, rfl, hp, hpf⟩
      obtain ⟨q, rfl⟩ := bx_of hb3
      have HP := Lib.hid hp
      have HPF := Lib.hid hpf
      clear hb3 hp hpf
      go_wp2
      with_reducible refine segs_end ?_
      with_reducible refine part_pure ?_
      dsimp only [pick, List.filterMap, List.getElem?_cons_zero, List.getElem?_cons_succ]
      (repeat (first | (refine pure_cons rfl (fun _ => rfl) ?_) | (refine pure_skip rfl ?_) | (refine pure_ex rfl ?_; apply Exists.intro; apply And.intro; (intro w; go_simp; rfl)))); refine pure_nil ?_
      with_reducible refine part_hard ?_
      dsimp only [pick, List.filterMap, List.getElem?_cons_zero, List.getElem?_cons_succ]
      go_wp2
      with_reducible refine segs_end ?_
      with_reducible refine part_nil ?_
      go_wp2
      have q10 : q.w.cell? ⟨w.heap.size + 1, 0, none⟩ = some (.slice none 0 0) := by go_simp
      have q11 : q.w.cell? ⟨w.heap.size + 1, 1, none⟩ = some (.pointer none) := by go_simp
      have hA3 : ∀ b, OwnB A' b → w.heap.size + 1 + 1 + 1 < b := fun b hb => by have h1 := HAF.out b hb; have h2 : y.w.heap.size ≤ b := h1; omega
      have hp3 : ∀ b, OwnB p b → w.heap.size + 1 + 1 + 1 < b := fun b hb => by have h1 := HPF.out b hb; have h2 : W.heap.size ≤ b := h1; omega
      have hF := (((((HAW.out.drewN nq2).bx q).setCell (p := ⟨w.heap.size + 1 + 1 + 1, 1, none⟩) (fun b hb => by have := hA3 b hb; show b ≠ w.heap.size + 1 + 1 + 1; omega) (.pointer p)).setCell (p := ⟨w.heap.size + 1, 0, none⟩) (fun b hb => by have := hA3 b hb; show b ≠ w.heap.size + 1; omega) (.slice A' l.length c')).setCell (p := ⟨w.heap.size + 1, 1, none⟩) (fun b hb => by have := hA3 b hb; show b ≠ w.heap.size + 1; omega) (.pointer p))
      have hG := (((HP.out.setCell (p := ⟨w.heap.size + 1 + 1 + 1, 1, none⟩) (fun b hb => by have := hp3 b hb; show b ≠ w.heap.size + 1 + 1 + 1; omega) (.pointer p)).setCell (p := ⟨w.heap.size + 1, 0, none⟩) (fun b hb => by have := hp3 b hb; show b ≠ w.heap.size + 1; omega) (.slice A' l.length c')).setCell (p := ⟨w.heap.size + 1, 1, none⟩) (fun b hb => by have := hp3 b hb; show b ≠ w.heap.size + 1; omega) (.pointer p))
      have hB := bl_set (bl_set (bl_set (bl_bx (bl_drewN HBW.out nq2) q) (p := ⟨w.heap.size + 1 + 1 + 1, 1, none⟩) (by show _ ≤ w.heap.size + 1 + 1 + 1; omega) (.pointer p)) (p := ⟨w.heap.size + 1, 0, none⟩) (by show _ ≤ w.heap.size + 1; omega) (.slice A' l.length c')) (p := ⟨w.heap.size + 1, 1, none⟩) (by show _ ≤ w.heap.size + 1; omega) (.pointer p)
      exact bodyPost_ret (v := .tuple #[.agg #[.slice A' l.length c', .pointer p], .bool true]) (by simp [results, Tryz.results110, go_sem, q10, q11]) rfl (by unfold DecSIPost; rw [HE'.out]; exact ⟨hB, A', c', p, rfl, hF, hG, fun b hb => by have := hA3 b hb; omega, fun b hb => by have := hp3 b hb; omega⟩)
end Go.Proofs.YtlbgmoijepknbaaGreat
