/- Look: descriptors that are not used (merged). -/
import Derived.Test.YtjaohgnloddgfaaGreatDoorKmg
namespace Go.Proofs.YtjaohgnloddgfaaGreatDoor
open Go.RowKit
set_option linter.unusedVariables false
set_option linter.unusedSimpArgs false

set_option maxRecDepth 100000 in
set_option maxHeartbeats 2000000 in
theorem rgRead_m (w : World) (line lines size : Int) (tp : Nat) (off : Int) (HL : ∀ W, Below w.heap.size w W → Calls Tryz.prog 25 #[.pointer (some ⟨tp, 0, none⟩), .int .u64 off] W fun e w' => e = .returned (.int .u64 1836515329) ∧ W = w') :
    Calls Tryz.prog 107 #[.agg #[.int .i64 line, .int .i64 lines, .int .u64 size], .func (.method "Load") #[.iface 57 (.pointer (some ⟨tp, 0, none⟩))] #[], .int .u64 off] w fun e w' => e = .returned (.tuple #[.agg #[.int .u8 1, .slice none 0 0, .slice none 0 0], .bool true]) ∧ Below w.heap.size w w' := by
  have HL := Lib.hid HL
  go_enter Tryz.func107, Tryz.ntmps107
  go_wp2_with (go_at_call 25; refine (HL.out _ (by (repeat (first | with_reducible exact Below.refl _ _ | with_reducible refine bl_alloc ?_ _ | with_reducible refine bl_drew ?_ | with_reducible refine bl_drewN ?_ _ | with_reducible refine bl_bx ?_ _ | with_reducible exact BX.below _ | with_reducible refine bl_set ?_ (by first | (exact Nat.le_refl _) | (simp; done) | (simp; omega)) _ | assumption)))).mono ?_; rintro e w' ⟨rfl, rfl⟩)
  exact bodyPost_ret (v := .tuple #[.agg #[.int .u8 1, .slice none 0 0, .slice none 0 0], .bool true]) (by simp [results, Tryz.results107, go_sem]) rfl ⟨rfl, (by repeat (first | with_reducible exact Below.refl _ _ | with_reducible refine bl_alloc ?_ _ | with_reducible refine bl_drew ?_ | with_reducible refine bl_drewN ?_ _ | with_reducible refine bl_bx ?_ _ | with_reducible exact BX.below _ | with_reducible refine bl_set ?_ (by first | (exact Nat.le_refl _) | (simp; done) | (simp; omega)) _ | assumption))⟩
set_option maxRecDepth 100000 in
set_option maxHeartbeats 16000000 in
theorem rgAll_m (w : World) (line lines m : Nat) (size : Int) (hm : lines / 4 = m) (hl : line + lines < 1000) (gc : Nat) (HL : ∀ W, Below w.heap.size w W → ∀ k, k < m → Calls Tryz.prog 25 #[.pointer (some ⟨gc, 0, none⟩), .int .u64 (atW line k)] W fun e w' => e = .returned (.int .u64 1836515329) ∧ W = w') :
    Calls Tryz.prog 80 #[.agg #[.int .i64 (line : Int), .int .i64 (lines : Int), .int .u64 size], .func (.method "Load") #[.iface 57 (.pointer (some ⟨gc, 0, none⟩))] #[]] w fun e w' => ∃ A c, e = .returned (.tuple #[.slice A m c, .bool true]) ∧ Sl 154 3 w' A m c (recs m) ∧ Below w.heap.size w w' ∧ ∀ b, OwnB A b → w.heap.size ≤ b := by
  have HL := Lib.hid HL
  have HCO : Hid (∀ W, Calls Tryz.prog 74 #[.agg #[.int .i64 (line : Int), .int .i64 (lines : Int), .int .u64 size]] W fun e w' => e = .returned (.int .i64 (m : Int)) ∧ Below W.heap.size W w') := fun W => by
    have := rgCount W line lines size (by omega)
    rwa [hm] at this
  have HAT : Hid (∀ W k, k < m → Calls Tryz.prog 75 #[.agg #[.int .i64 (line : Int), .int .i64 (lines : Int), .int .u64 size], .int .i64 (k : Int)] W fun e w' => e = .returned (.int .u64 (atW line k)) ∧ Below W.heap.size W w') := fun W k hk => rgAt W line lines size k (by omega)
  have hm2 : m ≤ 250 := by omega
  clear hm hl
  go_enter Tryz.func80, Tryz.ntmps80
  go_wp2_with (go_at_call 74; refine (HCO.out _).mono ?_; rintro e w' ⟨rfl, hb⟩; obtain ⟨x, rfl⟩ := bx_of hb; clear hb)
  have hgx : w.heap.size < x.w.heap.size := x.lt_size (by simp)
  have z0 : x.w.cell? ⟨w.heap.size, 0, none⟩ = some (.int .i64 (line : Int)) := by go_simp
  have z1 : x.w.cell? ⟨w.heap.size, 1, none⟩ = some (.int .i64 (lines : Int)) := by go_simp
  have z2 : x.w.cell? ⟨w.heap.size, 2, none⟩ = some (.int .u64 size) := by go_simp
  have HBW0 : Hid (Below w.heap.size w x.w) := by show Below _ _ _; (repeat (first | with_reducible exact Below.refl _ _ | with_reducible refine bl_alloc ?_ _ | with_reducible refine bl_drew ?_ | with_reducible refine bl_drewN ?_ _ | with_reducible refine bl_bx ?_ _ | with_reducible exact BX.below _ | with_reducible refine bl_set ?_ (by first | (exact Nat.le_refl _) | (simp; done) | (simp; omega)) _ | assumption))
  obtain ⟨W0, hW0⟩ : ∃ W0, x.w = W0 := ⟨_, rfl⟩
  obtain ⟨gr, hgr⟩ : ∃ gr, w.heap.size = gr := ⟨_, rfl⟩
  have HGR := Lib.hid hgr
  rw [hW0] at hgx z0 z1 z2 HBW0
  rw [hgr] at hgx z0 z1 z2
  rw [hW0, hgr]
  clear hW0 hgr
  go_loopw [12, 6, 7, 8, 9, 13, 14, 15, 16, 17, 18, 19, 20, 21, 22, 23, 24, 25, 26, 27, 28, 29, 30] (fun i' rc _ _ _ _ _ _ _ _ _ _ _ _ _ _ _ _ _ _ _ _ _ wr => ∃ (j : Nat) (A : Option Addr) (c : Nat), j ≤ m ∧ i' = .int .i64 j ∧ rc = .slice A j c ∧ Sl 154 3 wr A j c (recs j) ∧ Below W0.heap.size W0 wr ∧ ∀ b, OwnB A b → W0.heap.size ≤ b) (fun i' _ _ _ _ _ _ _ _ _ _ _ _ _ _ _ _ _ _ _ _ _ _ _ => m - (intOf i').toNat)
  case atStart => exact ⟨0, none, 0, by omega, rfl, rfl, Sl.nil, Below.refl _ _, by simp [OwnB]⟩
  case round =>
    obtain ⟨j, A, c, hj, rfl, rfl, hS, hB, hO⟩ := hrel
    have HS := Lib.hid hS
    have HB := Lib.hid hB
    have HO := Lib.hid hO
    have y0 := (hB.cell (p := ⟨gr, 0, none⟩) hgx).trans z0
    have y1 := (hB.cell (p := ⟨gr, 1, none⟩) hgx).trans z1
    have y2 := (hB.cell (p := ⟨gr, 2, none⟩) hgx).trans z2
    have hgw : gr < wr.heap.size := Nat.lt_of_lt_of_le hgx hB.size
    have HBA : Hid (Below w.heap.size w wr) := HBW0.out.trans (hB.mono HBW0.out.size)
    clear hS hB hO
    by_cases hlt : j < m
    · have hlt' : (j : Int) < (m : Int) := by omega
      have HATJ := Lib.hid (fun W => HAT.out W j hlt)
      have HLJ : Hid (∀ W, Below wr.heap.size wr W → ∀ W2, Below W.heap.size W W2 → Calls Tryz.prog 25 #[.pointer (some ⟨gc, 0, none⟩), .int .u64 (atW line j)] W2 fun e w' => e = .returned (.int .u64 1836515329) ∧ W2 = w') := fun W hW W2 hW2 => HL.out W2 ((HBA.out.trans (hW.mono HBA.out.size)).trans (hW2.mono (Nat.le_trans HBA.out.size hW.size))) j hlt
      obtain ⟨q, hq⟩ : ∃ q, atW line j = q := ⟨_, rfl⟩
      rw [hq] at HATJ HLJ
      clear hq
      go_wp2
      go_cut [8, 9] from 15 to 30 (fun s8 s9 wx => RecRel wr s8 s9 wx)
      case first =>
        go_region_held3 (fun w' => w'.cell? ⟨gr, 0, none⟩ = some (.int .i64 (line : Int)) ∧ w'.cell? ⟨gr, 1, none⟩ = some (.int .i64 (lines : Int)) ∧ w'.cell? ⟨gr, 2, none⟩ = some (.int .u64 size) ∧ gr < w'.heap.size ∧ Below wr.heap.size wr w')
          ((refine ⟨?_, ?_, ?_, ?_, ?_⟩ <;> first | assumption | ((repeat (first | with_reducible exact Below.refl _ _ | with_reducible refine bl_alloc ?_ _ | with_reducible refine bl_drew ?_ | with_reducible refine bl_drewN ?_ _ | with_reducible refine bl_bx ?_ _ | with_reducible exact BX.below _ | with_reducible refine bl_set ?_ (by first | (exact Nat.le_refl _) | (simp; done) | (simp; omega)) _ | assumption)); done) | (refine bl_set (bl_set (bl_set ?_ hys _) hys _) hys _; (repeat (first | with_reducible exact Below.refl _ _ | with_reducible refine bl_alloc ?_ _ | with_reducible refine bl_drew ?_ | with_reducible refine bl_drewN ?_ _ | with_reducible refine bl_bx ?_ _ | with_reducible exact BX.below _ | with_reducible refine bl_set ?_ (by first | (exact Nat.le_refl _) | (simp; done) | (simp; omega)) _ | assumption)); done) | (go_simp; done) | (simp; omega)))
          (first | (go_at_call 75; refine (HATJ.out _).mono ?_; rintro e w' ⟨rfl, hb⟩; obtain ⟨y, rfl⟩ := bx_of hb; clear hb; have hys : wr.heap.size ≤ y.w.heap.size := (by have h9 := y.size; first | exact h9 | (simp at h9; omega)); have hgy : gr < y.w.heap.size := y.lt_size (by first | exact hgw | (simp; omega)); have k0 : y.w.cell? ⟨gr, 0, none⟩ = some (.int .i64 (line : Int)) := (y.cell gr 0 (by first | exact hgw | (simp; omega))).trans (by first | exact y0 | go_simp); have k1 : y.w.cell? ⟨gr, 1, none⟩ = some (.int .i64 (lines : Int)) := (y.cell gr 1 (by first | exact hgw | (simp; omega))).trans (by first | exact y1 | go_simp); have k2 : y.w.cell? ⟨gr, 2, none⟩ = some (.int .u64 size) := (y.cell gr 2 (by first | exact hgw | (simp; omega))).trans (by first | exact y2 | go_simp)) | (go_at_call 107; refine (rgRead_m _ (line : Int) (lines : Int) size gc q (HLJ.out _ (by (repeat (first | with_reducible exact Below.refl _ _ | with_reducible refine bl_alloc ?_ _ | with_reducible refine bl_drew ?_ | with_reducible refine bl_drewN ?_ _ | with_reducible refine bl_bx ?_ _ | with_reducible exact BX.below _ | with_reducible refine bl_set ?_ (by first | (exact Nat.le_refl _) | (simp; done) | (simp; omega)) _ | assumption))))).mono ?_; rintro e w' ⟨rfl, hb⟩; obtain ⟨yy, rfl⟩ := bx_of hb; clear hb; have hgz2 : gr < yy.w.heap.size := yy.lt_size (by first | exact hgy | (simp; omega)); have r0 : yy.w.cell? ⟨gr, 0, none⟩ = some (.int .i64 (line : Int)) := (yy.cell gr 0 (by first | exact hgy | (simp; omega))).trans (by first | exact k0 | go_simp); have r1 : yy.w.cell? ⟨gr, 1, none⟩ = some (.int .i64 (lines : Int)) := (yy.cell gr 1 (by first | exact hgy | (simp; omega))).trans (by first | exact k1 | go_simp); have r2 : yy.w.cell? ⟨gr, 2, none⟩ = some (.int .u64 size) := (yy.cell gr 2 (by first | exact hgy | (simp; omega))).trans (by first | exact k2 | go_simp)))
        all_goals go_wp2
        all_goals go_meet
        all_goals first
          | exact recRelA (by (repeat (first | with_reducible exact Below.refl _ _ | with_reducible refine bl_alloc ?_ _ | with_reducible refine bl_drew ?_ | with_reducible refine bl_drewN ?_ _ | with_reducible refine bl_bx ?_ _ | with_reducible exact BX.below _ | with_reducible refine bl_set ?_ (by first | (exact Nat.le_refl _) | (simp; done) | (simp; omega)) _ | assumption)))
          | exact recRelB (by first | with_reducible exact (CB.new_at _ _ _ rfl).bx yy | with_reducible exact ((CB.new_at _ _ _ rfl).bx y).bx yy | exact (((CB.new_at _ _ _ rfl).drew).bx y).bx yy) (by (repeat (first | with_reducible exact Below.refl _ _ | with_reducible refine bl_alloc ?_ _ | with_reducible refine bl_drew ?_ | with_reducible refine bl_drewN ?_ _ | with_reducible refine bl_bx ?_ _ | with_reducible exact BX.below _ | with_reducible refine bl_set ?_ (by first | (exact Nat.le_refl _) | (simp; done) | (simp; omega)) _ | assumption))) (by first | exact Nat.le_refl _ | exact hys | (simp; omega))
      case rest =>
        obtain ⟨gd, rfl, rfl, hCd, hBd⟩ := hcut
        have d0 : wc.cell? ⟨gd, 0, none⟩ = some (.int .u8 1) := hCd.cell 0
        have d1 : wc.cell? ⟨gd, 1, none⟩ = some (.slice none 0 0) := hCd.cell 1
        have d2 : wc.cell? ⟨gd, 2, none⟩ = some (.slice none 0 0) := hCd.cell 2
        have hgd : gd < wc.heap.size := hCd.lt
        have HBd := Lib.hid hBd
        clear hCd hBd y0 y1 y2
        go_wp2_with (at_builtin; refine wpList_append_sl rfl (.tmp 26) (.tmp 28) 150 rfl 154 (.agg #[.int .u8 0, .slice none 0 0, .slice none 0 0]) 3 56 rfl (by omega) Tryz.underlying150 info_rec (by omega) A j c (recs j) ⟨wc.heap.size, 0, none⟩ 1 1 [.int .u8 1, .slice none 0 0, .slice none 0 0] rfl rfl (HS.out.keep (fun b hb => (bl_alloc HBd.out _).block b (HS.out.lt hb))) rfl (by omega) (cells_three wc 154 _ _ _) rec_one (by omega) ?_; intro A4 c4 w4 HO4 HC4 HW4 HG4)
        go_roundw
        case rel =>
          refine ⟨j + 1, A4, c4, by omega, by go_num, rfl, ?_, ?_, fun b hb => ?_⟩
          · rw [recs_succ]; exact HO4.out
          · exact bl_ch (HB.out.trans ((bl_alloc HBd.out _).mono HB.out.size)) HC4.out (fun b hb => HO.out b hb)
          · have h1 := HB.out.size
            have h2 := HBd.out.size
            rcases HW4.out b hb with h | h
            · exact HO.out b h
            · rw [h]; simp; omega
        case measure => simp [intOf]; omega
    · obtain rfl : j = m := by omega
      clear y0 y1 y2
      go_wp2
      refine bodyPost_ret (v := .tuple #[.slice A j c, .bool true]) (by simp [results, Tryz.results80, go_sem]) rfl ⟨A, c, rfl, HS.out, HBA.out, fun b hb => by have := HO.out b hb; have := HBW0.out.size; omega⟩
end Go.Proofs.YtjaohgnloddgfaaGreatDoor
