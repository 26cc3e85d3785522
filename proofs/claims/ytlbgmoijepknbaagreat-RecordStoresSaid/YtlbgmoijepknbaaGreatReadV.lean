/- Contract of Read of the record of the statements, out of a thread of a device. -/
import Derived.Test.YtlbgmoijepknbaaGreatDevL
import Derived.Test.YtlbgmoijepknbaaGreatDecB
namespace Go.Proofs.YtlbgmoijepknbaaGreat
open Go.RowKit
set_option linter.unusedVariables false

set_option maxHeartbeats 400000 in
theorem sizeV_c (w : World) :
    Calls Tryz.prog 25 #[.iface 99 codecV] w fun e w' => e = .returned (.int .i64 10) ∧ Below w.heap.size w w' := by
  unfold codecV
  go_enter Tryz.func25, Tryz.ntmps25
  go_wp2_with (go_at_call 117; refine (pairBWords _).mono ?_; rintro e w' ⟨rfl, hb⟩)
  go_ret
  exact ⟨rfl, hb⟩

/-- The error for an offset of 10 words in a memory of sz bytes. -/
def place (off sz : Int) : Int := if off % 8 ≠ 0 then 1 else if sz < off ∨ (sz - off) / 8 < 10 then 2 else 0

def vNone (e : Int) : Ending := .returned (.tuple #[.agg #[.bool false, .slice none 0 0, .pointer none], .int .i64 e])

set_option maxRecDepth 100000 in
set_option maxHeartbeats 1000000 in
theorem readV_arg (w : World) (t : TypeId) (m : Value) (off : Int) (h0 : 0 ≤ off) (h8 : off % 8 ≠ 0) :
    Calls Tryz.prog 14 #[.iface t m, .int .u64 off, .iface 99 codecV] w fun e w' => e = vNone 1 ∧ Below w.heap.size w w' := by
  have e1 : (off % 8 != 0) = true := by simpa using h8
  clear h8
  go_enter Tryz.func14, Tryz.ntmps14
  go_wp2_with (go_at_call 25; refine (sizeV_c _).mono ?_; rintro e w' ⟨rfl, hb⟩; obtain ⟨x, rfl⟩ := bx_of hb; clear hb)
  have hx : w.heap.size + 1 < x.w.heap.size := x.lt_size (by simp)
  have hx' : w.heap.size < x.w.heap.size := by omega
  have d0 : x.w.cell? ⟨w.heap.size, 0, none⟩ = some (.bool false) := by go_simp
  have d1 : x.w.cell? ⟨w.heap.size, 1, none⟩ = some (.slice none 0 0) := by go_simp
  have d2 : x.w.cell? ⟨w.heap.size, 2, none⟩ = some (.pointer none) := by go_simp
  go_wp2
  exact bodyPost_ret (v := .tuple #[.agg #[.bool false, .slice none 0 0, .pointer none], .int .i64 1]) (by simp [results, Tryz.results14, go_sem, d0, d1, d2]) rfl ⟨rfl, (by repeat (first | with_reducible exact Below.refl _ _ | with_reducible refine bl_alloc ?_ _ | with_reducible refine bl_drew ?_ | with_reducible refine bl_drewN ?_ _ | with_reducible refine bl_bx ?_ _ | with_reducible exact BX.below _ | with_reducible refine bl_set ?_ (by first | (exact Nat.le_refl _) | (simp; done) | (simp; omega)) _ | assumption))⟩

set_option maxRecDepth 100000 in
set_option maxHeartbeats 1000000 in
theorem readV_range (w : World) (d : Nat) (L : Lay) (S : DevS) (h : Dev w d L S) (i : Nat) (hi : i < 8) (off : Int) (h0 : 0 ≤ off) (h64 : off < 18446744073709551616) (h8 : off % 8 = 0) (hr : (S.lns.length : Int) * 64 < off ∨ ((S.lns.length : Int) * 64 - off) / 8 < 10) :
    Calls Tryz.prog 14 #[.iface 53 (.pointer (some ⟨L.t i, 0, none⟩)), .int .u64 off, .iface 99 codecV] w fun e w' => e = vNone 2 ∧ Below w.heap.size w w' := by
  have H := Lib.hid h
  have hn := h.nl
  have e1 : (off % 8 != 0) = false := by simpa using h8
  clear h h8
  by_cases hlt : (S.lns.length : Int) * 64 < off
  · clear hr
    go_enter Tryz.func14, Tryz.ntmps14
    go_wp2_with (first | (go_at_call 25; refine (sizeV_c _).mono ?_; rintro e w' ⟨rfl, hb⟩; obtain ⟨x, rfl⟩ := bx_of hb; clear hb) | (go_at_call 87; refine (thSize _ d L S (H.out.below (by (repeat (first | with_reducible exact Below.refl _ _ | with_reducible refine bl_alloc ?_ _ | with_reducible refine bl_drew ?_ | with_reducible refine bl_drewN ?_ _ | with_reducible refine bl_bx ?_ _ | with_reducible exact BX.below _ | with_reducible refine bl_set ?_ (by first | (exact Nat.le_refl _) | (simp; done) | (simp; omega)) _ | assumption)))) i hi).mono ?_; rintro e w' ⟨rfl, rfl⟩))
    have hx : w.heap.size + 1 < x.w.heap.size := x.lt_size (by simp)
    have hx' : w.heap.size < x.w.heap.size := by omega
    have d0 : x.w.cell? ⟨w.heap.size, 0, none⟩ = some (.bool false) := by go_simp
    have d1 : x.w.cell? ⟨w.heap.size, 1, none⟩ = some (.slice none 0 0) := by go_simp
    have d2 : x.w.cell? ⟨w.heap.size, 2, none⟩ = some (.pointer none) := by go_simp
    go_wp2
    exact bodyPost_ret (v := .tuple #[.agg #[.bool false, .slice none 0 0, .pointer none], .int .i64 2]) (by simp [results, Tryz.results14, go_sem, d0, d1, d2]) rfl ⟨rfl, (by repeat (first | with_reducible exact Below.refl _ _ | with_reducible refine bl_alloc ?_ _ | with_reducible refine bl_drew ?_ | with_reducible refine bl_drewN ?_ _ | with_reducible refine bl_bx ?_ _ | with_reducible exact BX.below _ | with_reducible refine bl_set ?_ (by first | (exact Nat.le_refl _) | (simp; done) | (simp; omega)) _ | assumption))⟩
  · have hw1 : IntKind.u64.wrap ((S.lns.length : Int) * 64 - off) = (S.lns.length : Int) * 64 - off := IntWalk.u64_in _ (by omega)
    have hw2 : IntKind.u64.wrap (((S.lns.length : Int) * 64 - off) / 8) = ((S.lns.length : Int) * 64 - off) / 8 := IntWalk.u64_in _ (by omega)
    have hq : ((S.lns.length : Int) * 64 - off).tdiv 8 = ((S.lns.length : Int) * 64 - off) / 8 := Int.tdiv_eq_ediv_of_nonneg (by omega)
    have hr2 : ((S.lns.length : Int) * 64 - off) / 8 < 10 := by omega
    clear hr
    go_enter Tryz.func14, Tryz.ntmps14
    go_wp2_with (first | (go_at_call 25; refine (sizeV_c _).mono ?_; rintro e w' ⟨rfl, hb⟩; obtain ⟨x, rfl⟩ := bx_of hb; clear hb) | (go_at_call 87; refine (thSize _ d L S (H.out.below (by (repeat (first | with_reducible exact Below.refl _ _ | with_reducible refine bl_alloc ?_ _ | with_reducible refine bl_drew ?_ | with_reducible refine bl_drewN ?_ _ | with_reducible refine bl_bx ?_ _ | with_reducible exact BX.below _ | with_reducible refine bl_set ?_ (by first | (exact Nat.le_refl _) | (simp; done) | (simp; omega)) _ | assumption)))) i hi).mono ?_; rintro e w' ⟨rfl, rfl⟩))
    have hx : w.heap.size + 1 < x.w.heap.size := x.lt_size (by simp)
    have hx' : w.heap.size < x.w.heap.size := by omega
    have d0 : x.w.cell? ⟨w.heap.size, 0, none⟩ = some (.bool false) := by go_simp
    have d1 : x.w.cell? ⟨w.heap.size, 1, none⟩ = some (.slice none 0 0) := by go_simp
    have d2 : x.w.cell? ⟨w.heap.size, 2, none⟩ = some (.pointer none) := by go_simp
    go_wp2
    exact bodyPost_ret (v := .tuple #[.agg #[.bool false, .slice none 0 0, .pointer none], .int .i64 2]) (by simp [results, Tryz.results14, go_sem, d0, d1, d2]) rfl ⟨rfl, (by repeat (first | with_reducible exact Below.refl _ _ | with_reducible refine bl_alloc ?_ _ | with_reducible refine bl_drew ?_ | with_reducible refine bl_drewN ?_ _ | with_reducible refine bl_bx ?_ _ | with_reducible exact BX.below _ | with_reducible refine bl_set ?_ (by first | (exact Nat.le_refl _) | (simp; done) | (simp; omega)) _ | assumption))⟩

set_option maxRecDepth 100000 in
set_option maxHeartbeats 1000000 in
theorem readV_err (w : World) (d : Nat) (L : Lay) (S : DevS) (h : Dev w d L S) (i : Nat) (hi : i < 8) (off : Int) (h0 : 0 ≤ off) (h8 : off % 8 = 0) (hr : off + 80 ≤ (S.lns.length : Int) * 64) (he : (S.thr i).err ≠ 0) :
    Calls Tryz.prog 14 #[.iface 53 (.pointer (some ⟨L.t i, 0, none⟩)), .int .u64 off, .iface 99 codecV] w fun e w' => e = vNone (S.thr i).err ∧ Below w.heap.size w w' := by
  have H := Lib.hid h
  have hn := h.nl
  have e1 : (off % 8 != 0) = false := by simpa using h8
  have e2 : ((S.thr i).err != 0) = true := by simpa using he
  have hlt : ¬ (S.lns.length : Int) * 64 < off := by omega
  have hw1 : IntKind.u64.wrap ((S.lns.length : Int) * 64 - off) = (S.lns.length : Int) * 64 - off := IntWalk.u64_in _ (by omega)
  have hw2 : IntKind.u64.wrap (((S.lns.length : Int) * 64 - off) / 8) = ((S.lns.length : Int) * 64 - off) / 8 := IntWalk.u64_in _ (by omega)
  have hq : ((S.lns.length : Int) * 64 - off).tdiv 8 = ((S.lns.length : Int) * 64 - off) / 8 := Int.tdiv_eq_ediv_of_nonneg (by omega)
  have hr2 : ¬ ((S.lns.length : Int) * 64 - off) / 8 < 10 := by omega
  clear h h8 he hr
  go_enter Tryz.func14, Tryz.ntmps14
  go_wp2_with (first | (go_at_call 25; refine (sizeV_c _).mono ?_; rintro e w' ⟨rfl, hb⟩; obtain ⟨x, rfl⟩ := bx_of hb; clear hb) | (go_at_call 87; refine (thSize _ d L S (H.out.below (by (repeat (first | with_reducible exact Below.refl _ _ | with_reducible refine bl_alloc ?_ _ | with_reducible refine bl_drew ?_ | with_reducible refine bl_drewN ?_ _ | with_reducible refine bl_bx ?_ _ | with_reducible exact BX.below _ | with_reducible refine bl_set ?_ (by first | (exact Nat.le_refl _) | (simp; done) | (simp; omega)) _ | assumption)))) i hi).mono ?_; rintro e w' ⟨rfl, rfl⟩) | (go_at_call 83; refine (thErr _ d L S (H.out.below (by (repeat (first | with_reducible exact Below.refl _ _ | with_reducible refine bl_alloc ?_ _ | with_reducible refine bl_drew ?_ | with_reducible refine bl_drewN ?_ _ | with_reducible refine bl_bx ?_ _ | with_reducible exact BX.below _ | with_reducible refine bl_set ?_ (by first | (exact Nat.le_refl _) | (simp; done) | (simp; omega)) _ | assumption)))) i hi).mono ?_; rintro e w' ⟨rfl, rfl⟩))
  have hx : w.heap.size + 1 < x.w.heap.size := x.lt_size (by simp)
  have hx' : w.heap.size < x.w.heap.size := by omega
  have d0 : x.w.cell? ⟨w.heap.size, 0, none⟩ = some (.bool false) := by go_simp
  have d1 : x.w.cell? ⟨w.heap.size, 1, none⟩ = some (.slice none 0 0) := by go_simp
  have d2 : x.w.cell? ⟨w.heap.size, 2, none⟩ = some (.pointer none) := by go_simp
  go_wp2
  exact bodyPost_ret (v := .tuple #[.agg #[.bool false, .slice none 0 0, .pointer none], .int .i64 (S.thr i).err]) (by simp [results, Tryz.results14, go_sem, d0, d1, d2]) rfl ⟨rfl, (by repeat (first | with_reducible exact Below.refl _ _ | with_reducible refine bl_alloc ?_ _ | with_reducible refine bl_drew ?_ | with_reducible refine bl_drewN ?_ _ | with_reducible refine bl_bx ?_ _ | with_reducible exact BX.below _ | with_reducible refine bl_set ?_ (by first | (exact Nat.le_refl _) | (simp; done) | (simp; omega)) _ | assumption))⟩

/-- What Read of a device that is on returns. -/
def RdVPost (w : World) (r : Option (Bool × List ByteArray × Option Int)) (e : Ending) (w' : World) : Prop :=
  Below w.heap.size w w' ∧ match r with
  | some (f, l, o) => ∃ A' c' p, e = .returned (.tuple #[.agg #[.bool f, .slice A' l.length c', .pointer p], .int .i64 0]) ∧ RdV w' A' (strVals l) ∧ PtrI w' p o
  | none => e = vNone 11
/-- The words that are read so far. -/
def part10 (ys : List Int) (j : Nat) : List Int := ys.take j ++ List.replicate (10 - j) 0
theorem part10_set (ys : List Int) (j : Nat) (hl : ys.length = 10) (hj : j < 10) : (part10 ys j).set j (ys[j]'(by omega)) = part10 ys (j + 1) := by
  unfold part10
  apply List.ext_getElem
  · simp; omega
  · intro n h1 h2
    simp only [List.getElem_set, List.getElem_append, List.length_take, List.getElem_take, List.getElem_replicate]
    by_cases hn : j = n
    · subst hn
      rw [if_pos rfl, dif_pos (by omega)]
    · rw [if_neg hn]
      by_cases h3 : n < j
      · rw [dif_pos (by omega), dif_pos (by omega)]
      · rw [dif_neg (by omega), dif_neg (by omega)]


set_option maxRecDepth 100000 in
set_option maxHeartbeats 2000000 in
theorem readV_ok (w : World) (d : Nat) (L : Lay) (S : DevS) (h : Dev w d L S) (i : Nat) (hi : i < 8) (k : Nat) (hk : k + 10 ≤ S.cur.length) (he : (S.thr i).err = 0) (hO : S.off = false) (hu : U64s S.cur) :
    Calls Tryz.prog 14 #[.iface 53 (.pointer (some ⟨L.t i, 0, none⟩)), .int .u64 (8 * (k : Int)), .iface 99 codecV] w (RdVPost w (decV ((S.cur.drop k).take 10))) := by
  have H := Lib.hid h
  have hn := h.nl
  have hnc := h.nc
  obtain ⟨ys, hys⟩ : ∃ ys, (S.cur.drop k).take 10 = ys := ⟨_, rfl⟩
  have hyl : ys.length = 10 := by rw [← hys]; simp; omega
  have hyg : ∀ j (hj : j < ys.length) (hj' : k + j < S.cur.length), ys[j] = S.cur[k + j] := by
    intro j hj hj'
    subst hys
    simp
  have hyu : U64s ys := by rw [← hys]; intro x hx; exact hu x (List.mem_of_mem_drop (List.mem_of_mem_take hx))
  rw [hys]
  have e1 : ((8 * (k : Int)) % 8 != 0) = false := by simp
  have e2 : ((S.thr i).err != 0) = false := by simpa using he
  have hlt : ¬ (S.lns.length : Int) * 64 < 8 * (k : Int) := by omega
  have hw1 : IntKind.u64.wrap ((S.lns.length : Int) * 64 - 8 * (k : Int)) = (S.lns.length : Int) * 64 - 8 * (k : Int) := IntWalk.u64_in _ (by omega)
  have hw2 : IntKind.u64.wrap (((S.lns.length : Int) * 64 - 8 * (k : Int)) / 8) = ((S.lns.length : Int) * 64 - 8 * (k : Int)) / 8 := IntWalk.u64_in _ (by omega)
  have hq : ((S.lns.length : Int) * 64 - 8 * (k : Int)).tdiv 8 = ((S.lns.length : Int) * 64 - 8 * (k : Int)) / 8 := Int.tdiv_eq_ediv_of_nonneg (by omega)
  have hr2 : ¬ ((S.lns.length : Int) * 64 - 8 * (k : Int)) / 8 < 10 := by omega
  have hmk := fun W => run_make_z (P := Tryz.prog) 27 34 .u64 .i64 .i64 10 10 (by omega) Tryz.underlying27 8 info_u64 (by omega) (by omega) W
  have HE := Lib.hid he
  have HG := Lib.hid hyg
  have HL := Lib.hid hyl
  have HU := Lib.hid hyu
  clear h he hyg hyl hyu hys hu
  go_enter Tryz.func14, Tryz.ntmps14
  go_wp2_with (first | (go_at_call 25; refine (sizeV_c _).mono ?_; rintro e w' ⟨rfl, hb⟩; obtain ⟨x, rfl⟩ := bx_of hb; clear hb) | (go_at_call 87; refine (thSize _ d L S (H.out.below (by (repeat (first | with_reducible exact Below.refl _ _ | with_reducible refine bl_alloc ?_ _ | with_reducible refine bl_drew ?_ | with_reducible refine bl_drewN ?_ _ | with_reducible refine bl_bx ?_ _ | with_reducible exact BX.below _ | with_reducible refine bl_set ?_ (by first | (exact Nat.le_refl _) | (simp; done) | (simp; omega)) _ | assumption)))) i hi).mono ?_; rintro e w' ⟨rfl, rfl⟩) | (go_at_call 83; refine (thErr _ d L S (H.out.below (by (repeat (first | with_reducible exact Below.refl _ _ | with_reducible refine bl_alloc ?_ _ | with_reducible refine bl_drew ?_ | with_reducible refine bl_drewN ?_ _ | with_reducible refine bl_bx ?_ _ | with_reducible exact BX.below _ | with_reducible refine bl_set ?_ (by first | (exact Nat.le_refl _) | (simp; done) | (simp; omega)) _ | assumption)))) i hi).mono ?_; rintro e w' ⟨rfl, rfl⟩))
  have hxs : w.heap.size + 1 < x.w.heap.size := x.lt_size (by simp)
  have hxs0 : w.heap.size < x.w.heap.size := by omega
  obtain ⟨g, hg⟩ : ∃ g, x.w.heap.size = g := ⟨_, rfl⟩
  have hI0 : IB .u64 34 (x.w.alloc (.cells (ia .u64 [0, 0, 0, 0, 0, 0, 0, 0, 0, 0]) 34)) g (part10 ys 0) := by rw [← hg]; exact IB.new x.w _
  obtain ⟨W, hW⟩ : ∃ W, x.w.alloc (.cells (ia .u64 [0, 0, 0, 0, 0, 0, 0, 0, 0, 0]) 34) = W := ⟨_, rfl⟩
  have hDW : Dev W d L S := by rw [← hW]; exact (H.out.below (by (repeat (first | with_reducible exact Below.refl _ _ | with_reducible refine bl_alloc ?_ _ | with_reducible refine bl_drew ?_ | with_reducible refine bl_drewN ?_ _ | with_reducible refine bl_bx ?_ _ | with_reducible exact BX.below _ | with_reducible refine bl_set ?_ (by first | (exact Nat.le_refl _) | (simp; done) | (simp; omega)) _ | assumption))))
  have hBW : Below w.heap.size w W := by rw [← hW]; (repeat (first | with_reducible exact Below.refl _ _ | with_reducible refine bl_alloc ?_ _ | with_reducible refine bl_drew ?_ | with_reducible refine bl_drewN ?_ _ | with_reducible refine bl_bx ?_ _ | with_reducible exact BX.below _ | with_reducible refine bl_set ?_ (by first | (exact Nat.le_refl _) | (simp; done) | (simp; omega)) _ | assumption))
  have hC0 : CB W w.heap.size 42 #[.bool false, .slice none 0 0, .pointer none] := by rw [← hW]; exact ((((CB.new w _ _).alloc _).bx x).alloc _)
  have hC1 : CB W (w.heap.size + 1) 42 #[.bool false, .slice none 0 0, .pointer none] := by rw [← hW]; exact (((CB.new_at _ _ _ (by simp)).bx x).alloc _)
  rw [hW] at hI0
  rw [hg, hW]
  have HI0 := Lib.hid hI0
  have HDW := Lib.hid hDW
  have HBW := Lib.hid hBW
  have HC0 := Lib.hid hC0
  have HC1 := Lib.hid hC1
  have hgw : w.heap.size + 1 < g := by omega
  have hfg : ∀ b, Fp L b → ¬ At g b := fun b hb h => by have := H.out.fr b hb; have h' : b = g := h; omega
  have HFG := Lib.hid hfg
  clear hI0 hDW hBW hC0 hC1 hW hg hxs hxs0 hfg hmk
  go_loopw [56, 13, 57, 58, 59, 60, 61, 62, 63, 64, 65, 66, 67, 68, 69] (fun i _ _ _ _ _ _ _ _ _ _ _ _ _ _ wr => ∃ j : Nat, j ≤ 10 ∧ i = .int .i64 j ∧ IB .u64 34 wr g (part10 ys j) ∧ Ch (At g) W wr) (fun i _ _ _ _ _ _ _ _ _ _ _ _ _ _ _ => 10 - (intOf i).toNat)
  case atStart => exact ⟨0, by omega, rfl, HI0.out, Ch.refl _ _⟩
  case round =>
    obtain ⟨j, hj, rfl, hI, hCh⟩ := hrel
    have hgl := hI.lt
    have HI := Lib.hid hI
    have HCh := Lib.hid hCh
    have HD := Lib.hid (HDW.out.ch hCh HFG.out)
    by_cases hlt : j < 10
    · have hkj : k + j < S.cur.length := by omega
      have a1 : IntKind.u64.wrap (j : Int) = (j : Int) := IntWalk.u64_in _ (by omega)
      have a2 : IntKind.u64.wrap ((j : Int) * 8) = (j : Int) * 8 := IntWalk.u64_in _ (by omega)
      have a3 : IntKind.u64.wrap (8 * (k : Int) + (j : Int) * 8) = 8 * ((k + j : Nat) : Int) := by rw [IntWalk.u64_in _ (by omega)]; omega
      have hc := hI.cell (i := j) (by unfold part10; simp [HL.out]; omega)
      have hf := hI.frozen j
      clear hI hCh
      go_wp2_with (first | (go_at_call 86; refine (thLoad_ok _ d L S HD.out i hi hO (k + j) hkj).mono ?_; rintro e w' ⟨rfl, rfl⟩))
      go_roundw
      case rel =>
        refine ⟨j + 1, by omega, by go_num, ?_, HCh.out.set1 _ _⟩
        have h1 := HI.out.set j S.cur[k + j]
        have h2 := part10_set ys j HL.out hlt
        rw [HG.out j (by rw [HL.out]; exact hlt) hkj] at h2
        rw [h2] at h1
        exact h1
      case measure => simp [intOf]; omega
    · obtain rfl : j = 10 := by omega
      have hp : part10 ys 10 = ys := by unfold part10; rw [List.take_of_length_le (by rw [HL.out]; omega)]; simp
      rw [hp] at hI
      have HR := Lib.hid hI.rd0
      have HB := Lib.hid (bl_ch HBW.out hCh (fun b hb => by unfold At at hb; omega))
      have hK0 := HC0.out.ch hCh (by unfold At; omega)
      have hK1 := HC1.out.ch hCh (by unfold At; omega)
      have q0 := hK0.lt
      have q1 := hK1.lt
      have HK0 := Lib.hid hK0
      have HK1 := Lib.hid hK1
      clear hI hCh hp hK0 hK1
      have hdw : decW ys = decV ys := by unfold decW; rw [if_pos HL.out]
      have HPB := Lib.hid (pairBDecode_any wr (some ⟨g, 0, none⟩) 10 10 ys HL.out (by omega) HR.out HU.out)
      rw [hdw] at HPB
      clear hdw
      cases hE : decV ys with
      | none =>
        rw [hE] at HPB
        have HE2 := Lib.hid hE
        clear hE
        go_wp2_with (first | (go_at_call 83; refine (thErr _ d L S HD.out i hi).mono ?_; rintro e w' ⟨rfl, rfl⟩) | (go_at_call 115; refine HPB.out.mono ?_; rintro e w' ⟨hb, rfl⟩; obtain ⟨y, rfl⟩ := bx_of hb; clear hb; have zl0 := (HK0.out.bx y).lt; have zl1 := (HK1.out.bx y).lt; have z00 : y.w.cell? ⟨w.heap.size, 0, none⟩ = some (.bool false) := (HK0.out.bx y).cell 0; have zf00 := (HK0.out.bx y).frozen 0; have z01 : y.w.cell? ⟨w.heap.size, 1, none⟩ = some (.slice none 0 0) := (HK0.out.bx y).cell 1; have zf01 := (HK0.out.bx y).frozen 1; have z02 : y.w.cell? ⟨w.heap.size, 2, none⟩ = some (.pointer none) := (HK0.out.bx y).cell 2; have zf02 := (HK0.out.bx y).frozen 2; have z10 : y.w.cell? ⟨w.heap.size + 1, 0, none⟩ = some (.bool false) := (HK1.out.bx y).cell 0; have zf10 := (HK1.out.bx y).frozen 0; have z11 : y.w.cell? ⟨w.heap.size + 1, 1, none⟩ = some (.slice none 0 0) := (HK1.out.bx y).cell 1; have zf11 := (HK1.out.bx y).frozen 1; have z12 : y.w.cell? ⟨w.heap.size + 1, 2, none⟩ = some (.pointer none) := (HK1.out.bx y).cell 2; have zf12 := (HK1.out.bx y).frozen 2))
        exact bodyPost_ret (v := .tuple #[.agg #[.bool false, .slice none 0 0, .pointer none], .int .i64 11]) (by simp [results, Tryz.results14, go_sem, z00, z01, z02, zl0]) rfl (by unfold RdVPost; rw [HE2.out]; exact ⟨by have HB' := HB.out; (repeat (first | with_reducible exact Below.refl _ _ | with_reducible refine bl_alloc ?_ _ | with_reducible refine bl_drew ?_ | with_reducible refine bl_drewN ?_ _ | with_reducible refine bl_bx ?_ _ | with_reducible exact BX.below _ | with_reducible refine bl_set ?_ (by first | (exact Nat.le_refl _) | (simp; done) | (simp; omega)) _ | assumption)), rfl⟩)
      | some r =>
        obtain ⟨f, l, o⟩ := r
        rw [hE] at HPB
        have HE2 := Lib.hid hE
        clear hE
        go_wp2_with (first | (go_at_call 83; refine (thErr _ d L S HD.out i hi).mono ?_; rintro e w' ⟨rfl, rfl⟩) | (go_at_call 115; refine HPB.out.mono ?_; rintro e w' ⟨hb, A', c', p, rfl, hRl, hPp, hA2, hp2⟩; obtain ⟨y, rfl⟩ := bx_of hb; clear hb; have zl0 := (HK0.out.bx y).lt; have zl1 := (HK1.out.bx y).lt; have z00 : y.w.cell? ⟨w.heap.size, 0, none⟩ = some (.bool false) := (HK0.out.bx y).cell 0; have zf00 := (HK0.out.bx y).frozen 0; have z01 : y.w.cell? ⟨w.heap.size, 1, none⟩ = some (.slice none 0 0) := (HK0.out.bx y).cell 1; have zf01 := (HK0.out.bx y).frozen 1; have z02 : y.w.cell? ⟨w.heap.size, 2, none⟩ = some (.pointer none) := (HK0.out.bx y).cell 2; have zf02 := (HK0.out.bx y).frozen 2; have z10 : y.w.cell? ⟨w.heap.size + 1, 0, none⟩ = some (.bool false) := (HK1.out.bx y).cell 0; have zf10 := (HK1.out.bx y).frozen 0; have z11 : y.w.cell? ⟨w.heap.size + 1, 1, none⟩ = some (.slice none 0 0) := (HK1.out.bx y).cell 1; have zf11 := (HK1.out.bx y).frozen 1; have z12 : y.w.cell? ⟨w.heap.size + 1, 2, none⟩ = some (.pointer none) := (HK1.out.bx y).cell 2; have zf12 := (HK1.out.bx y).frozen 2; have HRl := Lib.hid hRl; have HPp := Lib.hid hPp; clear hRl hPp))
        refine bodyPost_ret (v := .tuple #[.agg #[.bool f, .slice A' l.length c', .pointer p], .int .i64 0]) (by simp [results, Tryz.results14, go_sem, z00, z01, z02, zl0]) rfl ?_
        unfold RdVPost
        rw [HE2.out]
        refine ⟨by have HB' := HB.out; (repeat (first | with_reducible exact Below.refl _ _ | with_reducible refine bl_alloc ?_ _ | with_reducible refine bl_drew ?_ | with_reducible refine bl_drewN ?_ _ | with_reducible refine bl_bx ?_ _ | with_reducible exact BX.below _ | with_reducible refine bl_set ?_ (by first | (exact Nat.le_refl _) | (simp; done) | (simp; omega)) _ | assumption)), A', c', p, rfl, ?_, ?_⟩
        · exact (((HRl.out.setCell (fun b hb => by have := hA2 b hb; show b ≠ w.heap.size; omega) _).setCell (fun b hb => by have := hA2 b hb; show b ≠ w.heap.size; omega) _).setCell (fun b hb => by have := hA2 b hb; show b ≠ w.heap.size; omega) _).alloc _
        · exact (((HPp.out.setCell (fun b hb => by have := hp2 b hb; show b ≠ w.heap.size; omega) _).setCell (fun b hb => by have := hp2 b hb; show b ≠ w.heap.size; omega) _).setCell (fun b hb => by have := hp2 b hb; show b ≠ w.heap.size; omega) _).below (bl_alloc (Below.refl _ _) _)
end Go.Proofs.YtlbgmoijepknbaaGreat
