/- Contract of lay of the laws on bitmaps. -/
import Derived.Test.YtbhkdngbgokilaaDoorBmI
namespace Go.Proofs.YtbhkdngbgokilaaDoor
open Go.RowKit
set_option linter.unusedVariables false

/-- What lay leaves. -/
def LayPost (w : World) (xs : List Int) (e : Ending) (w' : World) : Prop :=
  ∃ d t S, e = .returned (.tuple #[.pointer (some ⟨d, 0, none⟩), .pointer (some ⟨t 0, 0, none⟩)]) ∧ DV (fun b => w.heap.size < b) d t w' S ∧ On S 12 xs 9 ∧ Below w.heap.size w w'
set_option maxRecDepth 100000 in
set_option maxHeartbeats 4000000 in
theorem lay20 (w : World) (B At : Int) (hAt : -9223372036854775808 ≤ At ∧ At < 9223372036854775808) (A : Option Addr) (n c : Nat) (ws : List Int) (hw : ws.length = n) (hnc : n ≤ 9223372036854775807) (hR : Rd .u64 w A ws) :
    Calls Tryd.prog 11 #[inv20 B At A n c] w (LayPost w (layW At ws (min n 9))) := by
  obtain ⟨t1, t2⟩ := hAt
  obtain ⟨M, hM⟩ : ∃ M, min n 9 = M := ⟨_, rfl⟩
  have hM1 : M ≤ n := by omega
  have hM2 : M ≤ 9 := by omega
  have hM3 : M = n ∨ M = 9 := by omega
  rw [hM]
  clear hM
  have HW := Lib.hid hw
  have HR := Lib.hid hR
  clear hw hR
  unfold inv20
  go_enter Tryd.func11, Tryd.ntmps11
  go_wp2_with (first
    | (go_at_call 37; refine (devNew _ 12 (by omega) (by omega)).mono ?_; rintro e w1 ⟨d, L, rfl, hD, hb, hF⟩; have HB := Lib.hid hb; have HV : Hid (DV (fun b => w.heap.size < b) d L.t w1 (newS (List.replicate (8 * 12) 0) 12)) := ⟨(fun b hb' => by have := hb.size; simp at this; omega), L, rfl, hD, (fun b hb' => by have := hF b hb'; simp at this; omega)⟩; clear hb hD hF)
    | (go_at_call 35; refine (vThread HV.out 0 (by omega)).mono ?_; rintro e w' ⟨rfl, rfl⟩))
  have hc1 : CB w1 w.heap.size 24 #[.int .i64 B, .int .i64 At, .slice A n c] := (CB.new w 24 #[.int .i64 B, .int .i64 At, .slice A n c]).below HB.out
  have hb1 : Below w.heap.size w w1 := (show Below w.heap.size w (w.alloc (.cells #[.int .i64 B, .int .i64 At, .slice A n c] 24)) by (repeat (first | with_reducible exact Below.refl _ _ | with_reducible refine bl_alloc ?_ _ | with_reducible refine bl_drew ?_ | with_reducible refine bl_drewN ?_ _ | with_reducible refine bl_bx ?_ _ | with_reducible exact BX.below _ | with_reducible refine bl_set ?_ (by first | (exact Nat.le_refl _) | (simp; done) | (simp; omega)) _ | assumption))).trans (HB.out.mono (by simp))
  have HI0 : Hid (∃ S, DV (fun b => w.heap.size < b) d L.t w1 S ∧ On S 12 (layW At ws 0) 0 ∧ CB w1 w.heap.size 24 #[.int .i64 B, .int .i64 At, .slice A n c] ∧ Below w.heap.size w w1) := ⟨_, HV.out, new_on _ 12 (by simp), hc1, hb1⟩
  obtain ⟨g, hg⟩ : ∃ g, w.heap.size = g := ⟨_, rfl⟩
  obtain ⟨T, hT⟩ : ∃ T, L.t 0 = T := ⟨_, rfl⟩
  have HG := Lib.hid hg
  rw [hg] at HI0
  rw [hg, hT]
  clear hc1 hb1 HV HB hg
  go_loopw [7, 25, 26, 27, 28, 29, 30, 31, 32, 33, 34, 35, 36, 37, 38, 39, 40, 41, 42, 43, 44, 45, 46, 47, 48, 49, 50, 51, 52, 53, 54, 55, 56, 57, 58, 59, 60, 61, 62, 63] (fun i _ _ _ _ _ _ _ _ _ _ _ _ _ _ _ _ _ _ _ _ _ _ _ _ _ _ _ _ _ _ _ _ _ _ _ _ _ _ _ wr => ∃ k : Nat, k ≤ M ∧ i = .int .i64 k ∧ ∃ S, DV (fun b => g < b) d L.t wr S ∧ On S 12 (layW At ws k) k ∧ CB wr g 24 #[.int .i64 B, .int .i64 At, .slice A n c] ∧ Below g w wr) (fun i _ _ _ _ _ _ _ _ _ _ _ _ _ _ _ _ _ _ _ _ _ _ _ _ _ _ _ _ _ _ _ _ _ _ _ _ _ _ _ _ => 9 - (intOf i).toNat)
  case atStart => exact ⟨0, by omega, rfl, HI0.out⟩
  case round =>
    clear HI0
    obtain ⟨k, hk, rfl, S, hV, hO, hC, hB⟩ := hrel
    have b0 := hC.cell 0
    have b1 := hC.cell 1
    have b2 := hC.cell 2
    have bl := hC.lt
    have HV := Lib.hid hV
    have HO := Lib.hid hO
    have HC := Lib.hid hC
    have HB := Lib.hid hB
    clear hV hO hC hB
    by_cases hin : k < M
    · have hi1 : (k : Int) < (n : Int) := by omega
      have hi2 : (k : Int) < 9 := by omega
      by_cases hat : 0 ≤ At ∧ At < 96 ∧ At + (k : Int) < 96
      · obtain ⟨a1, a2, a3⟩ := hat
        have a1' : At ≥ 0 := a1
        obtain ⟨a, rfl⟩ := Int.eq_ofNat_of_zero_le a1
        have hkl : k < ws.length := by rw [HW.out]; omega
        obtain ⟨bb, o, hA, hbb, hc⟩ := HR.out.at_ hkl
        have hgw := HG.out
        have hc' : wr.cell? ⟨bb, o + k, none⟩ = some (.int .u64 ws[k]) := (HB.out.cell (p := ⟨bb, o + k, none⟩) (by show bb < g; omega)).trans hc
        have hbl : bb < wr.heap.size := by omega
        have HST : Hid (layW (a : Int) ws (k + 1) = (layW (a : Int) ws k).set (a + k) ws[k]) := by
          show _ = _
          rw [layW, if_pos ⟨a1, a2, a3⟩, List.getElem?_eq_getElem hkl]
          congr 1
        obtain ⟨v, hv⟩ : ∃ v, ws[k] = v := ⟨_, rfl⟩
        rw [hv] at hc' HST
        have e1 : IntKind.u64.wrap ((a : Int) + (k : Int)) = (a : Int) + (k : Int) := IntWalk.u64_in _ (by omega)
        have e2 : IntKind.u64.wrap (8 * ((a : Int) + (k : Int))) = 8 * ((a : Int) + (k : Int)) := IntWalk.u64_in _ (by omega)
        have hon := HO.out.store 0 (a + k) (by omega) v
        rw [show ((a + k : Nat) : Int) = (a : Int) + (k : Int) by omega] at hon
        have HON := Lib.hid hon
        have hkn : k < n := by omega
        subst hA
        clear hv hc hon
        go_upto_region 9 with (fail)
        refine wp_region_still_n 12 (by kernel_rfl) (by kernel_rfl) ?_
        simp only [List.take_succ_cons, List.take_zero, List.drop_succ_cons, List.drop_zero]
        repeat (go_big_quiet_step (fail))
        refine wpQuiet_nil ?_
        rintro _ ⟨nq, rfl⟩
        have HSTO : Hid (Calls Tryd.prog 25 #[.pointer (some ⟨T, 0, none⟩), .int .u64 (8 * ((a : Int) + (k : Int))), .int .u64 v] (wr.drewN nq) fun e w' => e = .returned (.tuple #[]) ∧ DV (fun b => g < b) d L.t w' (S.store 0 (8 * ((a : Int) + (k : Int))) v) ∧ Ch (fun b => g < b) (wr.drewN nq) w') := by
          have := storeV (HV.out.drewN nq) 0 (by omega) HO.out.good (by omega) (8 * ((a : Int) + (k : Int))) v (by omega)
          rwa [hT] at this
        go_wp2_with (go_at_call 25; refine HSTO.out.mono ?_; rintro e w2 ⟨rfl, hV2, hC2⟩; have HV2 := Lib.hid hV2; have HC2 := Lib.hid hC2; clear hV2 hC2)
        refine ⟨⟨k + 1, by omega, by go_num, _, HV2.out, ?_, (HC.out.drewN nq).ch HC2.out (Nat.lt_irrefl g), ?_⟩, by simp [intOf]; omega⟩
        · rw [HST.out]; exact HON.out
        · exact (below_drewN HB.out nq).trans (HC2.out.to_below (Nat.le_of_lt bl) (fun b hb => Nat.le_of_lt hb))
      · have HST : Hid (layW At ws (k + 1) = layW At ws k) := by show _ = _; rw [layW, if_neg hat]
        by_cases a1 : At ≥ 0
        · by_cases a2 : At < 96
          · have a3 : ¬ At + (k : Int) < 96 := fun h => hat ⟨a1, a2, h⟩
            go_wp2
            exact ⟨⟨k + 1, by omega, by go_num, S, HV.out, by rw [HST.out]; exact HO.out.mono (Nat.le_succ k), HC.out, HB.out⟩, by simp [intOf]; omega⟩
          · go_wp2
            exact ⟨⟨k + 1, by omega, by go_num, S, HV.out, by rw [HST.out]; exact HO.out.mono (Nat.le_succ k), HC.out, HB.out⟩, by simp [intOf]; omega⟩
        · go_wp2
          exact ⟨⟨k + 1, by omega, by go_num, S, HV.out, by rw [HST.out]; exact HO.out.mono (Nat.le_succ k), HC.out, HB.out⟩, by simp [intOf]; omega⟩
    · obtain rfl : k = M := by omega
      have HEND : Hid (LayPost w (layW At ws k) (.returned (.tuple #[.pointer (some ⟨d, 0, none⟩), .pointer (some ⟨L.t 0, 0, none⟩)])) wr) := ⟨d, L.t, S, rfl, by rw [HG.out]; exact HV.out, HO.out.mono (by omega), by rw [HG.out]; exact HB.out⟩
      rw [hT] at HEND
      by_cases hi1 : (k : Int) < (n : Int)
      · have hi2 : ¬ (k : Int) < 9 := by omega
        go_wp2
        go_ret2
        exact HEND.out
      · go_wp2
        go_ret2
        exact HEND.out
end Go.Proofs.YtbhkdngbgokilaaDoor
