/- Contract of From: the device of words out of their bytes. -/
import Derived.Test.YtljolgcmkejlnaaCrA
import Derived.Deep.Cut
namespace Go.Proofs.Ytljolgcmkejlnaa
open Go.RowKit
set_option linter.unusedVariables false

/-- What From leaves. -/
def FromPost (w : World) (S : DevS) (e : Ending) (w' : World) : Prop :=
  ∃ d L, e = .returned (.tuple #[.pointer (some ⟨d, 0, none⟩), .int .i64 0]) ∧ Dev w' d L S ∧ Below w.heap.size w w' ∧ ∀ b, Fp L b → w.heap.size ≤ b
set_option maxRecDepth 100000 in
set_option maxHeartbeats 2000000 in
theorem devFrom (w : World) (A : Option Addr) (n c : Nat) (ws : List Int) (h1 : 1 ≤ n) (h2 : n ≤ 4096) (hw : ws.length = 8 * n) (hf : Fits ws) (hR : Rd .u8 w A (bytesL ws)) :
    Calls Try.prog 49 #[.slice A (64 * n) c] w (FromPost w (newS ws n)) := by
  have HR := Lib.hid hR
  have HN := Lib.hid hw
  have HF := Lib.hid hf
  have hmk := fun W => run_make_z (P := Try.prog) 84 25 .u64 .i64 .i64 (8 * (n : Int)) (8 * n) (by omega) Try.underlying84 8 info_u64 (by omega) (by omega) W
  have q1 : (64 * (n : Int)) % 64 = 0 := by omega
  have q2 : (64 * (n : Int)) / 64 = (n : Int) := by omega
  have q3 : (64 * (n : Int)) / 8 = 8 * (n : Int) := by omega
  have q4 : ¬ (n : Int) > 4096 := by omega
  have q5 : ((64 * (n : Int)) == 0) = false := by simp; omega
  clear hR hw hf
  go_enter Try.func49, Try.ntmps49
  go_wp2
  have HI0 : Hid (IB .u64 25 (w.alloc (.cells (ia .u64 (List.replicate (8 * n) (0 : Int))) 25)) w.heap.size (partW ws 0)) := by
    show IB _ _ _ _ _
    rw [partW_zero, HN.out]; exact IB.new _ _
  have HB0 : Hid (Below w.heap.size w (w.alloc (.cells (ia .u64 (List.replicate (8 * n) (0 : Int))) 25))) := by show Below _ _ _; (repeat (first | with_reducible exact Below.refl _ _ | with_reducible refine bl_alloc ?_ _ | with_reducible refine bl_drew ?_ | with_reducible refine bl_drewN ?_ _ | with_reducible refine bl_bx ?_ _ | with_reducible exact BX.below _ | with_reducible refine bl_set ?_ (by first | (exact Nat.le_refl _) | (simp; done) | (simp; omega)) _ | assumption))
  obtain ⟨g, hg⟩ : ∃ g, w.heap.size = g := ⟨_, rfl⟩
  obtain ⟨W, hW⟩ : ∃ W, w.alloc (.cells (ia .u64 (List.replicate (8 * n) (0 : Int))) 25) = W := ⟨_, rfl⟩
  rw [hg, hW] at HI0
  rw [hW] at HB0
  rw [hg, hW]
  have HG := Lib.hid hg
  clear hW hg hmk
  go_loopw [26, 5, 6, 27, 28, 29, 30, 31, 32, 33, 34, 35, 36, 37, 38, 39, 40, 41, 42, 43, 44, 45] (fun i _ _ _ _ _ _ _ _ _ _ _ _ _ _ _ _ _ _ _ _ _ wr => ∃ k : Nat, k ≤ 64 * n ∧ i = .int .i64 k ∧ IB .u64 25 wr g (partW ws k) ∧ Below w.heap.size w wr) (fun i _ _ _ _ _ _ _ _ _ _ _ _ _ _ _ _ _ _ _ _ _ _ => 64 * n - (intOf i).toNat)
  case atStart => exact ⟨0, by omega, rfl, HI0.out, HB0.out⟩
  case round =>
    clear HI0 HB0
    obtain ⟨k, hk, rfl, hI, hB⟩ := hrel
    by_cases hlt : k < 64 * n
    · have hlt' : (k : Int) < 64 * (n : Int) := by omega
      have hk8 : k / 8 < ws.length := by rw [HN.out]; omega
      have hkn : k / 8 < 8 * n := by omega
      have hkb : k < (bytesL ws).length := by rw [length_bytesL, HN.out]; omega
      obtain ⟨b, o, rfl, hbb, hc⟩ := HR.out.at_ hkb
      rw [bytesL_get] at hc
      have hbw := hB.size
      have hc' : wr.cell? ⟨b, o + k, none⟩ = some (.int .u8 (byteAt ws k)) := (hB.cell (p := ⟨b, o + k, none⟩) hbb).trans hc
      have hbl : b < wr.heap.size := by omega
      have hcg : wr.cell? ⟨g, k / 8, none⟩ = some (.int .u64 (ws[k / 8] % 2 ^ (k % 8 * 8))) := by
        have h3 := hI.cell (i := k / 8) (by rw [length_partW]; exact hk8)
        have h4 := partW_get ws k (k / 8) hk8
        rw [partAt_now, List.getElem?_eq_getElem hk8] at h4
        rw [List.getElem?_eq_getElem (by rw [length_partW]; exact hk8)] at h4
        injection h4 with h4
        rw [h4] at h3
        exact h3
      have hfz := hI.frozen (k / 8)
      have hgl := hI.lt
      have hgg : b ≠ g := by rw [← HG.out]; omega
      have hvr := HF.out _ (List.getElem_mem hk8)
      have hor := or_byte ws[k / 8] hvr (k % 8) (by omega)
      have hbyt : byteAt ws k = ws[k / 8] / 2 ^ (k % 8 * 8) % 256 := by unfold byteAt; rw [List.getElem?_eq_getElem hk8]; rfl
      rw [← hbyt] at hor
      have hbr := byteAt_range ws k
      have HST := Lib.hid (partW_step ws k (by rw [HN.out]; omega))
      rw [List.getElem?_eq_getElem hk8] at HST
      obtain ⟨bt, hbt⟩ : ∃ bt, byteAt ws k = bt := ⟨_, rfl⟩
      obtain ⟨od, hod⟩ : ∃ od, ws[k / 8] % 2 ^ (k % 8 * 8) = od := ⟨_, rfl⟩
      obtain ⟨nw, hnw⟩ : ∃ nw, ws[k / 8] % 2 ^ ((k % 8 + 1) * 8) = nw := ⟨_, rfl⟩
      rw [hbt] at hc' hor hbr
      rw [hod] at hcg hor
      rw [hnw] at hor
      have HST2 : Hid ((partW ws k).set (k / 8) nw = partW ws (k + 1)) := by
        show _ = _
        rw [← hnw]; exact HST.out
      have e1 : IntKind.u64.wrap bt = bt := IntWalk.u64_in _ (by omega)
      have HI := Lib.hid hI
      have HB := Lib.hid hB
      clear hc hI hB hbt hod hnw hbyt hvr HST
      go_wp2
      refine ⟨⟨k + 1, by omega, by go_num, ?_, HB.out.setCell (p := ⟨g, k / 8, none⟩) (by show w.heap.size ≤ g; rw [HG.out]; exact Nat.le_refl _) _⟩, by simp [intOf]; omega⟩
      rw [← HST2.out]
      exact HI.out.set (k / 8) _
    · obtain rfl : k = 64 * n := by omega
      have hI' : IB .u64 25 wr g ws := by
        have := hI
        rwa [show 64 * n = 8 * ws.length by rw [HN.out]; omega, partW_all ws HF.out] at this
      have HI := Lib.hid hI'
      have HB := Lib.hid hB
      clear hI hB hI'
      go_wp2_with (go_at_call 40; refine (devOf _ g n ws HI.out HN.out h1 h2).mono ?_; rintro e w2 ⟨d, L, rfl, hD, hb, hF⟩; have HD := Lib.hid hD; have HB2 := Lib.hid hb; have HFP := Lib.hid hF; clear hD hb hF)
      go_ret2
      refine ⟨d, L, rfl, HD.out, HB.out.trans (HB2.out.mono HB.out.size), fun b hb => ?_⟩
      rcases HFP.out b hb with h | h
      · rw [h, ← HG.out]; exact Nat.le_refl _
      · exact Nat.le_trans HB.out.size h
end Go.Proofs.Ytljolgcmkejlnaa
