/- Contract of bytesOf: the bytes of words. -/
import Derived.Test.YtljolgcmkejlnaaBytes
import Derived.Test.YtljolgcmkejlnaaDevO
namespace Go.Proofs.Ytljolgcmkejlnaa
open Go.RowKit
set_option linter.unusedVariables false

theorem info_u8d : (Try.prog.info? 5).map (fun i => (i.zero, i.size, i.bytes)) = some (some (.int .u8 0), 1, 1) := by kernel_rfl
set_option maxRecDepth 100000 in
set_option maxHeartbeats 2000000 in
theorem bytesOfD (w : World) (A : Option Addr) (n c : Nat) (ws : List Int) (hn : ws.length = n) (hb : n ≤ 32768) (hf : Fits ws) (hR : Rd .u64 w A ws) :
    Calls Try.prog 63 #[.slice A n c] w fun e w' => ∃ g, e = .returned (.slice (some ⟨g, 0, none⟩) (8 * n) (8 * n)) ∧ IB .u8 5 w' g (bytesL ws) ∧ w.heap.size ≤ g ∧ Below w.heap.size w w' := by
  have HR := Lib.hid hR
  have HN := Lib.hid hn
  have HF := Lib.hid hf
  have hmk := fun W => run_make_z (P := Try.prog) 55 5 .u8 .i64 .i64 ((n : Int) * 8) (8 * n) (by omega) Try.underlying55 1 info_u8d (by omega) (by omega) W
  clear hR hn hf
  go_enter Try.func63, Try.ntmps63
  go_wp2
  have HI0 : Hid (IB .u8 5 (w.alloc (.cells (ia .u8 (List.replicate (8 * n) (0 : Int))) 5)) w.heap.size (byPad ws 0)) := by
    show IB _ _ _ _ _
    rw [byPad_zero, HN.out]; exact IB.new _ _
  have HB0 : Hid (Below w.heap.size w (w.alloc (.cells (ia .u8 (List.replicate (8 * n) (0 : Int))) 5))) := by show Below _ _ _; (repeat (first | with_reducible exact Below.refl _ _ | with_reducible refine bl_alloc ?_ _ | with_reducible refine bl_drew ?_ | with_reducible refine bl_drewN ?_ _ | with_reducible refine bl_bx ?_ _ | with_reducible exact BX.below _ | with_reducible refine bl_set ?_ (by first | (exact Nat.le_refl _) | (simp; done) | (simp; omega)) _ | assumption))
  obtain ⟨g, hg⟩ : ∃ g, w.heap.size = g := ⟨_, rfl⟩
  obtain ⟨W, hW⟩ : ∃ W, w.alloc (.cells (ia .u8 (List.replicate (8 * n) (0 : Int))) 5) = W := ⟨_, rfl⟩
  rw [hg, hW] at HI0
  rw [hW] at HB0
  rw [hg, hW]
  have HG := Lib.hid hg
  clear hW hg hmk
  go_loopw [11, 4, 12, 13, 14, 15, 16, 17, 18, 19, 20, 21, 22, 23, 24, 25, 26, 27, 28] (fun i _ _ _ _ _ _ _ _ _ _ _ _ _ _ _ _ _ _ wr => ∃ k : Nat, k ≤ 8 * n ∧ i = .int .i64 k ∧ IB .u8 5 wr g (byPad ws k) ∧ Below w.heap.size w wr) (fun i _ _ _ _ _ _ _ _ _ _ _ _ _ _ _ _ _ _ _ => 8 * n - (intOf i).toNat)
  case atStart => exact ⟨0, by omega, rfl, HI0.out, HB0.out⟩
  case round =>
    clear HI0 HB0
    obtain ⟨k, hk, rfl, hI, hB⟩ := hrel
    by_cases hlt : k < 8 * n
    · have hlt' : (k : Int) < 8 * (n : Int) := by omega
      have hk8 : k / 8 < ws.length := by rw [HN.out]; omega
      have hkn : k / 8 < n := by omega
      obtain ⟨b, o, rfl, hbb, hc⟩ := HR.out.at_ hk8
      have hbw := hB.size
      have hc' : wr.cell? ⟨b, o + k / 8, none⟩ = some (.int .u64 ws[k / 8]) := (hB.cell (p := ⟨b, o + k / 8, none⟩) hbb).trans hc
      have hbl : b < wr.heap.size := by omega
      have hcg := hI.cell (i := k) (by rw [length_byPad ws k (by rw [HN.out]; omega), HN.out]; exact hlt)
      have hfz := hI.frozen k
      have hgl := hI.lt
      have hgg : b ≠ g := by rw [← HG.out]; omega
      have HBY : Hid (ws[k / 8] / 2 ^ (k % 8 * 8) % 256 = byteAt ws k) := by
        show _ = _
        unfold byteAt
        rw [List.getElem?_eq_getElem hk8]; rfl
      have HST := Lib.hid (byPad_set ws k (by rw [HN.out]; exact hlt))
      obtain ⟨v, hv⟩ : ∃ v, ws[k / 8] = v := ⟨_, rfl⟩
      rw [hv] at hc' HBY
      have HI := Lib.hid hI
      have HB := Lib.hid hB
      clear hv hc hI hB
      go_wp2
      rw [HBY.out]
      refine ⟨⟨k + 1, by omega, by go_num, ?_, HB.out.setCell (p := ⟨g, k, none⟩) (by show w.heap.size ≤ g; rw [HG.out]; exact Nat.le_refl _) _⟩, by simp [intOf]; omega⟩
      rw [← HST.out]
      exact HI.out.set k _
    · obtain rfl : k = 8 * n := by omega
      have hI' : IB .u8 5 wr g (bytesL ws) := by
        have := hI
        rwa [show 8 * n = 8 * ws.length by rw [HN.out], byPad_all] at this
      have HI := Lib.hid hI'
      have HB := Lib.hid hB
      clear hI hB hI'
      go_wp2
      go_ret
      exact ⟨g, rfl, HI.out, by rw [← HG.out]; exact Nat.le_refl _, HB.out⟩
end Go.Proofs.Ytljolgcmkejlnaa
