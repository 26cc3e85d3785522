/- Loads of a device that is on change nothing; a device's thread as a memory. -/
import Derived.Test.YtngkhligjkcbmaaDevC
namespace Go.Proofs.Ytngkhligjkcbmaa
open Go.RowKit
set_option linter.unusedVariables false

@[go_sem] theorem m_pThread_Size (w : World) (v : Value) : (method 303 49 v "Size").run Try.prog w = .ok (155, v) w := by kernel_rfl
@[go_sem] theorem m_pThread_Err (w : World) (v : Value) : (method 303 49 v "Err").run Try.prog w = .ok (51, v) w := by kernel_rfl
@[go_sem] theorem m_pThread_Load (w : World) (v : Value) : (method 303 49 v "Load").run Try.prog w = .ok (54, v) w := by kernel_rfl

set_option maxHeartbeats 400000 in
theorem thOn_ok (w : World) (d : Nat) (L : Lay) (S : DevS) (h : Dev w d L S) (i : Nat) (hi : i < 8) (hO : S.off = false) :
    Calls Try.prog 90 #[.pointer (some ⟨L.t i, 0, none⟩), .bool true] w fun e w' => e = .returned (.bool true) ∧ w = w' := by
  have h0 := h.t0 hi
  have ho := h.ocell
  have hl := h.tlt hi
  have hl2 := h.lt
  clear h
  rw [hO] at ho
  go_enter Try.func90, Try.ntmps90
  go_wp2
  go_ret
  exact ⟨rfl, rfl⟩

set_option maxHeartbeats 1000000 in
theorem thLoad_ok (w : World) (d : Nat) (L : Lay) (S : DevS) (h : Dev w d L S) (i : Nat) (hi : i < 8) (hO : S.off = false) (k : Nat) (hk : k < S.cur.length) :
    Calls Try.prog 54 #[.pointer (some ⟨L.t i, 0, none⟩), .int .u64 (8 * (k : Int))] w fun e w' => e = .returned (.int .u64 S.cur[k]) ∧ w = w' := by
  have h0 := h.t0 hi
  have hl := h.tlt hi
  have H := Lib.hid h
  have hk3 : k < 8 * S.lns.length := by rw [← h.nc]; exact hk
  have hnl := h.nl
  have k2 := h.lt; have k3 := h.ccell; have k4 := h.cword hk; have k5 := h.cblt
  have HWD : Hid (Calls Try.prog 91 #[.pointer (some ⟨L.t i, 0, none⟩), .int .u64 (8 * (k : Int))] w fun e w' => e = .returned (.bool true) ∧ w = w') := by
    have := thWord w d L S H.out i hi (8 * (k : Int)) (by omega)
    rwa [show S.wordB (8 * (k : Int)) = true by unfold DevS.wordB; simp; omega] at this
  have hq : (8 * (k : Int)) / 8 = (k : Int) := by omega
  have HON := Lib.hid (thOn_ok w d L S h i hi hO)
  have hlt : ¬ ((S.cur.length : Int) ≤ (k : Int)) := by omega
  clear h
  go_enter Try.func54, Try.ntmps54
  go_wp2_with (first | (go_at_call 91; refine HWD.out.mono ?_; rintro e w' ⟨rfl, rfl⟩) | (go_at_call 90; refine HON.out.mono ?_; rintro e w1 ⟨rfl, rfl⟩))
  go_ret
  exact ⟨rfl, rfl⟩

set_option maxRecDepth 100000 in
set_option maxHeartbeats 1000000 in
theorem thFence_off (w : World) (d : Nat) (L : Lay) (S : DevS) (h : Dev w d L S) (i : Nat) (hi : i < 8) (hc : S.cntB true = false) :
    Calls Try.prog 85 #[.pointer (some ⟨L.t i, 0, none⟩)] w fun e w' => e = .returned (.tuple #[]) ∧ Dev w' d L (S.cnt i true) ∧ Ch (Fp L) w w' := by
  have h0 := h.t0 hi
  have hl := h.tlt hi
  have H := Lib.hid h
  have HC : Hid (Calls Try.prog 103 #[.pointer (some ⟨L.t i, 0, none⟩), .bool true] w fun e w' => e = .returned (.bool false) ∧ Dev w' d L (S.cnt i true) ∧ Ch (Fp L) w w') := by
    have := thCounted w d L S h i hi true
    rwa [hc] at this
  clear h hc
  go_enter Try.func85, Try.ntmps85
  go_wp2_with (first | (go_at_call 103; refine HC.out.mono ?_; rintro e w' ⟨rfl, hD, hC⟩; have HD := Lib.hid hD; have HCh := Lib.hid hC; clear hD hC))
  exact bodyPost_ret (v := .tuple #[]) (by simp [results, Try.results85, go_sem]) rfl ⟨rfl, HD.out, HCh.out⟩
end Go.Proofs.Ytngkhligjkcbmaa
