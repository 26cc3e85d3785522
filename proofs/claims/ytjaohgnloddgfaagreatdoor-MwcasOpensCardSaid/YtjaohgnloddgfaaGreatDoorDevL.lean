/- Loads of a device that is on change nothing; a device's thread as a memory. -/
import Derived.Test.YtjaohgnloddgfaaGreatDoorDevC
namespace Go.Proofs.YtjaohgnloddgfaaGreatDoor
open Go.RowKit
set_option linter.unusedVariables false

@[go_sem] theorem m_pThread_Size (w : World) (v : Value) : (method 336 57 v "Size").run Tryz.prog w = .ok (167, v) w := by kernel_rfl
@[go_sem] theorem m_pThread_Err (w : World) (v : Value) : (method 336 57 v "Err").run Tryz.prog w = .ok (57, v) w := by kernel_rfl
@[go_sem] theorem m_pThread_Load (w : World) (v : Value) : (method 336 57 v "Load").run Tryz.prog w = .ok (25, v) w := by kernel_rfl

set_option maxHeartbeats 400000 in
theorem thOn_ok (w : World) (d : Nat) (L : Lay) (S : DevS) (h : Dev w d L S) (i : Nat) (hi : i < 8) (hO : S.off = false) :
    Calls Tryz.prog 64 #[.pointer (some ⟨L.t i, 0, none⟩), .bool true] w fun e w' => e = .returned (.bool true) ∧ w = w' := by
  have h0 := h.t0 hi
  have ho := h.ocell
  have hl := h.tlt hi
  have hl2 := h.lt
  clear h
  rw [hO] at ho
  go_enter Tryz.func64, Tryz.ntmps64
  go_wp2
  go_ret
  exact ⟨rfl, rfl⟩

set_option maxHeartbeats 1000000 in
theorem thLoad_ok (w : World) (d : Nat) (L : Lay) (S : DevS) (h : Dev w d L S) (i : Nat) (hi : i < 8) (hO : S.off = false) (k : Nat) (hk : k < S.cur.length) :
    Calls Tryz.prog 25 #[.pointer (some ⟨L.t i, 0, none⟩), .int .u64 (8 * (k : Int))] w fun e w' => e = .returned (.int .u64 S.cur[k]) ∧ w = w' := by
  have h0 := h.t0 hi
  have hl := h.tlt hi
  have H := Lib.hid h
  have hk3 : k < 8 * S.lns.length := by rw [← h.nc]; exact hk
  have hnl := h.nl
  have k2 := h.lt; have k3 := h.ccell; have k4 := h.cword hk; have k5 := h.cblt
  have HWD : Hid (Calls Tryz.prog 65 #[.pointer (some ⟨L.t i, 0, none⟩), .int .u64 (8 * (k : Int))] w fun e w' => e = .returned (.bool true) ∧ w = w') := by
    have := thWord w d L S H.out i hi (8 * (k : Int)) (by omega)
    rwa [show S.wordB (8 * (k : Int)) = true by unfold DevS.wordB; simp; omega] at this
  have hq : (8 * (k : Int)) / 8 = (k : Int) := by omega
  have HON := Lib.hid (thOn_ok w d L S h i hi hO)
  have hlt : ¬ ((S.cur.length : Int) ≤ (k : Int)) := by omega
  clear h
  go_enter Tryz.func25, Tryz.ntmps25
  go_wp2_with (first | (go_at_call 65; refine HWD.out.mono ?_; rintro e w' ⟨rfl, rfl⟩) | (go_at_call 64; refine HON.out.mono ?_; rintro e w1 ⟨rfl, rfl⟩))
  go_ret
  exact ⟨rfl, rfl⟩

set_option maxRecDepth 100000 in
set_option maxHeartbeats 1000000 in
theorem thFence_off (w : World) (d : Nat) (L : Lay) (S : DevS) (h : Dev w d L S) (i : Nat) (hi : i < 8) (hc : S.cntB true = false) :
    Calls Tryz.prog 52 #[.pointer (some ⟨L.t i, 0, none⟩)] w fun e w' => e = .returned (.tuple #[]) ∧ Dev w' d L (S.cnt i true) ∧ Ch (Fp L) w w' := by
  have h0 := h.t0 hi
  have hl := h.tlt hi
  have H := Lib.hid h
  have HC : Hid (Calls Tryz.prog 85 #[.pointer (some ⟨L.t i, 0, none⟩), .bool true] w fun e w' => e = .returned (.bool false) ∧ Dev w' d L (S.cnt i true) ∧ Ch (Fp L) w w') := by
    have := thCounted w d L S h i hi true
    rwa [hc] at this
  clear h hc
  go_enter Tryz.func52, Tryz.ntmps52
  go_wp2_with (first | (go_at_call 85; refine HC.out.mono ?_; rintro e w' ⟨rfl, hD, hC⟩; have HD := Lib.hid hD; have HCh := Lib.hid hC; clear hD hC))
  exact bodyPost_ret (v := .tuple #[]) (by simp [results, Tryz.results52, go_sem]) rfl ⟨rfl, HD.out, HCh.out⟩
end Go.Proofs.YtjaohgnloddgfaaGreatDoor
