/- Contracts of Load and Store of a thread. -/
import Derived.Test.YtngkhligjkcbmaaDevB
namespace Go.Proofs.Ytngkhligjkcbmaa
open Go.RowKit
set_option linter.unusedVariables false

def DevS.load (S : DevS) (off : Int) : Int := if S.onB (S.wordB off) then S.cur[(off / 8).toNat]?.getD 0 else 0

theorem length_uints (xs : List Int) : (uints xs).length = xs.length := by simp [uints]
theorem get_uints (xs : List Int) (k : Nat) (h : k < xs.length) : (uints xs)[k]'(by rw [length_uints]; exact h) = .int .u64 xs[k] := by simp [uints]
theorem Dev.cword {w : World} {d : Nat} {L : Lay} {S : DevS} (h : Dev w d L S) {k : Nat} (hk : k < S.cur.length) : w.cell? ⟨L.cb, k, none⟩ = some (.int .u64 S.cur[k]) := by
  obtain ⟨g, off, hA, _, hc⟩ := h.cur.at_ (j := k) (by rw [length_uints]; exact hk)
  injection hA with hA
  injection hA with hA hA'
  subst hA hA'
  rw [get_uints _ k hk, Nat.zero_add] at hc
  exact hc
theorem Dev.cblt {w : World} {d : Nat} {L : Lay} {S : DevS} (h : Dev w d L S) : L.cb < w.heap.size := h.fr _ (by rw [h.rc]; omega)
theorem wordB_true {S : DevS} {off : Int} (h : S.wordB off = true) (h0 : 0 ≤ off) : ∃ k : Nat, off = 8 * (k : Int) ∧ off / 8 = (k : Int) ∧ k < 8 * S.lns.length := by
  unfold DevS.wordB at h
  simp only [Bool.and_eq_true, decide_eq_true_eq] at h
  refine ⟨(off / 8).toNat, by omega, by omega, by omega⟩

set_option maxHeartbeats 1000000 in
theorem thLoad (w : World) (d : Nat) (L : Lay) (S : DevS) (h : Dev w d L S) (i : Nat) (hi : i < 8) (off : Int) (hoff : 0 ≤ off ∧ off < 18446744073709551616) :
    Calls Try.prog 54 #[.pointer (some ⟨L.t i, 0, none⟩), .int .u64 off] w fun e w' => e = .returned (.int .u64 (S.load off)) ∧ Dev w' d L (S.on i (S.wordB off)) ∧ Ch (Fp L) w w' := by
  have h0 := h.t0 hi
  have hl := h.tlt hi
  have H := Lib.hid h
  have HOF := Lib.hid hoff
  obtain ⟨o1, o2⟩ := hoff
  clear h
  obtain ⟨b, hb⟩ : ∃ b, S.wordB off = b := ⟨_, rfl⟩
  have HWD : Hid (Calls Try.prog 91 #[.pointer (some ⟨L.t i, 0, none⟩), .int .u64 off] w fun e w' => e = .returned (.bool b) ∧ w = w') := by
    have := thWord w d L S H.out i hi off HOF.out
    rwa [hb] at this
  cases hon : S.onB b
  · have HE : Hid (S.load off = 0 ∧ S.on i (S.wordB off) = S.on i b) := by show _ ∧ _; simp [DevS.load, hb, hon]
    have HON : Hid (Calls Try.prog 90 #[.pointer (some ⟨L.t i, 0, none⟩), .bool b] w fun e w' => e = .returned (.bool false) ∧ Dev w' d L (S.on i b) ∧ Ch (Fp L) w w') := by
      have := thOn w d L S H.out i hi b
      rwa [hon] at this
    clear hb hon
    go_enter Try.func54, Try.ntmps54
    go_wp2_with (first | (go_at_call 91; refine HWD.out.mono ?_; rintro e w' ⟨rfl, rfl⟩) | (go_at_call 90; refine HON.out.mono ?_; rintro e w1 ⟨rfl, hD, hC⟩; have HD := Lib.hid hD; have HC := Lib.hid hC; clear hD hC))
    go_ret
    rw [HE.out.1, HE.out.2]
    exact ⟨rfl, HD.out, HC.out⟩
  · have hSo : S.on i b = S ∧ b = true := by
      unfold DevS.onB at hon
      simp only [Bool.and_eq_true, Bool.not_eq_true'] at hon
      simp [DevS.on, hon.1, hon.2]
    obtain ⟨hSo, rfl⟩ := hSo
    obtain ⟨k, hk1, hk2, hk3⟩ := wordB_true hb o1
    have hkc : k < S.cur.length := by rw [H.out.nc]; exact hk3
    have HE : Hid (S.load off = S.cur[k] ∧ S.on i (S.wordB off) = S) := by
      show _ ∧ _
      refine ⟨?_, by rw [hb]; exact hSo⟩
      unfold DevS.load
      rw [hb, hon, if_pos rfl, hk2]
      simp [hkc]
    have HON : Hid (Calls Try.prog 90 #[.pointer (some ⟨L.t i, 0, none⟩), .bool true] w fun e w' => e = .returned (.bool true) ∧ Dev w' d L S ∧ Ch (Fp L) w w') := by
      have := thOn w d L S H.out i hi true
      rwa [hon, hSo] at this
    clear hb hon hSo hk1
    go_enter Try.func54, Try.ntmps54
    go_wp2_with (first | (go_at_call 91; refine HWD.out.mono ?_; rintro e w' ⟨rfl, rfl⟩) | (go_at_call 90; refine HON.out.mono ?_; rintro e w1 ⟨rfl, hD, hC⟩; have k0 := hD.t0 hi; have k1 := hD.tlt hi; have k2 := hD.lt; have k3 := hD.ccell; have k4 := hD.cword hkc; have k5 := hD.cblt; have HD := Lib.hid hD; have HC := Lib.hid hC; clear hD hC))
    go_ret
    rw [HE.out.1, HE.out.2]
    exact ⟨rfl, HD.out, HC.out⟩
end Go.Proofs.Ytngkhligjkcbmaa
