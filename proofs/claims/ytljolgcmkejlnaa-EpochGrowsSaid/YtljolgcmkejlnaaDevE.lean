/- Contract of Arm. -/
import Derived.Test.YtljolgcmkejlnaaDevD
namespace Go.Proofs.Ytljolgcmkejlnaa
open Go.RowKit
set_option linter.unusedVariables false

def DevS.arm (S : DevS) (n : Int) : DevS := if S.off then S else { S with armed := decide (0 ≤ n), left := imax n 0 }

set_option maxHeartbeats 1000000 in
theorem devArm (w : World) (d : Nat) (L : Lay) (S : DevS) (h : Dev w d L S) (n : Int) (hn : -9223372036854775808 ≤ n ∧ n < 9223372036854775808) :
    Calls Try.prog 30 #[.pointer (some ⟨d, 0, none⟩), .int .i64 n] w fun e w' => e = .returned (.tuple #[]) ∧ Dev w' d L (S.arm n) ∧ Ch (Fp L) w w' := by
  have ho := h.ocell
  have ha := h.acell
  have hl := h.fcell
  have hd := h.lt
  have f1 := h.dev.frozen 12
  have f2 := h.dev.frozen 13
  have H := Lib.hid h
  clear h
  cases hO : S.off
  · rw [hO] at ho
    have HE : Hid (S.arm n = { S with off := S.off, armed := decide (0 ≤ n), left := imax n 0, exec := S.exec }) := by show _ = _; simp [DevS.arm, hO]
    have hb : 0 ≤ imax n 0 ∧ imax n 0 < 9223372036854775808 := by unfold imax; split <;> omega
    clear hO
    go_enter Try.func30, Try.ntmps30
    go_wp2
    go_end0
    rw [HE.out]
    refine ⟨rfl, H.out.setDev (fun b _ hb => (Below.heap_setCell _ ⟨d, 13, none⟩ _ b hb).trans (Below.heap_setCell w ⟨d, 12, none⟩ _ b hb)) (by simp) S.off _ _ S.exec hb H.out.ex ?_, ((Ch.refl (Fp L) w).setCell (a := ⟨d, 12, none⟩) (.inl (by show Fp L d; unfold Fp; rw [H.out.rd]; omega)) _).setCell (a := ⟨d, 13, none⟩) (.inl (by show Fp L d; unfold Fp; rw [H.out.rd]; omega)) _⟩
    exact (H.out.dev.set 12 _).set 13 _
  · rw [hO] at ho
    have HE : Hid (S.arm n = S) := by show _ = _; simp [DevS.arm, hO]
    clear hO
    go_enter Try.func30, Try.ntmps30
    go_wp2
    exact bodyPost_ret (v := .tuple #[]) (by simp [results, Try.results30, go_sem]) rfl (by rw [HE.out]; exact ⟨rfl, H.out, Ch.refl _ _⟩)
end Go.Proofs.Ytljolgcmkejlnaa
