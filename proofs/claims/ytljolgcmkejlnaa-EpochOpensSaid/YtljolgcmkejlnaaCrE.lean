/- Contracts of Image and Crash of a device. -/
import Derived.Test.YtljolgcmkejlnaaCrD
namespace Go.Proofs.Ytljolgcmkejlnaa
open Go.RowKit
set_option linter.unusedVariables false

theorem Sl.rdW {w : World} {A : Option Addr} {n c : Nat} {xs : List Int} (h : Sl 25 1 w A n c (uints xs)) : Rd .u64 w A xs := by
  by_cases h0 : xs = []
  · exact .inl h0
  · have hlen : 0 < xs.length := List.length_pos_iff.2 h0
    obtain ⟨g, off, hA, hlt, _⟩ := h.at_ (j := 0) (by rw [length_uints]; exact hlen)
    refine .inr ⟨g, off, hA, hlt, fun i hi => ?_⟩
    obtain ⟨g', off', hA', _, hc⟩ := h.at_ (j := i) (by rw [length_uints]; exact hi)
    rw [hA] at hA'
    injection hA' with hA'
    injection hA' with e1 e2
    subst e1 e2
    rw [hc, get_uints xs i hi]
theorem fits_applyW (ws : List (Int × Int)) (hw : ∀ p ∈ ws, 0 ≤ p.2 ∧ p.2 < 18446744073709551616) : ∀ xs, Fits xs → Fits (applyW xs ws) := by
  induction ws with
  | nil => intro xs h; exact h
  | cons p ws ih =>
    intro xs h
    exact ih (fun q hq => hw q (by simp [hq])) _ (h.set _ (hw p (by simp)))
/-- What Image leaves: the bytes of a crash image. -/
def ImgPost (w : World) (S : DevS) (e : Ending) (w' : World) : Prop :=
  ∃ g K, e = .returned (.slice (some ⟨g, 0, none⟩) (8 * S.pers.length) (8 * S.pers.length)) ∧ (∀ q l, S.lns[q]? = some l → K q ≤ l.hist.length) ∧ IB .u8 5 w' g (bytesL (S.upto K).pers) ∧ w.heap.size ≤ g ∧ Below w.heap.size w w'
theorem upto_none0 (S : DevS) : (S.upto (fun _ => 0)).pers = S.pers := by
  apply List.ext_getElem?
  intro j
  by_cases hj : j < S.pers.length
  · rw [upto_pers _ j hj]; simp [applyW]
  · rw [List.getElem?_eq_none (by rw [(length_upto _).1]; omega), List.getElem?_eq_none (by omega)]
set_option maxRecDepth 100000 in
set_option maxHeartbeats 2000000 in
/-- Image without a choice. -/
theorem devImage_nil (w : World) (d : Nat) (L : Lay) (S : DevS) (h : Dev w d L S) (hf : Fits S.pers) (A : Option Addr) :
    Calls Try.prog 50 #[.pointer (some ⟨d, 0, none⟩), .slice A 0 0] w (ImgPost w S) := by
  have d0 : w.cell? ⟨d, 0, none⟩ = some (.slice (some ⟨L.pb, 0, none⟩) S.pers.length L.pc) := h.dev.cell_some (i := 0) rfl
  have dl := h.lt
  have hn := h.nl
  have hp := h.np
  have HCL := Lib.hid (cloneU w L.pb 0 S.pers.length L.pc S.pers rfl (by omega) (by omega) h.pers.rdW)
  have HF := Lib.hid hf
  obtain ⟨n, hnn⟩ : ∃ n, S.pers.length = n := ⟨_, rfl⟩
  have HN := Lib.hid hnn
  have hn5 : n ≤ 32768 := by omega
  unfold ImgPost
  rw [hnn] at d0 HCL ⊢
  clear h hf hnn hp
  go_enter Try.func50, Try.ntmps50
  go_wp2_with (first
    | (go_at_call 52; refine HCL.out.mono ?_; rintro e w1 ⟨g, c, rfl, hS, hg, hb⟩; have HS := Lib.hid hS; have HB := Lib.hid hb; have HG := Lib.hid hg; clear hS hb hg)
    | (go_at_call 63; refine (bytesOfD w1 _ n c S.pers HN.out hn5 HF.out HS.out.rdW).mono ?_; rintro e w2 ⟨g2, rfl, hI2, hg2, hb2⟩; have HI2 := Lib.hid hI2; have HB2 := Lib.hid hb2; have HG2 := Lib.hid hg2; clear hI2 hb2 hg2))
  go_ret
  refine ⟨g2, fun _ => 0, rfl, fun _ _ _ => Nat.zero_le _, ?_, Nat.le_trans HB.out.size HG2.out, HB.out.trans (HB2.out.mono HB.out.size)⟩
  rw [upto_none0]; exact HI2.out
end Go.Proofs.Ytljolgcmkejlnaa
