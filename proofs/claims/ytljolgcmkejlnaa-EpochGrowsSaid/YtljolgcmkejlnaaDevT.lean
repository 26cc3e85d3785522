/- Contract of Fence of a thread without notes. -/
import Derived.Test.YtljolgcmkejlnaaDevS
import Derived.Test.YtljolgcmkejlnaaDevL
namespace Go.Proofs.Ytljolgcmkejlnaa
open Go.RowKit
set_option linter.unusedVariables false

theorem ranges_empty {P : Program} {k : TypeId} {R : Value → Option (DataW Unit × List MemPlace)} {w : World} {b r : Nat} {D : DataW Unit} {left : Lit → Bool} {cnt : Nat} (h : w.ranges P k R b r 0 D left cnt) {kl : Lit} (hl : left kl = true) : False := by
  obtain ⟨es, clock, since, seen, c0, _, _, hs, _, _, _, _, _, hx, _⟩ := h
  obtain ⟨x, hx, _⟩ := hx kl hl
  have : es = #[] := Array.eq_empty_of_size_eq_zero (by omega)
  subst this
  simp at hx
theorem under_int : Try.prog.underlying 3 = some (.int .i64) := by kernel_rfl
theorem under_u64 : Try.prog.underlying 25 = some (.int .u64) := by kernel_rfl
theorem under_notes : Try.prog.underlying 100 = some (.map 3 25) := by kernel_rfl

set_option maxRecDepth 100000 in
set_option maxHeartbeats 1000000 in
theorem thFence_none (w : World) (d : Nat) (L : Lay) (S : DevS) (h : Dev w d L S) (i : Nat) (hi : i < 8) (hc : S.cntB true = true) (hf : ((S.cnt i true).thr i).flu = 0) :
    Calls Try.prog 101 #[.pointer (some ⟨L.t i, 0, none⟩)] w fun e w' => e = .returned (.tuple #[]) ∧ Dev w' d L (S.cnt i true) ∧ Ch (Fp L) w w' := by
  have h0 := h.t0 hi
  have hl := h.tlt hi
  have H := Lib.hid h
  have HC : Hid (Calls Try.prog 46 #[.pointer (some ⟨L.t i, 0, none⟩), .bool true] w fun e w' => e = .returned (.bool true) ∧ Dev w' d L (S.cnt i true) ∧ Ch (Fp L) w w') := by
    have := thCounted w d L S h i hi true
    rwa [hc] at this
  have HF := Lib.hid hf
  clear h hc hf
  go_enter Try.func101, Try.ntmps101
  go_upto_region 1 with (first | (go_at_call 46; refine HC.out.mono ?_; rintro e w' ⟨rfl, hD, hC⟩; have HD := Lib.hid hD; have HCh := Lib.hid hC; clear hD hC))
  have h3 := HD.out.t3 hi
  have hl3 := HD.out.tlt hi
  obtain ⟨D, hown, hD2⟩ := HD.out.nts i hi
  rw [HF.out] at hown
  have HO := Lib.hid hown
  clear hown hD2
  go_wp2_with (first | (at_range; refine wpList_range_own _ rfl _ 100 rfl 3 25 (Maps.int_keyed under_int) under_notes _ (L.m i) 0 D rfl HO.out ?_; intro w0 hrg0 hg0 hs0) | go_in)
  go_frame
  have HRG := Lib.hid hrg0
  have HG := Lib.hid hg0
  have hm3 : w0.cell? ⟨L.t i, 3, none⟩ = some (.map (some (L.m i))) := by
    have := ((HD.out.thr i hi).keep (w' := w0) (hg0.block _ hl3 (by simp))).cell 3
    exact this
  have hl0 : L.t i < w0.heap.size := Nat.lt_of_lt_of_le hl3 hg0.size
  obtain ⟨D', es, clock, hb0, hes⟩ : ∃ D' : DataW Unit, ∃ es clock, w0.heap[L.m i]? = some (.map es clock) ∧ es = #[] := by
    obtain ⟨es, clock, hb, _, hs, _⟩ := hrg0.owns
    exact ⟨D, es, clock, hb, Array.eq_empty_of_size_eq_zero (by omega)⟩
  have hcl := fun ty => run_clear_map (P := Try.prog) w0 100 ty 3 25 under_notes (L.m i) es clock hb0
  clear hrg0 hg0
  go_loopw [2, 3, 4, 24, 25, 26, 27, 28, 29, 30, 31, 32, 33, 34, 35, 36, 37, 38, 39, 40, 41, 42, 43, 44, 45, 46, 47, 48, 49, 50, 51, 52] (fun _ _ _ _ _ _ _ _ _ _ _ _ _ _ _ _ _ _ _ _ _ _ _ _ _ _ _ _ _ _ _ _ wr => wr = w0) (fun _ _ _ _ _ _ _ _ _ _ _ _ _ _ _ _ _ _ _ _ _ _ _ _ _ _ _ _ _ _ _ _ _ => 0)
  case atStart => rfl
  case round =>
    subst hrel
    go_wp2_with (first | (at_next; refine wpList_next_ranges_ii _ rfl _ rfl 3 25 .i64 .u64 (Maps.int_keyed under_int) under_int under_u64 (L.m i) _ 0 _ _ _ rfl HRG.out ?_ (fun x c w1 cnt1 hwx hwc hlx => (ranges_empty HRG.out hlx).elim); intro hc0 hl0') | go_in)
    go_end0
    have hsame : ∀ b : Nat, (wr.heap.setIfInBounds (L.m i) (Obj.map #[] clock))[b]? = wr.heap[b]? := by
      intro b
      rw [Array.getElem?_setIfInBounds]
      by_cases hb : L.m i = b
      · subst hb
        rw [if_pos rfl, hb0, hes, if_pos (Array.getElem?_eq_some_iff.1 hb0).1]
      · rw [if_neg hb]
    refine ⟨rfl, HD.out.keep (fun b hb => (hsame b).trans (HG.out.block b (HD.out.fr b hb) (by simp))) (by simpa using HG.out.size), ?_⟩
    refine HCh.out.trans (T := fun _ => False) ⟨HG.out.os, HG.out.tape, HG.out.output, by simpa using HG.out.size, fun b hb _ => (hsame b).trans (HG.out.block b hb (by simp))⟩ (fun b hb => hb.elim)
end Go.Proofs.Ytljolgcmkejlnaa
