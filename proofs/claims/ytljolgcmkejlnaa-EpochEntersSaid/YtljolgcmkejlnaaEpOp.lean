/- Contracts of Entering, Step and Epoch: an Enter in progress. -/
import Derived.Test.YtljolgcmkejlnaaEpS
namespace Go.Proofs.Ytljolgcmkejlnaa
open Go.RowKit
set_option linter.unusedVariables false

def opC (c i : Nat) (ended : Bool) (ep : Int) : Array Value := #[.pointer (some ⟨c, 0, none⟩), .int .i64 (i : Int), .bool ended, .int .u64 ep, .int .i64 0]
def Opb (w : World) (o c i : Nat) (ended : Bool) (ep : Int) : Prop := CB w o 78 (opC c i ended ep)
section
variable {w : World} {o c i : Nat} {ended : Bool} {ep : Int}
theorem Opb.all (h : Opb w o c i ended ep) : w.cell? ⟨o, 0, none⟩ = some (.pointer (some ⟨c, 0, none⟩)) ∧ w.cell? ⟨o, 1, none⟩ = some (.int .i64 (i : Int)) ∧ w.cell? ⟨o, 2, none⟩ = some (.bool ended) ∧ w.cell? ⟨o, 3, none⟩ = some (.int .u64 ep) ∧ w.cell? ⟨o, 4, none⟩ = some (.int .i64 0) ∧ o < w.heap.size ∧ w.frozen? ⟨o, 2, none⟩ = false ∧ w.frozen? ⟨o, 3, none⟩ = false :=
  ⟨CB.cell h 0, CB.cell h 1, CB.cell h 2, CB.cell h 3, CB.cell h 4, CB.lt h, CB.frozen h 2, CB.frozen h 3⟩
end
section
variable {F : Nat → Prop} {d : Nat} {t : Nat → Nat} {c : Nat} {w w0 : World} {S : DevS} {n q : Nat} {xs : List Int} {e : Int} {an : Nat → Int} {N : Nat}
set_option maxRecDepth 100000 in
set_option maxHeartbeats 1000000 in
theorem ckEntering (h : Ep F d t c w S n q xs e an N) (i : Nat) (hi : i < 8) (ha : an i = 0) : Calls Try.prog 13 #[.pointer (some ⟨c, 0, none⟩), .int .i64 (i : Int)] w fun r w' => r = .returned (.tuple #[.pointer (some ⟨w.heap.size, 0, none⟩), .int .i64 0]) ∧ w' = w.alloc (.cells (opC c i false 0) 78) := by
  have HT := Lib.hid (threadV h.dv i hi)
  have HER : Hid (Calls Try.prog 36 #[.pointer (some ⟨t i, 0, none⟩)] w fun e w' => e = .returned (.int .i64 0) ∧ w = w') := by
    have := errV h.dv i hi
    rwa [h.cl.err i] at this
  have c0 := h.ck.c0
  have hl := h.ck.lt
  have ka := h.ck.ca hi
  rw [ha] at ka
  have h8 : ¬ (8 : Int) ≤ (i : Int) := by omega
  have h8' : (i : Int) < 8 := by omega
  clear h ha
  go_enter Try.func13, Try.ntmps13
  go_wp2_with (first | (go_at_call 26; refine HT.out.mono ?_; rintro e w' ⟨rfl, rfl⟩) | (go_at_call 36; refine HER.out.mono ?_; rintro e w' ⟨rfl, rfl⟩))
  go_ret2
  exact ⟨rfl, rfl⟩
set_option maxRecDepth 100000 in
theorem opStep_done (o i : Nat) (ep : Int) (hO : Opb w o c i true ep) : Calls Try.prog 14 #[.pointer (some ⟨o, 0, none⟩)] w fun r w' => r = .returned (.bool true) ∧ w = w' := by
  obtain ⟨o0, o1, o2, o3, o4, ol, _, _⟩ := hO.all
  clear hO
  go_enter Try.func14, Try.ntmps14
  go_wp2
  go_ret
  exact ⟨rfl, rfl⟩
set_option maxRecDepth 100000 in
theorem opEpoch_not (o i : Nat) (ep : Int) (hO : Opb w o c i false ep) : Calls Try.prog 20 #[.pointer (some ⟨o, 0, none⟩)] w fun r w' => r = .returned (.tuple #[.int .u64 0, .int .i64 8]) ∧ w = w' := by
  obtain ⟨o0, o1, o2, o3, o4, ol, _, _⟩ := hO.all
  clear hO
  go_enter Try.func20, Try.ntmps20
  go_wp2
  go_ret2
  exact ⟨rfl, rfl⟩
set_option maxRecDepth 100000 in
theorem opEpoch_done (o i : Nat) (ep : Int) (hO : Opb w o c i true ep) : Calls Try.prog 20 #[.pointer (some ⟨o, 0, none⟩)] w fun r w' => r = .returned (.tuple #[.int .u64 ep, .int .i64 0]) ∧ Below w.heap.size w w' := by
  obtain ⟨o0, o1, o2, o3, o4, ol, _, _⟩ := hO.all
  clear hO
  go_enter Try.func20, Try.ntmps20
  go_wp2
  go_quiet (fail)
  go_wp2
  go_ret2
  exact ⟨rfl, (by repeat (first | with_reducible exact Below.refl _ _ | with_reducible refine bl_alloc ?_ _ | with_reducible refine bl_drew ?_ | with_reducible refine bl_drewN ?_ _ | with_reducible refine bl_bx ?_ _ | with_reducible exact BX.below _ | with_reducible refine bl_set ?_ (by first | (exact Nat.le_refl _) | (simp; done) | (simp; omega)) _ | assumption))⟩
set_option maxRecDepth 100000 in
set_option maxHeartbeats 4000000 in
theorem opStep_first (h : Ep F d t c w S n q xs e an N) (o i : Nat) (hi : i < 8) (ha : an i = 0) (hO : Opb w o c i false 0) (hoF : ¬ F o) (hoc : o ≠ c) :
    Calls Try.prog 14 #[.pointer (some ⟨o, 0, none⟩)] w fun r w' => r = .returned (.bool true) ∧ Ep F d t c w' S n q xs e (setAn an i e) N ∧ Opb w' o c i true e ∧ Ch (fun b => b = c ∨ b = o) w w' := by
  obtain ⟨o0, o1, o2, o3, o4, ol, fo2, fo3⟩ := hO.all
  have hE0 : Ep F d t c (w.setCell ⟨o, 2, none⟩ (.bool true)) S n q xs e an N := h.set (T := At o) ((Ch.refl _ _).set1 2 _) (fun b hb hF hh => by
    have hb' : b = o := hh
    subst hb'
    rcases hF with hf | hf
    · exact hoF hf
    · exact hoc hf)
  have hO0 : Opb (w.setCell ⟨o, 2, none⟩ (.bool true)) o c i true 0 := CB.set hO 2 (.bool true)
  have HC0 : Hid (Ch (fun b => b = c ∨ b = o) w (w.setCell ⟨o, 2, none⟩ (.bool true))) := (Ch.refl _ _).setCell (a := ⟨o, 2, none⟩) (.inl (.inr rfl)) _
  have HE0 := Lib.hid hE0
  have HO0 := Lib.hid hO0
  have h8' : (i : Int) < 8 := by omega
  have hcl := h.ck.lt
  have HA := Lib.hid ha
  have hoF' := Lib.hid hoF
  clear h hO hE0 hO0 ha hoF
  go_enter Try.func14, Try.ntmps14
  go_upto_region 4 with (fail)
  obtain ⟨W, hW⟩ : ∃ W, w.setCell ⟨o, 2, none⟩ (.bool true) = W := ⟨_, rfl⟩
  rw [hW] at HE0 HO0 HC0
  rw [hW]
  clear hW o0 o1 o2 o3 o4 ol fo2 fo3
  obtain ⟨o0, o1, o2, o3, o4, ol, fo2, fo3⟩ := HO0.out.all
  have c0 := HE0.out.ck.c0
  have hl := HE0.out.ck.lt
  refine wp_region_quiet_lit (by kernel_rfl) (by kernel_rfl) ?_
  repeat (go_big_quiet_step (first | (go_at_call 26; exact q_same (threadV (HE0.out.below (below_drewN (Below.refl _ _) _)).dv i hi)) | (go_at_call 37; exact q_same (ckPresent (HE0.out.below (below_drewN (Below.refl _ _) _)).dv HE0.out.cl (HE0.out.below (below_drewN (Below.refl _ _) _)).ck HE0.out.hn HE0.out.hq i hi e HE0.out.wd HE0.out.he))))
  refine wpQuiet_nil ?_
  rintro _ ⟨nq, rfl⟩
  have hE1 := HE0.out.below (below_drewN (Below.refl _ _) nq)
  have hO1 : Opb (W.drewN nq) o c i true 0 := CB.drewN HO0.out nq
  have hC1 := HC0.out.drewN nq
  obtain ⟨W1, hW1⟩ : ∃ W1, W.drewN nq = W1 := ⟨_, rfl⟩
  rw [hW1] at hE1 hO1 hC1
  rw [hW1]
  clear hW1 o0 o1 o2 o3 o4 ol fo2 fo3 c0 hl HE0 HO0 HC0
  obtain ⟨o0, o1, o2, o3, o4, ol, fo2, fo3⟩ := hO1.all
  have c0 := hE1.ck.c0
  have hl := hE1.ck.lt
  have ka := hE1.ck.ca hi
  have kf := CB.frozen hE1.ck (3 + i)
  rw [HA.out] at ka
  have HE1 := Lib.hid hE1
  have HO1 := Lib.hid hO1
  have HC1 := Lib.hid hC1
  clear hE1 hO1 hC1
  go_upto_region 8 with (fail)
  refine wp_region_quiet_lit (by kernel_rfl) (by kernel_rfl) ?_
  repeat (go_big_quiet_step (fail))
  refine wpQuiet_nil ?_
  rintro _ ⟨nq, rfl⟩
  have hE2 := HE1.out.below (below_drewN (Below.refl _ _) nq)
  have hO2 : Opb (W1.drewN nq) o c i true 0 := CB.drewN HO1.out nq
  have hC2 := HC1.out.drewN nq
  obtain ⟨W2, hW2⟩ : ∃ W2, W1.drewN nq = W2 := ⟨_, rfl⟩
  rw [hW2] at hE2 hO2 hC2
  rw [hW2]
  clear hW2 o0 o1 o2 o3 o4 ol fo2 fo3 c0 hl ka kf HE1 HO1 HC1
  obtain ⟨o0, o1, o2, o3, o4, ol, fo2, fo3⟩ := hO2.all
  have c0 := hE2.ck.c0
  have hl := hE2.ck.lt
  have ka := hE2.ck.ca hi
  have kf := CB.frozen hE2.ck (3 + i)
  rw [HA.out] at ka
  have HE2 := Lib.hid hE2
  have HO2 := Lib.hid hO2
  have HC2 := Lib.hid hC2
  clear hE2 hO2 hC2
  go_upto_region 9 with (fail)
  refine wp_region_still_n 12 (by kernel_rfl) (by kernel_rfl) ?_
  simp only [List.take_succ_cons, List.take_zero, List.drop_succ_cons, List.drop_zero]
  repeat (go_big_quiet_step (fail))
  refine wpQuiet_nil ?_
  rintro _ ⟨nq, rfl⟩
  have hE3 := (HE2.out.below (below_drewN (Below.refl _ _) nq)).setA hi e
  have hO3 : Opb ((W2.drewN nq).setCell ⟨c, 3 + i, none⟩ (.int .u64 e)) o c i true 0 := CB.far (CB.drewN HO2.out nq) (p := ⟨c, 3 + i, none⟩) hoc _
  have hC3 := (HC2.out.drewN nq).setCell (a := ⟨c, 3 + i, none⟩) (.inl (.inl rfl)) (.int .u64 e)
  go_wp2
  obtain ⟨W3, hW3⟩ : ∃ W3, (W2.drewN nq).setCell ⟨c, 3 + i, none⟩ (.int .u64 e) = W3 := ⟨_, rfl⟩
  rw [hW3] at hE3 hO3 hC3
  rw [hW3]
  clear hW3 o0 o1 o2 o3 o4 ol fo2 fo3 c0 hl ka kf HE2 HO2 HC2
  obtain ⟨o0, o1, o2, o3, o4, ol, fo2, fo3⟩ := hO3.all
  have c0 := hE3.ck.c0
  have hl := hE3.ck.lt
  have ka : W3.cell? ⟨c, 3 + i, none⟩ = some (.int .u64 e) := by have := hE3.ck.ca hi; rwa [show setAn an i e i = e by simp [setAn]] at this
  have HE3 := Lib.hid hE3
  have HO3 := Lib.hid hO3
  have HC3 := Lib.hid hC3
  clear hE3 hO3 hC3
  go_upto_region 10 with (fail)
  refine wp_region_still_n 15 (by kernel_rfl) (by kernel_rfl) ?_
  simp only [List.take_succ_cons, List.take_zero, List.drop_succ_cons, List.drop_zero]
  repeat (go_big_quiet_step (fail))
  refine wpQuiet_nil ?_
  rintro _ ⟨nq, rfl⟩
  go_wp2
  go_ret
  refine ⟨rfl, ?_, ?_, ?_⟩
  · exact (HE3.out.below (below_drewN (Below.refl _ _) nq)).set (T := At o) ((Ch.refl _ _).set1 3 _) (fun b hb hF hh => by
      have hb' : b = o := hh
      subst hb'
      rcases hF with hf | hf
      · exact hoF'.out hf
      · exact hoc hf)
  · exact CB.set (CB.drewN HO3.out nq) 3 (.int .u64 e)
  · exact (HC3.out.drewN nq).setCell (a := ⟨o, 3, none⟩) (.inl (.inr rfl)) _
end
end Go.Proofs.Ytljolgcmkejlnaa
