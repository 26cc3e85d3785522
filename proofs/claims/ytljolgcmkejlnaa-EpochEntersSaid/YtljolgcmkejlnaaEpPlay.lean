/- The law EpochPlays returns true. -/
import Derived.Test.YtljolgcmkejlnaaEpSame
import Derived.Test.YtljolgcmkejlnaaRowA
namespace Go.Proofs.Ytljolgcmkejlnaa
open Go.RowKit
set_option linter.unusedVariables false

theorem doS_range {e : Int} {an : Nat → Int} {k z : Int} : e ≤ (doS e an k z).1 ∧ (doS e an k z).1 ≤ e + 1 := by
  unfold doS
  split
  · simp; omega
  · split
    · simp; omega
    · split
      · unfold advF; split
        · simp; omega
        · split <;> simp <;> omega
      · simp; omega
theorem CB.set9 {w : World} {g : Nat} {e : Int} {an : Nat → Int} (h : CB w g 28 (rcC e an)) (e' : Int) (an' : Nat → Int) :
    CB (((((((((w.setCell ⟨g, 0, none⟩ (.int .u64 e')).setCell ⟨g, 1, none⟩ (.int .u64 (an' 0))).setCell ⟨g, 2, none⟩ (.int .u64 (an' 1))).setCell ⟨g, 3, none⟩ (.int .u64 (an' 2))).setCell ⟨g, 4, none⟩ (.int .u64 (an' 3))).setCell ⟨g, 5, none⟩ (.int .u64 (an' 4))).setCell ⟨g, 6, none⟩ (.int .u64 (an' 5))).setCell ⟨g, 7, none⟩ (.int .u64 (an' 6))).setCell ⟨g, 8, none⟩ (.int .u64 (an' 7))) g 28 (rcC e' an') := by
  have h9 := ((((((((h.set 0 (.int .u64 e')).set 1 (.int .u64 (an' 0))).set 2 (.int .u64 (an' 1))).set 3 (.int .u64 (an' 2))).set 4 (.int .u64 (an' 3))).set 5 (.int .u64 (an' 4))).set 6 (.int .u64 (an' 5))).set 7 (.int .u64 (an' 6))).set 8 (.int .u64 (an' 7))
  have e1 : ((((((((((rcC e an).setIfInBounds 0 (.int .u64 e')).setIfInBounds 1 (.int .u64 (an' 0))).setIfInBounds 2 (.int .u64 (an' 1))).setIfInBounds 3 (.int .u64 (an' 2))).setIfInBounds 4 (.int .u64 (an' 3))).setIfInBounds 5 (.int .u64 (an' 4))).setIfInBounds 6 (.int .u64 (an' 5))).setIfInBounds 7 (.int .u64 (an' 6))).setIfInBounds 8 (.int .u64 (an' 7))) = rcC e' an' := by simp [rcC]
  rw [e1] at h9
  exact h9
/-- The loop's invariant. -/
def PlInv (w : World) (d : Nat) (t : Nat → Nat) (B k : Nat) (c : Nat) (wr : World) : Prop :=
  ∃ F S e an, Ep F d t c wr S 4 2 (wE 4 2 e) e an (13 + 3 * k) ∧ 2 ≤ e ∧ e ≤ 2 + (k : Int) ∧ CB wr B 28 (rcC e an) ∧ (∀ b, F b → w.heap.size ≤ b ∧ b ≠ B) ∧ w.heap.size ≤ c ∧ c ≠ B ∧ Below w.heap.size w wr

set_option maxRecDepth 100000 in
set_option maxHeartbeats 4000000 in
theorem law_EpochPlays (w : World) (A : Option Addr) (n cp : Nat) (acts : List (Int × Int)) (hA : IsActs w A n cp acts) :
    Calls Try.prog 3 #[.slice A n cp] w fun r w' => r = .returned (.bool true) ∧ Below w.heap.size w w' := by
  have hnc := hA.2.1
  have hcm := hA.2.2.1
  have HA := Lib.hid hA
  clear hA
  go_enter Try.func3, Try.ntmps3
  go_wp2_with (first
    | (go_at_call 9; refine (begin18 _).mono ?_; rintro r w1 ⟨d, t, c, S, rfl, hE, hc, hb⟩; have HE := Lib.hid hE; have HB := Lib.hid hb; clear hE hb; unfold rcv)
    | (go_at_call 10; refine (awake18 _).mono ?_; rintro r w2 ⟨rfl, hb2⟩; obtain ⟨x, rfl⟩ := bx_of hb2; clear hb2))
  have HI0 : Hid (PlInv w d t w1.heap.size 0 c x.w) := by
    have hb1 := HB.out.size
    have hcl := HE.out.ck.lt
    refine ⟨_, S, 2, _, (HE.out.less (bl_alloc (a := w1) (Below.refl _ _) (.cells #[.int .u64 2, .int .u64 0, .int .u64 0, .int .u64 0, .int .u64 0, .int .u64 0, .int .u64 0, .int .u64 0, .int .u64 0] 28)) (fun b => b = w1.heap.size) (fun b hb => ⟨by omega, by rw [hb]; simp⟩)).below x.below, by omega, by omega, ?_, fun b hb => ⟨hb.1.1, hb.2⟩, hc, by omega, ?_⟩
    · exact (CB.new w1 28 (rcC 2 (fun _ => 0))).bx x
    · exact bl_bx (bl_alloc HB.out _) x
  obtain ⟨B, hBB⟩ : ∃ B, w1.heap.size = B := ⟨_, rfl⟩
  have hBw : w.heap.size ≤ B := by rw [← hBB]; exact HB.out.size
  obtain ⟨W, hW⟩ : ∃ W, x.w = W := ⟨_, rfl⟩
  rw [hBB, hW] at HI0
  rw [hBB, hW]
  clear hBB hW HB HE
  go_loopw [6, 4, 7, 19, 20, 21, 22, 23, 24, 25, 26, 27, 28, 29, 30, 31, 32, 33, 34, 35, 36, 37, 38, 39, 40, 41, 42, 43, 44, 45, 46, 47, 48] (fun i p _ _ _ _ _ _ _ _ _ _ _ _ _ _ _ _ _ _ _ _ _ _ _ _ _ _ _ _ _ _ _ wr => ∃ k c : Nat, k ≤ 30 ∧ i = .int .i64 k ∧ p = .pointer (some ⟨c, 0, none⟩) ∧ PlInv w d t B k c wr) (fun i _ _ _ _ _ _ _ _ _ _ _ _ _ _ _ _ _ _ _ _ _ _ _ _ _ _ _ _ _ _ _ _ _ => 30 - (intOf i).toNat)
  case atStart => exact ⟨0, c, by omega, rfl, rfl, HI0.out⟩
  case round =>
    clear HI0
    obtain ⟨k, c1, hk, rfl, rfl, F, S1, e, an, hE, he1, he2, hR, hF, hc1, hcB, hBl⟩ := hrel
    by_cases hin : (k : Int) < (n : Int) ∧ (k : Int) < 30
    · obtain ⟨hi1, hi2⟩ := hin
      have hkl : k < acts.length := by rw [HA.out.1]; omega
      obtain ⟨b, off, hA', hbl, a0, a1, ra0, ra1⟩ := HA.out.2.2.2 k hkl
      obtain ⟨⟨kd, th⟩, hact⟩ : ∃ p, acts[k] = p := ⟨_, rfl⟩
      rw [hact] at a0 a1 ra0 ra1
      have hbs := hBl.size
      have a0' : wr.cell? ⟨b, off + k * 2, none⟩ = some (.int .i64 kd) := (hBl.cell (p := ⟨b, off + k * 2, none⟩) hbl).trans a0
      have a1' : wr.cell? ⟨b, off + k * 2 + 1, none⟩ = some (.int .i64 th) := (hBl.cell (p := ⟨b, off + k * 2 + 1, none⟩) hbl).trans a1
      have hbl' : b < wr.heap.size := by omega
      have hkn : k < n := by omega
      subst hA'
      obtain ⟨r0, r1, r2, r3, r4, r5, r6, r7, r8, rl⟩ := hR.rc
      have HDO : Hid (∀ m, Calls Try.prog 11 #[.pointer (some ⟨d, 0, none⟩), .pointer (some ⟨c1, 0, none⟩), rcv e an, .agg #[.int .i64 kd, .int .i64 th]] (wr.drewN m) (DoPost F d t c1 e an (13 + 3 * k) e an kd th (wr.drewN m))) := fun m => do18 (hE.below (below_drewN (Below.refl _ _) m)) e an kd th ra0 (by omega) (by omega) (by omega)
      have HR := Lib.hid hR
      have HF := Lib.hid hF
      have HBl := Lib.hid hBl
      clear hE hR hF hBl hact a0 a1 HA
      unfold rcv at HDO
      go_upto_region 8 with (fail)
      go_cut [4, 7] from 29 (fun p s wx => ∃ c2 : Nat, p = .pointer (some ⟨c2, 0, none⟩) ∧ s = .bool true ∧ PlInv w d t B (k + 1) c2 wx)
      case first =>
        refine ord_reads [0, 1, 2, 3, 4, 5, 6] [.h [7, 8], .p [9, 10, 11, 12], .h [13, 14]] (by kernel_rfl) (fun _ _ d _ _ h => by cases d <;> exact h) (by kernel_rfl) ?_
        dsimp only [pick, List.filterMap, List.getElem?_cons_zero, List.getElem?_cons_succ]
        (repeat (go_big_quiet_step (fail))); refine wpQuiet_nil ?_
        rintro _ ⟨nq, rfl⟩
        with_reducible refine part_hard ?_
        dsimp only [pick, List.filterMap, List.getElem?_cons_zero, List.getElem?_cons_succ]
        go_wp2_with (go_at_call 11; refine (HDO.out _).mono ?_; rintro r w3 ⟨F3, c3, S3, b3, rfl, hb3, hE3, hF3, hc3, _, hC3⟩; obtain rfl := hb3 rfl rfl; have HE3 := Lib.hid hE3; have HC3 := Lib.hid hC3; have HF3 := Lib.hid hF3; have HCC := Lib.hid hc3; clear hb3 hE3 hC3 hF3 hc3; unfold rcv)
        have hR3 : CB w3 B 28 (rcC e an) := (HR.out.drewN nq).ch HC3.out (fun h => by rcases h with h | h; exact (HF.out B h).2 rfl; exact hcB h.symm)
        obtain ⟨q0, q1, q2, q3, q4, q5, q6, q7, q8, ql⟩ := hR3.rc
        obtain ⟨f0, f1, f2, f3, f4, f5, f6, f7, f8⟩ := hR3.rcf
        have HR3 := Lib.hid hR3
        clear hR3 r0 r1 r2 r3 r4 r5 r6 r7 r8 rl a0' a1' hbl'
        have hrg := doS_range (e := e) (an := an) (k := kd) (z := th)
        obtain ⟨e', he'⟩ : ∃ e', (doS e an kd th).1 = e' := ⟨_, rfl⟩
        obtain ⟨an', han'⟩ : ∃ an', (doS e an kd th).2 = an' := ⟨_, rfl⟩
        rw [he', han'] at HE3
        rw [he'] at hrg
        rw [he', han']
        clear he' han'
        have hend : ∀ W4, Ch (At B) w3 W4 → CB W4 B 28 (rcC e' an') → PlInv w d t B (k + 1) c3 W4 := by
          intro W4 hC4 hR4
          have hws : (wr.drewN nq).heap.size = wr.heap.size := rfl
          refine ⟨F3, S3, e', an', ?_, by omega, by omega, hR4, fun b hb => HF.out b (HF3.out b hb), ?_, ?_, ?_⟩
          · have := (HE3.out.set hC4 (fun b hb hF h => by
              have hb' : b = B := h
              subst hb'
              rcases hF with hf | hf
              · exact (HF.out b (HF3.out b hf)).2 rfl
              · rcases HCC.out with h1 | h1
                · exact hcB (by rw [← h1, hf])
                · rw [hws] at h1; have := HR.out.lt; omega))
            rw [show 13 + 3 * (k + 1) = 13 + 3 * k + 3 by omega]
            exact this
          · rcases HCC.out with h1 | h1
            · rw [h1]; exact hc1
            · rw [hws] at h1; omega
          · rcases HCC.out with h1 | h1
            · rw [h1]; exact hcB
            · rw [hws] at h1; have := HR.out.lt; omega
          · refine bl_ch (bl_ch (bl_drewN HBl.out nq) HC3.out (fun b hb => ?_)) hC4 (fun b hb => by rw [show b = B from hb]; exact hBw)
            rcases hb with h | h
            · exact (HF.out b h).1
            · rw [h]; exact hc1
        have HEND := Lib.hid hend
        clear hend
        with_reducible refine segs_end ?_
        with_reducible refine part_pure ?_
        dsimp only [pick, List.filterMap, List.getElem?_cons_zero, List.getElem?_cons_succ]
        (repeat (first | (refine pure_ex rfl ?_; apply Exists.intro; apply And.intro; (intro w; go_simp; rfl); simp only [Act.put, List.setIfInBounds_toArray, List.set_cons_succ, List.set_cons_zero]) | (refine pure_skip rfl ?_; simp only [Act.put, List.setIfInBounds_toArray, List.set_cons_succ, List.set_cons_zero]))); refine pure_nil ?_
        with_reducible refine part_hard ?_
        dsimp only [pick, List.filterMap, List.getElem?_cons_zero, List.getElem?_cons_succ]
        go_wp2
        with_reducible refine segs_end ?_
        with_reducible refine part_nil ?_
        go_wp2
        go_meet
        case rel =>
          refine ⟨c3, rfl, rfl, HEND.out _ (by repeat (first | with_reducible exact Ch.refl _ _ | with_reducible refine Ch.drew ?_ | with_reducible refine Ch.set1 ?_ _ _)) ?_⟩
          with_reducible exact HR3.out.set9 e' an'
      case rest =>
        obtain ⟨c2, rfl, rfl, F2, S2, e', an', hE2, he1', he2', hR2, hF2, hc2, hcB2, hB2⟩ := hcut
        obtain ⟨q0, q1, q2, q3, q4, q5, q6, q7, q8, ql⟩ := hR2.rc
        have HSM := Lib.hid (same18 hE2)
        have HE2 := Lib.hid hE2
        have HR2 := Lib.hid hR2
        have HF2 := Lib.hid hF2
        have HB2 := Lib.hid hB2
        have hcl2 := hE2.ck.lt
        unfold rcv at HSM
        clear hE2 hR2 hF2 hB2 HDO HR HF HBl r0 r1 r2 r3 r4 r5 r6 r7 r8 rl a0' a1' hbl'
        go_wp2_with (go_at_call 12; refine HSM.out.mono ?_; rintro r w4 ⟨rfl, hb4⟩; obtain ⟨y, rfl⟩ := bx_of hb4; clear hb4)
        exact ⟨⟨k + 1, c2, by omega, by go_num, rfl, F2, S2, e', an', HE2.out.below y.below, he1', by omega, HR2.out.bx y, HF2.out, hc2, hcB2, bl_bx HB2.out y⟩, by simp [intOf]; omega⟩
    · have HBl := Lib.hid hBl
      clear hE hR hF hBl HA
      by_cases hi1 : (k : Int) < (n : Int)
      · have hi2 : ¬ (k : Int) < 30 := by omega
        go_wp2
        go_ret
        exact ⟨rfl, HBl.out⟩
      · go_wp2
        go_ret
        exact ⟨rfl, HBl.out⟩
end Go.Proofs.Ytljolgcmkejlnaa
