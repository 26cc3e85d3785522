/- The law MemRuns. -/
import Derived.Test.YtngkhligjkcbmaaKa
import Derived.Test.YtngkhligjkcbmaaKv
namespace Go.Proofs.Ytngkhligjkcbmaa
open Go.RowKit
set_option linter.unusedVariables false

/-- Two fresh devices. -/
theorem two_fresh {w2 w3 w4 : World} {d1 d2 : Nat} {L1 L2 : Lay} {S T : DevS} (h1 : Dev w3 d1 L1 S) (b1 : Below w2.heap.size w2 w3) (f1 : ∀ b, Fp L1 b → w2.heap.size ≤ b) (h2 : Dev w4 d2 L2 T) (b2 : Below w3.heap.size w3 w4) (f2 : ∀ b, Fp L2 b → w3.heap.size ≤ b) :
    ∃ F G, Two F G d1 L1.t d2 L2.t w4 S T ∧ (∀ b, F b → w2.heap.size ≤ b) ∧ ∀ b, G b → w2.heap.size ≤ b := by
  have s1 := b1.size
  have s2 := b2.size
  refine ⟨fun b => w2.heap.size ≤ b ∧ ¬ (w3.heap.size ≤ b ∧ b < w4.heap.size), fun b => w3.heap.size ≤ b, ⟨⟨fun b hb => ⟨by omega, by omega⟩, L1, rfl, h1.below b2, fun b hb => ⟨f1 b hb, by have := h1.fr b hb; omega⟩⟩, ⟨fun b hb => by omega, L2, rfl, h2, f2⟩, fun b hb hf hg => hf.2 ⟨hg, hb⟩⟩, fun b hb => hb.1, fun b hb => by omega⟩
theorem fr_good : Good (newS frW 4) 0 := (new_on frW 4 frW_length).good
theorem fr_fitS : FitS (newS frW 4) := by
  refine ⟨frW_fits, fun q l hl p hp => ?_⟩
  simp only [newS, List.getElem?_replicate] at hl
  split at hl
  · injection hl with hl; subst hl; simp at hp
  · cases hl
theorem fr_fitC : FitC (newS frW 4) := frW_fits
theorem progOf_ok {w : World} {A : Option Addr} {n c : Nat} {z : List (Int × Int × Int)} (h : IsTrips w A n c z) : ∀ p ∈ progOf z, (0 ≤ p.2.1 ∧ p.2.1 < 18446744073709551616) ∧ (0 ≤ p.2.2 ∧ p.2.2 < 18446744073709551616) ∧ ∃ k : Nat, k < 32 ∧ p.2.1 = 8 * (k : Int) := by
  intro p hp
  unfold progOf at hp
  obtain ⟨x, hx, rfl⟩ := List.mem_map.1 hp
  obtain ⟨k, hk, rfl⟩ := List.getElem_of_mem (List.mem_of_mem_take hx)
  obtain ⟨_, _, _, _, _, _, _, _, r2, r3⟩ := h.2.2.2 k hk
  have hr : 0 ≤ z[k].2.1 % 32 ∧ z[k].2.1 % 32 < 32 := ⟨Int.emod_nonneg _ (by omega), Int.emod_lt_of_pos _ (by omega)⟩
  exact ⟨⟨by dsimp only; omega, by dsimp only; omega⟩, r3, (z[k].2.1 % 32).toNat, by omega, by dsimp only; omega⟩
theorem Two.alike {F G : Nat → Prop} {d e : Nat} {t u : Nat → Nat} {w : World} {S T : DevS} {N : Nat} (h : Two F G d t e u w S T) (hs : Same S T) (hf : FitS S) (hc : FitC S) (hG : Good S N) (hN : N < 1000000) :
    Calls Try.prog 32 #[.pointer (some ⟨d, 0, none⟩), .pointer (some ⟨e, 0, none⟩)] w fun r w' => r = .returned (.bool true) ∧ Below w.heap.size w w' := by
  obtain ⟨⟨_, L1, _, h1, _⟩, ⟨_, L2, _, h2, _⟩, _⟩ := h
  exact alike_ok w d e L1 L2 S T h1 h2 hs hf.pers hc (fun l hl => Nat.le_of_lt (hG.hist hN l hl))
theorem vThread1 {F : Nat → Prop} {d : Nat} {t : Nat → Nat} {w : World} {S : DevS} (h : DV F d t w S) : Calls Try.prog 22 #[.pointer (some ⟨d, 0, none⟩), .int .i64 1] w fun e w' => e = .returned (.pointer (some ⟨t 1, 0, none⟩)) ∧ w = w' := vThread h 1 (by omega)
theorem vThread0 {F : Nat → Prop} {d : Nat} {t : Nat → Nat} {w : World} {S : DevS} (h : DV F d t w S) : Calls Try.prog 22 #[.pointer (some ⟨d, 0, none⟩), .int .i64 0] w fun e w' => e = .returned (.pointer (some ⟨t 0, 0, none⟩)) ∧ w = w' := vThread h 0 (by omega)

set_option maxRecDepth 100000 in
set_option maxHeartbeats 8000000 in
theorem law_MemRuns (w : World) (A0 : Option Addr) (n0 c0 : Nat) (z0 : List (Int × Int × Int)) (hz0 : IsTrips w A0 n0 c0 z0) (nb : Int) (hnb : 0 ≤ nb ∧ nb ≤ 255) :
    Calls Try.prog 6 #[.slice A0 n0 c0, .int .u8 nb] w fun e w' => e = .returned (.bool true) ∧ Below w.heap.size w w' := by
  obtain ⟨ps, hps⟩ : ∃ ps, progOf z0 = ps := ⟨_, rfl⟩
  have hl0 := length_progOf z0
  have hok := progOf_ok hz0
  rw [hps] at hl0 hok
  obtain ⟨m, hm⟩ : ∃ m, ps.length = m := ⟨_, rfl⟩
  rw [hm] at hl0
  obtain ⟨g0, hg0⟩ : ∃ g, ps.all insB = g := ⟨_, rfl⟩
  have HAW := Lib.hid (awake10_ok w)
  have HP0 := Lib.hid (fun W (hW : Below w.heap.size w W) => program10_ok W A0 n0 c0 z0 (hz0.bx hW))
  unfold ProgPost at HP0
  rw [hps, hm, hg0] at HP0
  have HM := Lib.hid hm
  have HG0 := Lib.hid hg0
  have HOK := Lib.hid hok
  obtain ⟨nb0, nb1⟩ := hnb
  obtain ⟨z, hz⟩ : ∃ z : Int, nb % 64 = z := ⟨_, rfl⟩
  have hzb : -9223372036854775808 ≤ z ∧ z < 9223372036854775808 := by omega
  have ez : IntKind.i64.wrap z = z := IntWalk.i64_in _ (by omega)
  have HZB := Lib.hid hzb
  clear hz0 hps hm hg0 hok hzb
  go_enter Try.func6, Try.ntmps6
  go_upto_region 4 with (first
    | (go_at_call 11; refine HAW.out.mono ?_; rintro e w1 ⟨rfl, hb⟩; have HB1 := Lib.hid hb; clear hb)
    | (go_at_call 12; refine (HP0.out w1 HB1.out).mono ?_; rintro e w2 ⟨P0, k0, rfl, hS, hb, hO⟩; have HS0 := Lib.hid hS; have HB2 := Lib.hid (HB1.out.trans (hb.mono HB1.out.size)); have HFR1 := Lib.hid (fresh_ok w2); clear hS hb hO))
  clear HAW HP0 HB1
  go_upto_region 5 with (go_at_call 20; first
    | ((with_reducible refine HFR1.out.mono ?_); rintro e w3 ⟨d1, L1, rfl, hD, hb, hf⟩; have HD1 := Lib.hid hD; have HB3 := Lib.hid hb; have HF1 := Lib.hid hf; have HFR2 := Lib.hid (fresh_ok w3); clear hD hb hf)
    | ((with_reducible refine HFR2.out.mono ?_); rintro e w4 ⟨d2, L2, rfl, hD, hb, hf⟩; have HD2 := Lib.hid hD; have HB4 := Lib.hid hb; have HF2 := Lib.hid hf; clear hD hb hf))
  obtain ⟨F, G, hTwo, hF, hGf⟩ := two_fresh HD1.out HB3.out HF1.out HD2.out HB4.out HF2.out
  obtain ⟨S, hS0, hgood, hfit, hfitc⟩ : ∃ S, newS frW 4 = S ∧ Good S 0 ∧ FitS S ∧ FitC S := ⟨_, rfl, fr_good, fr_fitS, fr_fitC⟩
  rw [hS0] at hTwo
  obtain ⟨t1, ht1⟩ : ∃ t, L1.t = t := ⟨_, rfl⟩
  obtain ⟨t2, ht2⟩ : ∃ t, L2.t = t := ⟨_, rfl⟩
  rw [ht1, ht2] at hTwo
  have HB24 : Hid (Below w2.heap.size w2 w4) := HB3.out.trans (HB4.out.mono HB3.out.size)
  clear HFR1 HFR2 HD1 HD2 HB3 HB4 HF1 HF2 hS0 ht1 ht2
  have HA := Lib.hid (armV hTwo.1 z HZB.out)
  have HTW := Lib.hid hTwo
  clear hTwo
  go_upto_region 6 with (go_at_call 49; refine HA.out.mono ?_; rintro e w5 ⟨rfl, hD, hC⟩; obtain ⟨G5, hT5, hG5⟩ := HTW.out.left hD hC; have HT5 := Lib.hid hT5; have HB5 : Hid (Below w2.heap.size w2 w5) := HB24.out.trans ((hC.to_below HB24.out.size hF).mono (Nat.le_refl _)); have hG5' := fun b hb => hGf b (hG5 b hb); clear hD hC hT5)
  clear HA HTW HB24 hG5
  have HA := Lib.hid (armV HT5.out.2.1 z HZB.out)
  go_upto_region 7 with (go_at_call 49; refine HA.out.mono ?_; rintro e w6 ⟨rfl, hD, hC⟩; obtain ⟨F6, hT6, hF6⟩ := HT5.out.right hD hC; have HT6 := Lib.hid hT6; have HB6 : Hid (Below w2.heap.size w2 w6) := HB5.out.trans ((hC.to_below HB5.out.size hG5').mono (Nat.le_refl _)); have hF6' := fun b hb => hF (b) (hF6 b hb); clear hD hC hT6)
  clear HA HT5 HB5 hF6 hF hGf
  have hSA := hgood.arm z
  have hFA := hfit.arm z
  have hCA := hfitc.arm z
  obtain ⟨Z, hZ⟩ : ∃ Z, S.arm z = Z := ⟨_, rfl⟩
  rw [hZ] at HT6 hSA hFA hCA
  clear hgood hfit hfitc hZ
  have HSA := Lib.hid hSA
  have HFA := Lib.hid hFA
  have HCA := Lib.hid hCA
  clear hSA hFA hCA
  have HSl6 := Lib.hid (HS0.out.keep (w' := w6) (fun b hb => HB6.out.block b (HS0.out.lt hb)))
  have HTH := Lib.hid (vThread1 HT6.out.1)
  cases g0 with
  | false =>
    have HRB := Lib.hid (fun v u => memRun_bad w6 v P0 m k0 ps HM.out (by omega) HSl6.out HG0.out u)
    go_wp2_with (first
      | (go_at_call 22; refine HTH.out.mono ?_; rintro e w' ⟨rfl, rfl⟩)
      | (go_at_call 37; refine (HRB.out _ _).mono ?_; rintro e w7 ⟨rfl, hb⟩; obtain ⟨G7, hT7, _⟩ := HT6.out.below hb; have HAL := Lib.hid (hT7.alike (Same.refl _) HFA.out HCA.out HSA.out (by omega)); have HB7 : Hid (Below w2.heap.size w2 w7) := HB6.out.trans (hb.mono HB6.out.size); clear hb hT7)
      | (go_at_call 32; refine HAL.out.mono ?_; rintro e w8 ⟨rfl, hb⟩; have HB8 : Hid (Below w2.heap.size w2 w8) := HB7.out.trans (hb.mono HB7.out.size); clear hb))
    go_ret
    exact ⟨rfl, HB2.out.trans (HB8.out.mono HB2.out.size)⟩
  | true =>
    have hall : ∀ p ∈ ps, insB p = true := List.all_eq_true.1 HG0.out
    have HALL := Lib.hid hall
    have HRG := Lib.hid (memRun w6 HT6.out.1 1 (by omega) HSA.out P0 m k0 ps HM.out HSl6.out (fun b hb hf => by have := hF6' b hf; have := HS0.out.lt hb; omega) (by omega) (fun p hp => ⟨hall p hp, (HOK.out p hp).1⟩))
    clear hall
    go_upto_region 11 with (first
      | (go_at_call 22; refine HTH.out.mono ?_; rintro e w' ⟨rfl, rfl⟩)
      | (go_at_call 37; refine HRG.out.mono ?_; rintro e w7 ⟨rfl, hD, hC⟩; obtain ⟨G7, hT7, hG7⟩ := HT6.out.left hD hC; have HT7 := Lib.hid hT7; have HB7 : Hid (Below w2.heap.size w2 w7) := HB6.out.trans ((hC.to_below HB6.out.size hF6').mono (Nat.le_refl _)); have hG7' := fun b hb => hG5' b (hG7 b hb); clear hD hC hT7))
    obtain ⟨err, herr⟩ : ∃ err, ((Z.runP 1 ps).thr 1).err = err := ⟨_, rfl⟩
    have HER := Lib.hid herr
    rw [herr]
    clear herr HRG HTH HT6 HB6 HSl6
    have HI0 : Hid (∃ F G, Two F G d1 t1 d2 t2 w7 (Z.runP 1 ps) (Z.runP 1 (ps.take 0)) ∧ (∀ b, G b → w2.heap.size ≤ b)) := ⟨F6, G7, HT7.out, hG7'⟩
    clear HT7
    go_loopw [47, 11, 48, 49, 50, 51, 52, 53, 54, 55] (fun i _ _ _ _ _ _ _ _ _ wr => ∃ k : Nat, k ≤ m ∧ i = .int .i64 k ∧ (∃ F G, Two F G d1 t1 d2 t2 wr (Z.runP 1 ps) (Z.runP 1 (ps.take k)) ∧ (∀ b, G b → w2.heap.size ≤ b)) ∧ Below w2.heap.size w2 wr) (fun i _ _ _ _ _ _ _ _ _ _ => m - (intOf i).toNat)
    case atStart => exact ⟨0, by omega, rfl, HI0.out, HB7.out⟩
    case round =>
      clear HI0
      obtain ⟨k, hk, rfl, ⟨Fk, Gk, hT, hGk⟩, hB⟩ := hrel
      have HT := Lib.hid hT
      have HB := Lib.hid hB
      have HGK := Lib.hid hGk
      clear hT hB hGk
      by_cases hlt : k < m
      · have hkl : k < ps.length := by rw [HM.out]; exact hlt
        obtain ⟨g, off, hA', hl, x1, x2, x3⟩ := (HS0.out.keep (w' := wr) (fun b hb => HB.out.block b (HS0.out.lt hb))).ins hkl
        obtain ⟨⟨op, of, v⟩, hp⟩ : ∃ p, ps[k] = p := ⟨_, rfl⟩
        rw [hp] at x1 x2 x3
        have hpp := HOK.out _ (List.getElem_mem hkl)
        have hop : 1 ≤ op ∧ op ≤ 3 := by have := HALL.out _ (List.getElem_mem hkl); rw [hp] at this; simpa [insB] using this
        rw [hp] at hpp
        have hof : 0 ≤ of ∧ of < 18446744073709551616 := hpp.1
        have HOF := Lib.hid hof
        have HOP := Lib.hid hop
        have HGk : Hid (Good (Z.runP 1 (ps.take k)) (0 + k)) := by
          have := Good.runP (i := 1) (by omega) (ps.take k) HSA.out (fun p hp => (HOK.out p (List.mem_of_mem_take hp)).1.1) (by rw [List.length_take]; omega)
          rwa [List.length_take, Nat.min_eq_left (by omega)] at this
        have HSU : Hid (Z.runP 1 (ps.take (k + 1)) = (Z.runP 1 (ps.take k)).exec1 1 (op, of, v)) := by
          show _ = _
          rw [List.take_succ_eq_append_getElem hkl, runP_snoc, hp]
        subst hA'
        clear hp hpp hop hof
        go_wp2
        obtain ⟨V, hV⟩ : ∃ V, wr.alloc (.cells #[.int .u8 op, .int .u64 of, .int .u64 v] 32) = V := ⟨_, rfl⟩
        have hVb : Below wr.heap.size wr V := by rw [← hV]; exact bl_alloc (Below.refl _ _) _
        obtain ⟨tv, htv⟩ : ∃ tv, wr.heap.size = tv := ⟨_, rfl⟩
        have hVt : CB V tv 32 #[.int .u8 op, .int .u64 of, .int .u64 v] := by rw [← hV, ← htv]; exact CB.new wr _ _
        have y0 : V.cell? ⟨tv, 0, none⟩ = some (.int .u8 op) := hVt.cell_some rfl
        have y1 : V.cell? ⟨tv, 1, none⟩ = some (.int .u64 of) := hVt.cell_some rfl
        have y2 : V.cell? ⟨tv, 2, none⟩ = some (.int .u64 v) := hVt.cell_some rfl
        have y3 : tv < V.heap.size := hVt.lt
        obtain ⟨G8, hT8, hG8⟩ := HT.out.swap.left (HT.out.swap.1.below hVb) (Ch.of_below hVb)
        have hT8' := hT8.swap
        have HT8 := Lib.hid hT8'
        have HTV := Lib.hid (fun n => vThread1 (hT8'.2.1.drewN n))
        have HB8 : Hid (Below w2.heap.size w2 V) := HB.out.trans (hVb.mono HB.out.size)
        rw [hV, htv]
        clear hV hVb hVt hT8 hT8' htv hG8
        refine wp_region_still_n 3 (by kernel_rfl) (by kernel_rfl) ?_
        simp only [List.take_succ_cons, List.take_zero, List.drop_succ_cons, List.drop_zero]
        repeat (go_big_quiet_step ((go_at_call 22; exact q_same (HTV.out _))))
        refine wpQuiet_nil ?_
        rintro _ ⟨nq, rfl⟩
        have HEX := Lib.hid (exec10 (V.drewN nq) (HT8.out.2.1.drewN nq) 1 (by omega) HGk.out (by omega) op of v HOF.out HOP.out)
        go_wp2_with (go_at_call 50; refine HEX.out.mono ?_; rintro e w9 ⟨rfl, hD, hC⟩; obtain ⟨F9, hT9, _⟩ := (HT8.out.drewN nq).right hD hC; have HT9 := Lib.hid hT9; have HB9 : Hid (Below w2.heap.size w2 w9) := (bl_drewN HB8.out nq).trans (hC.to_below (B := w2.heap.size) HB8.out.size (fun b hb => HGK.out b hb)); clear hD hC hT9)
        go_roundw
        case rel => exact ⟨k + 1, by omega, by go_num, ⟨F9, Gk, by rw [HSU.out]; exact HT9.out, HGK.out⟩, HB9.out⟩
        case measure => simp [intOf]; omega
      · obtain rfl : k = m := by omega
        have HTK : Hid (ps.take k = ps) := List.take_of_length_le (by rw [HM.out]; exact Nat.le_refl _)
        rw [HTK.out] at HT
        have HGZ := Good.runP (i := 1) (by omega) ps HSA.out (fun p hp => (HOK.out p hp).1.1) (by rw [HM.out]; omega)
        rw [HM.out] at HGZ
        have HAL := Lib.hid (HT.out.alike (Same.refl _) (FitS.runP 1 ps HFA.out (fun p hp => (HOK.out p hp).2.1)) (FitC.runP 1 ps HCA.out (fun p hp => (HOK.out p hp).2.1)) HGZ (by omega))
        have HT2 := Lib.hid (fun W (hW : Below wr.heap.size wr W) => vThread1 (HT.out.2.1.below hW))
        have HE2 := Lib.hid (fun W (hW : Below wr.heap.size wr W) => by
          have := vErr (HT.out.2.1.below hW) 1 (by omega)
          rwa [HER.out] at this)
        clear HGZ
        go_wp2_with (first
          | (go_at_call 32; refine HAL.out.mono ?_; rintro e w8 ⟨rfl, hb⟩; have HB8 := Lib.hid hb; clear hb)
          | (go_at_call 22; refine (HT2.out _ HB8.out).mono ?_; rintro e w' ⟨rfl, rfl⟩)
          | (go_at_call 51; refine (HE2.out _ HB8.out).mono ?_; rintro e w' ⟨rfl, rfl⟩))
        go_ret
        exact ⟨by simp, HB2.out.trans ((HB.out.trans (HB8.out.mono HB.out.size)).mono HB2.out.size)⟩
end Go.Proofs.Ytngkhligjkcbmaa
