/- awake of the laws on bitmaps. -/
import Derived.Test.YtbhkdngbgokilaaDoorBmJ
namespace Go.Proofs.YtbhkdngbgokilaaDoor
open Go.RowKit
set_option linter.unusedVariables false

theorem Msk.same {f f' : Nat → Int} {l : List Nat} (h : Msk f l) (h' : Msk f' l) : ∀ q, q < 8 → f q = f' q := by
  intro q hq
  obtain ⟨r1, b1⟩ := h q hq
  obtain ⟨r2, b2⟩ := h' q hq
  have e : (f q).toNat = (f' q).toNat := by
    apply Nat.eq_of_testBit_eq
    intro i
    by_cases hi : i < 64
    · rw [b1 i hi, b2 i hi]
    · have hp := Nat.pow_le_pow_right (n := 2) (by omega) (show 64 ≤ i by omega)
      rw [Nat.testBit_lt_two_pow (x := (f q).toNat) (by omega), Nat.testBit_lt_two_pow (x := (f' q).toNat) (by omega)]
  omega
theorem chF_congr {ws : List Int} {f f' g g' : Nat → Int} : ∀ k, (∀ q, q < k → f q = f' q ∧ g q = g' q) → chF ws f g k = chF ws f' g' k := by
  intro k
  induction k with
  | zero => intro _; rfl
  | succ k ih =>
    intro h
    obtain ⟨h1, h2⟩ := h k (by omega)
    rw [chF_step, chF_step, ih (fun q hq => h q (by omega))]
    unfold touB fitB
    rw [h1, h2]
theorem chL_congr {ws : List Int} {a : Nat} {f f' g g' : Nat → Int} : ∀ k, (∀ q, q < k → f q = f' q ∧ g q = g' q) → chL ws a f g k = chL ws a f' g' k := by
  intro k
  induction k with
  | zero => intro _; rfl
  | succ k ih =>
    intro h
    obtain ⟨h1, h2⟩ := h k (by omega)
    rw [chL_step, chL_step, ih (fun q hq => h q (by omega))]
    unfold chOne touB newV
    rw [h1, h2]
section
variable {F : Nat → Prop} {d : Nat} {t : Nat → Nat} {w : World} {S : DevS} {N : Nat} {xs : List Int}
theorem onSize (h : DV F d t w S) (hO : On S 12 xs N) : ∀ W, Below w.heap.size w W → Calls Tryd.prog 102 #[.pointer (some ⟨t 0, 0, none⟩)] W fun e w' => e = .returned (.int .u64 768) ∧ W = w' := by
  intro W hW
  have := vSize (h.below hW) 0 (by omega)
  rwa [hO.nl] at this
theorem onErr (h : DV F d t w S) (hO : On S 12 xs N) : ∀ W, Below w.heap.size w W → Calls Tryd.prog 17 #[.pointer (some ⟨t 0, 0, none⟩)] W fun e w' => e = .returned (.int .i64 0) ∧ W = w' := by
  intro W hW
  have := vErr (h.below hW) 0 (by omega)
  rwa [hO.err 0] at this
end
theorem rd_list {k : IntKind} {e : TypeId} (w : World) (xs : List Int) : Rd k (w.alloc (.cells (ia k xs) e)) (some ⟨w.heap.size, 0, none⟩) xs :=
  .inr ⟨w.heap.size, 0, rfl, by simp, fun i hi => by rw [Nat.zero_add]; exact (IB.new (k := k) (e := e) w xs).cell hi⟩
theorem rd_cb {k : IntKind} {e : TypeId} {w : World} {g : Nat} (xs : List Int) (h : CB w g e (ia k xs)) : Rd k w (some ⟨g, 0, none⟩) xs :=
  .inr ⟨g, 0, rfl, h.lt, fun i hi => by rw [Nat.zero_add, h.cell, ia_get k xs hi]⟩
def awX : List Int := layW 3 [6, 1] 2
theorem aw_facts : onesTo (awX.drop 3) 70 = 3 ∧ nextB (awX.drop 3) 70 0 false = 0 ∧ chF (awX.drop 3) (set8 (fun _ => 0) 0 1) (set8 (fun _ => 0) 1 1) 2 = true ∧ chL (awX.drop 3) 3 (set8 (fun _ => 0) 0 1) (set8 (fun _ => 0) 1 1) 2 = [(24, 7), (32, 0)] := by
  refine ⟨by decide +kernel, by decide +kernel, by decide +kernel, by decide +kernel⟩
theorem aw_f : Msk (set8 (fun _ => 0) 0 1) [0] := by
  have := Msk.zero.add (j := 0) (by omega)
  have e : bits .or .u64 ((fun _ => (0 : Int)) (0 / 64)) ((2 ^ (0 % 64) : Nat) : Int) = 1 := by decide +kernel
  rw [e] at this
  simpa using this
theorem aw_g : Msk (set8 (fun _ => 0) 1 1) [64] := by
  have := Msk.zero.add (j := 64) (by omega)
  have e : bits .or .u64 ((fun _ => (0 : Int)) (64 / 64)) ((2 ^ (64 % 64) : Nat) : Int) = 1 := by decide +kernel
  rw [e] at this
  simpa using this

theorem aw_change {w w' : World} {f g : Nat → Int} {e : Ending} (hf : Msk f [0]) (hg : Msk g [64]) (h : ChPost w (awX.drop 3) 3 70 f g e w') :
    ∃ A c, e = .returned (.tuple #[.slice A 2 c, .int .i64 0]) ∧ Sl 47 2 w' A 2 c (wcells [(24, 7), (32, 0)]) ∧ Below w.heap.size w w' := by
  have hs : ∀ q, q < 2 → f q = set8 (fun _ => 0) 0 1 q ∧ g q = set8 (fun _ => 0) 1 1 q := fun q hq => ⟨hf.same aw_f q (by omega), hg.same aw_g q (by omega)⟩
  obtain ⟨_, _, a3, a4⟩ := aw_facts
  have h1 := (chF_congr (ws := awX.drop 3) 2 hs).trans a3
  have h2 := (chL_congr (ws := awX.drop 3) (a := 3) 2 hs).trans a4
  obtain ⟨hB, h⟩ := h
  rw [show (70 + 63) / 64 = 2 from rfl, h1, h2] at h
  rcases h with ⟨h, _⟩ | ⟨_, A, c, rfl, hS, _⟩
  · cases h
  · exact ⟨A, c, rfl, hS, hB⟩
set_option maxRecDepth 100000 in
set_option maxHeartbeats 4000000 in
theorem awake20 (w : World) (hT : Tab w) : Calls Tryd.prog 10 #[] w fun e w' => e = .returned (.bool true) ∧ Below w.heap.size w w' := by
  have hfits := layW_fits 3 [6, 1] (fun x hx => by simp only [List.mem_cons, List.not_mem_nil, or_false] at hx; rcases hx with rfl | rfl <;> omega) 2
  have HFT := Lib.hid (show FitsB awX from hfits.1)
  have HLN := Lib.hid (show awX.length = 96 from hfits.2)
  have HT := Lib.hid hT
  have HRD : Hid (Rd .u64 (w.alloc (.cells #[.int .u64 6, .int .u64 1] 34)) (some ⟨w.heap.size, 0, none⟩) [6, 1]) := rd_list (k := .u64) (e := 34) w [6, 1]
  have HLY : Hid (Calls Tryd.prog 11 #[inv20 70 3 (some ⟨w.heap.size, 0, none⟩) 2 2] (w.alloc (.cells #[.int .u64 6, .int .u64 1] 34)) (LayPost (w.alloc (.cells #[.int .u64 6, .int .u64 1] 34)) awX)) := lay20 _ 70 3 (by omega) (some ⟨w.heap.size, 0, none⟩) 2 2 [6, 1] rfl (by omega) HRD.out
  clear hfits hT HRD
  unfold inv20 at HLY
  go_enter Tryd.func10, Tryd.ntmps10
  go_upto_region 4 with (go_at_call 11; refine HLY.out.mono ?_; rintro e w1 ⟨d, t, S, rfl, hV, hO, hB⟩; have HV := Lib.hid hV; have HO := Lib.hid hO; have HB := Lib.hid hB; clear hV hO hB)
  have HSZ := Lib.hid (onSize HV.out HO.out)
  have HER := Lib.hid (onErr HV.out HO.out)
  have HLD := Lib.hid (ldV HV.out HO.out 0 (by omega))
  obtain ⟨T, hTT⟩ : ∃ T, t 0 = T := ⟨_, rfl⟩
  rw [hTT] at HSZ HER HLD
  rw [hTT]
  clear hTT HLY
  have HBW : Hid (Below w.heap.size w w1) := (show Below w.heap.size w (w.alloc (.cells #[.int .u64 6, .int .u64 1] 34)) by (repeat (first | with_reducible exact Below.refl _ _ | with_reducible refine bl_alloc ?_ _ | with_reducible refine bl_drew ?_ | with_reducible refine bl_drewN ?_ _ | with_reducible refine bl_bx ?_ _ | with_reducible exact BX.below _ | with_reducible refine bl_set ?_ (by first | (exact Nat.le_refl _) | (simp; done) | (simp; omega)) _ | assumption))).trans (HB.out.mono (by simp))
  have HT1 := Lib.hid (HT.out.below HBW.out)
  have E1 : (8 * ((3 : Nat) : Int)) = 24 := rfl
  have E2 : ((70 : Nat) : Int) = 70 := rfl
  have HOP : Hid (∀ W, Below w1.heap.size w1 W → Calls Tryd.prog 13 #[.iface 28 (.pointer (some ⟨T, 0, none⟩)), .int .u64 24, .int .i64 70] W fun e w' => e = .returned (.tuple #[.agg #[.iface 28 (.pointer (some ⟨T, 0, none⟩)), .int .u64 24, .int .i64 70], .int .i64 0]) ∧ Below W.heap.size W w') := fun W hW => by
    have := bmOpen_ok W T 24 70 0 (by omega) (fun W' hW' => HSZ.out W' (hW.trans (hW'.mono hW.size))) (fun W' hW' => HER.out W' (hW.trans (hW'.mono hW.size))) (by decide)
    rwa [if_pos rfl] at this
  have HCH : Hid (∀ W, Below w1.heap.size w1 W → ∀ A1 c1 A2 c2, Rd .i64 W A1 [0] → Rd .i64 W A2 [64] → Calls Tryd.prog 15 #[.agg #[.iface 28 (.pointer (some ⟨T, 0, none⟩)), .int .u64 24, .int .i64 70], .slice A1 1 c1, .slice A2 1 c2] W fun e w' => ∃ A c, e = .returned (.tuple #[.slice A 2 c, .int .i64 0]) ∧ Sl 47 2 w' A 2 c (wcells [(24, 7), (32, 0)]) ∧ Below W.heap.size W w') := fun W hW A1 c1 A2 c2 hR1 hR2 => by
    have := bmChange_ok W T awX 3 70 (HLD.out.below hW) (fun W' hW' => HER.out W' (hW.trans (hW'.mono hW.size))) HFT.out (by rw [HLN.out]; omega) (by rw [HLN.out]; omega) (by omega) A1 1 c1 [0] rfl (by omega) hR1 A2 1 c2 [64] rfl (by omega) hR2 (by decide) (by decide)
    unfold bmv at this
    rw [E1, E2] at this
    exact this.mono fun e w' ⟨f, g, hf, hg, h⟩ => aw_change hf hg h
  have HON : Hid (∀ W, Below w1.heap.size w1 W → Calls Tryd.prog 21 #[.agg #[.iface 28 (.pointer (some ⟨T, 0, none⟩)), .int .u64 24, .int .i64 70]] W fun e w' => e = .returned (.int .i64 3) ∧ Below W.heap.size W w') := fun W hW => by
    have := bmOnes W T awX 3 70 (HLD.out.below hW) HFT.out (by rw [HLN.out]; omega) (by rw [HLN.out]; omega) (by omega)
    unfold bmv at this
    rw [E1, E2, aw_facts.1] at this
    exact this
  have HNX : Hid (∀ W, Below w1.heap.size w1 W → Calls Tryd.prog 23 #[.agg #[.iface 28 (.pointer (some ⟨T, 0, none⟩)), .int .u64 24, .int .i64 70], .int .i64 0, .bool false] W fun e w' => e = .returned (.int .i64 0) ∧ Below W.heap.size W w') := fun W hW => by
    have := bmNext_from W T awX 3 70 (HT1.out.below hW) (HLD.out.below hW) HFT.out (by rw [HLN.out]; omega) (by rw [HLN.out]; omega) (by omega) 0 (by omega) 0 (.inl rfl) false
    unfold bmv at this
    rw [E1, E2, show (((0 : Nat) : Int)) = 0 from rfl, aw_facts.2.1] at this
    exact this
  clear HSZ HER HLD HV HO HB HT HT1 HFT HLN E1 E2
  go_upto_region 5 with (go_at_call 13; refine (HOP.out _ (by (repeat (first | with_reducible exact Below.refl _ _ | with_reducible refine bl_alloc ?_ _ | with_reducible refine bl_drew ?_ | with_reducible refine bl_drewN ?_ _ | with_reducible refine bl_bx ?_ _ | with_reducible exact BX.below _ | with_reducible refine bl_set ?_ (by first | (exact Nat.le_refl _) | (simp; done) | (simp; omega)) _ | assumption)))).mono ?_; rintro e w2 ⟨rfl, hb⟩; obtain ⟨x, rfl⟩ := bx_of hb; clear hb)
  obtain ⟨X, hX⟩ : ∃ X, x.w = X := ⟨_, rfl⟩
  have hbX : Below w1.heap.size w1 X := by rw [← hX]; exact x.below
  rw [hX]
  clear hX
  have HBX := Lib.hid hbX
  have hR1 : CB (((X.alloc (.cells #[.iface 28 (.pointer (some ⟨T, 0, none⟩)), .int .u64 24, .int .i64 70] 36)).alloc (.cells #[.int .i64 0] 3)).alloc (.cells #[.int .i64 64] 3)) (X.heap.size + 1) 3 (ia .i64 [0]) := (CB.new_at _ _ _ (by simp)).alloc _
  have hR2 : CB (((X.alloc (.cells #[.iface 28 (.pointer (some ⟨T, 0, none⟩)), .int .u64 24, .int .i64 70] 36)).alloc (.cells #[.int .i64 0] 3)).alloc (.cells #[.int .i64 64] 3)) (X.heap.size + 1 + 1) 3 (ia .i64 [64]) := CB.new_at _ _ _ (by simp)
  have hB0 : CB (((X.alloc (.cells #[.iface 28 (.pointer (some ⟨T, 0, none⟩)), .int .u64 24, .int .i64 70] 36)).alloc (.cells #[.int .i64 0] 3)).alloc (.cells #[.int .i64 64] 3)) X.heap.size 36 #[.iface 28 (.pointer (some ⟨T, 0, none⟩)), .int .u64 24, .int .i64 70] := ((CB.new _ _ _).alloc _).alloc _
  have hb5 : Below w1.heap.size w1 (((X.alloc (.cells #[.iface 28 (.pointer (some ⟨T, 0, none⟩)), .int .u64 24, .int .i64 70] 36)).alloc (.cells #[.int .i64 0] 3)).alloc (.cells #[.int .i64 64] 3)) := by (repeat (first | with_reducible exact Below.refl _ _ | with_reducible refine bl_alloc ?_ _ | with_reducible refine bl_drew ?_ | with_reducible refine bl_drewN ?_ _ | with_reducible refine bl_bx ?_ _ | with_reducible exact BX.below _ | with_reducible refine bl_set ?_ (by first | (exact Nat.le_refl _) | (simp; done) | (simp; omega)) _ | assumption))
  have HC5 := Lib.hid (HCH.out _ hb5 (some ⟨X.heap.size + 1, 0, none⟩) 1 (some ⟨X.heap.size + 1 + 1, 0, none⟩) 1 (rd_cb [0] hR1) (rd_cb [64] hR2))
  have HB5 := Lib.hid hb5
  have HBB := Lib.hid hB0
  clear hbX hR1 hR2 hB0 hb5 HCH HOP
  go_upto_region 6 with (go_at_call 15; refine HC5.out.mono ?_; rintro e w3 ⟨A, c, rfl, hS, hb⟩; have HS := Lib.hid hS; have HB3 := Lib.hid hb; clear hS hb)
  have hbb := HBB.out.below HB3.out
  have HB6 : Hid (Below w1.heap.size w1 w3) := HB5.out.trans (HB3.out.mono HB5.out.size)
  obtain ⟨gx, hgx⟩ : ∃ gx, X.heap.size = gx := ⟨_, rfl⟩
  rw [hgx] at hbb
  rw [hgx]
  have b0 := hbb.cell 0
  have b1 := hbb.cell 1
  have b2 := hbb.cell 2
  have bl := hbb.lt
  obtain ⟨g0, o0, hA0, hl0, k0, k1⟩ := HS.out.wr (k := 0) (by decide)
  obtain ⟨g1, o1, hA1, hl1, k2, k3⟩ := HS.out.wr (k := 1) (by decide)
  have HSS := HS
  subst hA0
  injection hA1 with hA1
  injection hA1 with hA1 hA2
  subst hA1 hA2
  simp only [Nat.mul_zero, Nat.add_zero, Nat.mul_one, List.getElem_cons_zero, List.getElem_cons_succ] at k0 k1 k2 k3
  clear hbb hgx HC5 HBB HS HSS
  go_wp2_with (first
    | (go_at_call 21; refine (HON.out _ HB6.out).mono ?_; rintro e w4 ⟨rfl, hb⟩; have HB7 : Hid (Below w1.heap.size w1 w4) := HB6.out.trans (hb.mono HB6.out.size); obtain ⟨z, rfl⟩ := bx_of hb; clear hb)
    | (go_at_call 23; refine (HNX.out _ HB7.out).mono ?_; rintro e w5 ⟨rfl, hb⟩; have HB8 : Hid (Below w1.heap.size w1 w5) := HB7.out.trans (hb.mono HB7.out.size); obtain ⟨v, rfl⟩ := bx_of hb; clear hb))
  go_ret
  exact ⟨rfl, HBW.out.trans (HB8.out.mono HBW.out.size)⟩
end Go.Proofs.YtbhkdngbgokilaaDoor
