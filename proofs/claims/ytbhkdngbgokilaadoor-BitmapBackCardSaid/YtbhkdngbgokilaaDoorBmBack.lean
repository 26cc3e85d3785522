/- The law BitmapBack returns true. -/
import Derived.Test.YtbhkdngbgokilaaDoorBmS
import Derived.Test.YtbhkdngbgokilaaDoorBmK
namespace Go.Proofs.YtbhkdngbgokilaaDoor
open Go.RowKit
set_option linter.unusedVariables false

set_option maxRecDepth 100000 in
set_option maxHeartbeats 4000000 in
theorem law_BitmapBack (w : World) (hT : Tab w) (B At : Int) (hB : -9223372036854775808 ≤ B ∧ B < 9223372036854775808) (hAt : -9223372036854775808 ≤ At ∧ At < 9223372036854775808) (A : Option Addr) (n0 c : Nat) (ws : List Int) (hw : ws.length = n0) (hws : FitsB ws) (hnc : n0 ≤ 9223372036854775807) (hR : Rd .u64 w A ws)
    (P1 : Option Addr) (k1 d1 : Nat) (l1 : List Int) (hl1 : l1.length = k1) (hk1 : k1 ≤ 9223372036854775807) (hR1 : Rd .i64 w P1 l1) (P2 : Option Addr) (k2 d2 : Nat) (l2 : List Int) (hl2 : l2.length = k2) (hk2 : k2 ≤ 9223372036854775807) (hR2 : Rd .i64 w P2 l2) :
    Calls Tryd.prog 6 #[inv20 B At A n0 c, .slice P1 k1 d1, .slice P2 k2 d2] w fun e w' => e = .returned (.bool true) ∧ Below w.heap.size w w' := by
  have HT := Lib.hid hT
  have HR := Lib.hid hR
  have HW := Lib.hid hw
  have HFX := Lib.hid (layW_fits At ws hws (min n0 9))
  have HL1 := Lib.hid hl1
  have HL2 := Lib.hid hl2
  have HR1 := Lib.hid hR1
  have HR2 := Lib.hid hR2
  clear hT hR hw hws hl1 hl2 hR1 hR2
  have HLY := Lib.hid (fun (W : World) (hW : Below w.heap.size w W) => lay20 W B At hAt A n0 c ws HW.out hnc (HR.out.below hW))
  have HFI := Lib.hid (fun (W : World) => fits20 W B At A n0 c hB hAt)
  obtain ⟨xs, hxs⟩ : ∃ xs, layW At ws (min n0 9) = xs := ⟨_, rfl⟩
  rw [hxs] at HFX HLY
  clear hxs
  unfold inv20 at HLY HFI ⊢
  by_cases hbig : (k1 : Int) > 100 ∨ (k2 : Int) > 100
  · have hbig2 : (k1 : Int) > 100 ∨ (¬ (k1 : Int) > 100 ∧ (k2 : Int) > 100) := by omega
    clear HLY HFI hbig
    rcases hbig2 with hb | ⟨hb1, hb2⟩
    · go_enter Tryd.func6, Tryd.ntmps6
      go_wp2_with (go_at_call 10; refine (awake20 _ (HT.out.below (by (repeat (first | with_reducible exact Below.refl _ _ | with_reducible refine bl_alloc ?_ _ | with_reducible refine bl_drew ?_ | with_reducible refine bl_drewN ?_ _ | with_reducible refine bl_bx ?_ _ | with_reducible exact BX.below _ | with_reducible refine bl_set ?_ (by first | (exact Nat.le_refl _) | (simp; done) | (simp; omega)) _ | assumption))))).mono ?_; rintro e w' ⟨rfl, hb⟩; obtain ⟨x, rfl⟩ := bx_of hb; clear hb)
      go_ret
      exact ⟨rfl, (by repeat (first | with_reducible exact Below.refl _ _ | with_reducible refine bl_alloc ?_ _ | with_reducible refine bl_drew ?_ | with_reducible refine bl_drewN ?_ _ | with_reducible refine bl_bx ?_ _ | with_reducible exact BX.below _ | with_reducible refine bl_set ?_ (by first | (exact Nat.le_refl _) | (simp; done) | (simp; omega)) _ | assumption))⟩
    · go_enter Tryd.func6, Tryd.ntmps6
      go_wp2_with (go_at_call 10; refine (awake20 _ (HT.out.below (by (repeat (first | with_reducible exact Below.refl _ _ | with_reducible refine bl_alloc ?_ _ | with_reducible refine bl_drew ?_ | with_reducible refine bl_drewN ?_ _ | with_reducible refine bl_bx ?_ _ | with_reducible exact BX.below _ | with_reducible refine bl_set ?_ (by first | (exact Nat.le_refl _) | (simp; done) | (simp; omega)) _ | assumption))))).mono ?_; rintro e w' ⟨rfl, hb⟩; obtain ⟨x, rfl⟩ := bx_of hb; clear hb)
      go_ret
      exact ⟨rfl, (by repeat (first | with_reducible exact Below.refl _ _ | with_reducible refine bl_alloc ?_ _ | with_reducible refine bl_drew ?_ | with_reducible refine bl_drewN ?_ _ | with_reducible refine bl_bx ?_ _ | with_reducible exact BX.below _ | with_reducible refine bl_set ?_ (by first | (exact Nat.le_refl _) | (simp; done) | (simp; omega)) _ | assumption))⟩
  have hb1 : ¬ (k1 : Int) > 100 := fun h => hbig (.inl h)
  have hb2 : ¬ (k2 : Int) > 100 := fun h => hbig (.inr h)
  clear hbig
  go_enter Tryd.func6, Tryd.ntmps6
  go_upto_region 4 with (first
    | (go_at_call 10; refine (awake20 _ (HT.out.below (by (repeat (first | with_reducible exact Below.refl _ _ | with_reducible refine bl_alloc ?_ _ | with_reducible refine bl_drew ?_ | with_reducible refine bl_drewN ?_ _ | with_reducible refine bl_bx ?_ _ | with_reducible exact BX.below _ | with_reducible refine bl_set ?_ (by first | (exact Nat.le_refl _) | (simp; done) | (simp; omega)) _ | assumption))))).mono ?_; rintro e w' ⟨rfl, hb⟩; obtain ⟨x, rfl⟩ := bx_of hb; clear hb)
    | (go_at_call 11; refine (HLY.out _ (by (repeat (first | with_reducible exact Below.refl _ _ | with_reducible refine bl_alloc ?_ _ | with_reducible refine bl_drew ?_ | with_reducible refine bl_drewN ?_ _ | with_reducible refine bl_bx ?_ _ | with_reducible exact BX.below _ | with_reducible refine bl_set ?_ (by first | (exact Nat.le_refl _) | (simp; done) | (simp; omega)) _ | assumption)))).mono ?_; rintro e w1 ⟨d, t, S, rfl, hV, hO, hB1⟩; have HV := Lib.hid hV; have HO := Lib.hid hO; have HB1 := Lib.hid hB1; clear hV hO hB1))
  have HSZ := Lib.hid (onSize HV.out HO.out)
  have HER := Lib.hid (onErr HV.out HO.out)
  have HLD := Lib.hid (ldV HV.out HO.out 0 (by omega))
  have hb1 : Below w.heap.size w x.w := by (repeat (first | with_reducible exact Below.refl _ _ | with_reducible refine bl_alloc ?_ _ | with_reducible refine bl_drew ?_ | with_reducible refine bl_drewN ?_ _ | with_reducible refine bl_bx ?_ _ | with_reducible exact BX.below _ | with_reducible refine bl_set ?_ (by first | (exact Nat.le_refl _) | (simp; done) | (simp; omega)) _ | assumption))
  have hb2 : Below w.heap.size w w1 := hb1.trans (HB1.out.mono hb1.size)
  have hc0 : CB (w.alloc (.cells #[.int .i64 B, .int .i64 At, .slice A n0 c] 24)) w.heap.size 24 #[.int .i64 B, .int .i64 At, .slice A n0 c] := CB.new _ _ _
  have hc1 := (hc0.bx x).below HB1.out
  have HB2 := Lib.hid hb2
  have HT1 := Lib.hid (HT.out.below hb2)
  obtain ⟨g, hg⟩ : ∃ g, w.heap.size = g := ⟨_, rfl⟩
  obtain ⟨T, hTT⟩ : ∃ T, t 0 = T := ⟨_, rfl⟩
  rw [hTT] at HSZ HER HLD
  rw [hg] at hc1
  rw [hg, hTT]
  have b0 := hc1.cell 0
  have b1 := hc1.cell 1
  have b2 := hc1.cell 2
  have bl := hc1.lt
  have HC1 := Lib.hid hc1
  have HTT := Lib.hid hTT
  have HBX : Hid (w.heap.size < x.w.heap.size) := by have h := x.size; simp at h; show _ < _; omega
  have HX1 : Hid (x.w.heap.size ≤ w1.heap.size) := HB1.out.size
  clear hTT hb1 hb2 hc0 hc1 HLY HB1 HT HR HW
  cases hfit : fitsB B At with
  | false =>
    rw [hfit] at HFI
    clear hfit
    go_wp2_with (go_at_call 12; refine (HFI.out _).mono ?_; rintro e w' ⟨rfl, hb⟩; obtain ⟨y, rfl⟩ := bx_of hb; clear hb)
    go_ret
    exact ⟨rfl, HB2.out.trans (y.below.mono HB2.out.size)⟩
  | true =>
    rw [hfit] at HFI
    unfold fitsB at hfit
    simp only [Bool.and_eq_true, decide_eq_true_eq] at hfit
    obtain ⟨f1, f2, f3, f4, f5⟩ := hfit
    obtain ⟨n, rfl⟩ := Int.eq_ofNat_of_zero_le (show 0 ≤ B by omega)
    obtain ⟨a, rfl⟩ := Int.eq_ofNat_of_zero_le f3
    have hn1 : 1 ≤ n := by omega
    have hn2 : n ≤ 512 := by omega
    obtain ⟨m, hm⟩ : ∃ m, (n + 63) / 64 = m := ⟨_, rfl⟩
    have ham : a + m ≤ 96 := by omega
    have hnm : n ≤ 64 * m := by omega
    have hok : openB (8 * (a : Int)) n = true := by
      unfold openB
      rw [decide_eq_true (by omega), decide_eq_true (by omega), decide_eq_true (by omega), decide_eq_true (by omega)]; rfl
    have e1 : IntKind.u64.wrap (a : Int) = (a : Int) := IntWalk.u64_in _ (by omega)
    have e2 : IntKind.u64.wrap (8 * (a : Int)) = 8 * (a : Int) := IntWalk.u64_in _ (by omega)
    have HOPN : Hid (∀ W, Below w1.heap.size w1 W → Calls Tryd.prog 13 #[.iface 28 (.pointer (some ⟨T, 0, none⟩)), .int .u64 (8 * (a : Int)), .int .i64 n] W fun e w' => e = .returned (.tuple #[.agg #[.iface 28 (.pointer (some ⟨T, 0, none⟩)), .int .u64 (8 * (a : Int)), .int .i64 n], .int .i64 0]) ∧ Below W.heap.size W w') := by
      intro W hW
      have := bmOpen_ok W T (8 * (a : Int)) n 0 (by omega) (fun W' hW' => HSZ.out W' (hW.trans (hW'.mono hW.size))) (fun W' hW' => HER.out W' (hW.trans (hW'.mono hW.size))) hok
      rwa [if_pos rfl] at this
    have hxl := HFX.out.2
    have HRD : Hid (∀ W, Below w1.heap.size w1 W → Calls Tryd.prog 14 #[.pointer (some ⟨T, 0, none⟩), .agg #[.int .i64 n, .int .i64 a, .slice A n0 c]] W (ReadPost W ((xs.drop a).take m) m)) := fun W hW => read20 W T xs a n m (HLD.out.below hW) hxl hm ham hn2 A n0 c
    clear f1 f2 f4 f5 hok
    go_upto_region 7 with (first
      | (go_at_call 12; refine (HFI.out _).mono ?_; rintro e w' ⟨rfl, hb⟩; obtain ⟨y, rfl⟩ := bx_of hb; clear hb)
      | (go_at_call 13; refine (HOPN.out _ (by (repeat (first | with_reducible exact Below.refl _ _ | with_reducible refine bl_alloc ?_ _ | with_reducible refine bl_drew ?_ | with_reducible refine bl_drewN ?_ _ | with_reducible refine bl_bx ?_ _ | with_reducible exact BX.below _ | with_reducible refine bl_set ?_ (by first | (exact Nat.le_refl _) | (simp; done) | (simp; omega)) _ | assumption)))).mono ?_; rintro e w' ⟨rfl, hb⟩; obtain ⟨z, rfl⟩ := bx_of hb; clear hb))
    have hbc : CB (z.w.alloc (.cells #[.iface 28 (.pointer (some ⟨T, 0, none⟩)), .int .u64 (8 * (a : Int)), .int .i64 n] 36)) z.w.heap.size 36 #[.iface 28 (.pointer (some ⟨T, 0, none⟩)), .int .u64 (8 * (a : Int)), .int .i64 n] := CB.new _ _ _
    have hgc : CB (z.w.alloc (.cells #[.iface 28 (.pointer (some ⟨T, 0, none⟩)), .int .u64 (8 * (a : Int)), .int .i64 n] 36)) g 24 #[.int .i64 n, .int .i64 a, .slice A n0 c] := ((HC1.out.bx y).bx z).alloc _
    have hb5 : Below w1.heap.size w1 (z.w.alloc (.cells #[.iface 28 (.pointer (some ⟨T, 0, none⟩)), .int .u64 (8 * (a : Int)), .int .i64 n] 36)) := by (repeat (first | with_reducible exact Below.refl _ _ | with_reducible refine bl_alloc ?_ _ | with_reducible refine bl_drew ?_ | with_reducible refine bl_drewN ?_ _ | with_reducible refine bl_bx ?_ _ | with_reducible exact BX.below _ | with_reducible refine bl_set ?_ (by first | (exact Nat.le_refl _) | (simp; done) | (simp; omega)) _ | assumption))
    obtain ⟨gb, hgb⟩ : ∃ gb, z.w.heap.size = gb := ⟨_, rfl⟩
    obtain ⟨W5, hW5⟩ : ∃ W5, z.w.alloc (.cells #[.iface 28 (.pointer (some ⟨T, 0, none⟩)), .int .u64 (8 * (a : Int)), .int .i64 n] 36) = W5 := ⟨_, rfl⟩
    have HGB : Hid (w1.heap.size ≤ gb) := by have h1 := y.size; have h2 := z.size; show _ ≤ _; omega
    rw [hgb, hW5] at hbc
    rw [hW5] at hgc hb5
    rw [hgb, hW5]
    clear hgb hW5 b0 b1 b2 bl
    have b0 := hgc.cell 0
    have b1 := hgc.cell 1
    have b2 := hgc.cell 2
    have bl := hgc.lt
    have HRW := HRD.out W5 hb5
    go_upto_region 10 with (go_at_call 14; refine HRW.mono ?_; rintro e w2 ⟨A2, c2, rfl, hS2, hO2, hb3⟩; have HS2 := Lib.hid hS2; have HO2 := Lib.hid hO2; have HB3 := Lib.hid hb3; clear hS2 hO2 hb3)
    have hb6 := hb5.trans (HB3.out.mono hb5.size)
    have hbc2 := hbc.below HB3.out
    have HW5 : Hid (w1.heap.size ≤ W5.heap.size) := hb5.size
    clear b0 b1 b2 bl hbc HRW
    have hfw : FitsB ((xs.drop a).take m) := fun v hv => HFX.out.1 v (List.mem_of_mem_drop (List.mem_of_mem_take hv))
    have hlw : ((xs.drop a).take m).length = m := by rw [List.length_take, List.length_drop, hxl]; omega
    obtain ⟨V, hV⟩ : ∃ V, (xs.drop a).take m = V := ⟨_, rfl⟩
    obtain ⟨out, hout⟩ : ∃ out, flips V ((l1 ++ l2).map Int.toNat) = out := ⟨_, rfl⟩
    have hb7 : Below w.heap.size w w2 := HB2.out.trans (hb6.mono HB2.out.size)
    have hcb := change_both w2 T xs a n m (HLD.out.below hb6) (fun W hW => HER.out W (hb6.trans (hW.mono hb6.size))) HFX.out.1 hxl hm ham hn1 hn2 P1 k1 d1 l1 HL1.out (by omega) (HR1.out.below hb7) P2 k2 d2 l2 HL2.out (by omega) (HR2.out.below hb7) V hV out hout
    have HONE : Hid (Calls Tryd.prog 21 #[bmv T (8 * (a : Int)) n] w2 fun e w' => e = .returned (.int .i64 (onesTo V n : Nat)) ∧ Below w2.heap.size w2 w') := by
      have := bmOnes w2 T xs a n (HLD.out.below hb6) HFX.out.1 (by rw [hm, hxl]; exact ham) (by omega) hn2
      rwa [← onesTo_take _ m n hnm, hV] at this
    rw [hV] at hfw hlw HS2
    have HVV := Lib.hid hV
    have HCBC := Lib.hid hbc2
    have HB6 := Lib.hid hb6
    have HB7 := Lib.hid hb7
    have HLW := Lib.hid hlw
    have HFW := Lib.hid hfw
    have HOUT := Lib.hid hout
    have HGC5 := Lib.hid hgc
    have HGW := Lib.hid hg
    clear hgc
    have HLO : Hid (out.length = m) := by show _ = _; rw [← hout, flips_length]; exact hlw
    have HFO : Hid (FitsB out) := by show FitsB _; rw [← hout]; exact flips_fits _ _ hfw
    have k0 := hbc2.cell 0
    have k1' := hbc2.cell 1
    have k2' := hbc2.cell 2
    have kl := hbc2.lt
    unfold bmv at hcb HONE
    clear hV hout hb6 hb7 hbc2 hlw hfw hb5 hg HRD
    rcases hcb with ⟨fc, hfc, _, hc1, _⟩ | ⟨hok, hfit, hc1, _⟩
    · have HC1 := Lib.hid hc1
      have hfc' : (fc != 0) = true := by simpa using hfc
      clear hc1
      go_upto_region 11 with (go_at_call 21; refine HONE.out.mono ?_; rintro e w' ⟨rfl, hb⟩; obtain ⟨p, rfl⟩ := bx_of hb; clear hb)
      go_wp2_with (go_at_call 15; refine (HC1.out _ (by (repeat (first | with_reducible exact Below.refl _ _ | with_reducible refine bl_alloc ?_ _ | with_reducible refine bl_drew ?_ | with_reducible refine bl_drewN ?_ _ | with_reducible refine bl_bx ?_ _ | with_reducible exact BX.below _ | with_reducible refine bl_set ?_ (by first | (exact Nat.le_refl _) | (simp; done) | (simp; omega)) _ | assumption)))).mono ?_; rintro e w' ⟨rfl, hb⟩; obtain ⟨q, rfl⟩ := bx_of hb; clear hb)
      go_ret
      exact ⟨rfl, HB7.out.trans (Below.mono (p.below.trans (q.below.mono p.size)) HB7.out.size)⟩
    · have HC1 := Lib.hid hc1
      have HOK := Lib.hid hok
      have HFIT : Hid (fitAll V (l1 ++ l2) l1.length = true) := by show _ = _; rw [HL1.out]; exact hfit
      clear hc1 hok hfit
      go_upto_region 11 with (go_at_call 21; refine HONE.out.mono ?_; rintro e w' ⟨rfl, hb⟩; obtain ⟨p, rfl⟩ := bx_of hb; clear hb)
      go_upto_region 12 with (go_at_call 15; refine (HC1.out _ (by (repeat (first | with_reducible exact Below.refl _ _ | with_reducible refine bl_alloc ?_ _ | with_reducible refine bl_drew ?_ | with_reducible refine bl_drewN ?_ _ | with_reducible refine bl_bx ?_ _ | with_reducible exact BX.below _ | with_reducible refine bl_set ?_ (by first | (exact Nat.le_refl _) | (simp; done) | (simp; omega)) _ | assumption)))).mono ?_; rintro e w4 ⟨A4, c4, rfl, hS4, hO4, hB4⟩; have HS4 := Lib.hid hS4; have HO4 := Lib.hid hO4; have HB4 := Lib.hid hB4; clear hS4 hO4 hB4)
      have hb24 : Below w2.heap.size w2 w4 := p.below.trans (HB4.out.mono p.size)
      have hb14 : Below w1.heap.size w1 w4 := HB6.out.trans (hb24.mono HB6.out.size)
      have hbw4 : Below w.heap.size w w4 := HB2.out.trans (hb14.mono HB2.out.size)
      have hDV := HV.out.less hb14 (fun b => w1.heap.size ≤ b ∧ b < w4.heap.size) (fun b hb => hb)
      have HF2 : Hid (∀ b, (x.w.heap.size < b ∧ ¬ (w1.heap.size ≤ b ∧ b < w4.heap.size)) → w.heap.size < b ∧ (b < w1.heap.size ∨ w4.heap.size ≤ b)) := fun b hb => by have := HBX.out; omega
      obtain ⟨F2, hF2⟩ : ∃ F2 : Nat → Prop, (fun b => x.w.heap.size < b ∧ ¬ (w1.heap.size ≤ b ∧ b < w4.heap.size)) = F2 := ⟨_, rfl⟩
      have HF2' : Hid (∀ b, F2 b → w.heap.size < b ∧ (b < w1.heap.size ∨ w4.heap.size ≤ b)) := by rw [← hF2]; exact HF2.out
      rw [hF2] at hDV
      have HS2' : Hid (Sl 34 1 w4 A2 m c2 (uints V)) := HS2.out.keep (fun b hb => hb24.block b (HS2.out.lt hb))
      have HNF2 : Hid (∀ b, OwnB A2 b → ¬ F2 b) := fun b hb hf => by
        have h1 := HF2'.out b hf
        have h2 := HO2.out b hb
        have h3 := HS2.out.lt hb
        have h4 := hb24.size
        have h5 := HW5.out
        omega
      have HNF4 : Hid (∀ b, OwnB A4 b → ¬ F2 b) := fun b hb hf => by
        have h1 := HF2'.out b hf
        have h2 := HO4.out b hb
        have h3 := HS4.out.lt hb
        have h4 := p.size
        have h5 := HB6.out.size
        omega
      have HCB4 := Lib.hid (HCBC.out.below hb24)
      have hg4 : CB w4 g 24 #[.int .i64 n, .int .i64 a, .slice A n0 c] := (HGC5.out.below HB3.out).below hb24
      have HNFG : Hid (¬ F2 g) := fun hf => by
        have h1 := HF2'.out g hf
        have h2 := HGW.out
        omega
      have HNFB : Hid (¬ F2 gb) := fun hf => by
        have h1 := HF2'.out gb hf
        have h2 := HCBC.out.lt
        have h3 := HGB.out
        have h4 := hb24.size
        omega
      have HON4 : Hid (DV F2 d t w4 S ∧ On S 12 (applyW xs []) 9) := ⟨hDV, by simpa [applyW] using HO.out⟩
      have HBW4 := Lib.hid hbw4
      have HG4 := Lib.hid hg4
      have HMEM1 : Hid (∀ q ∈ difL V out a m, (∃ j, j < m ∧ q.1 = 8 * ((a + j : Nat) : Int)) ∧ 0 ≤ q.2 ∧ q.2 < 18446744073709551616) := difL_mem HFO.out
      have hDO := difL_out xs V out a m HVV.out HLO.out (by rw [hxl]; exact ham)
      have hDF := applyW_fitsB (difL V out a m) (fun q hq => (HMEM1.out q hq).2) xs HFX.out.1
      have hDL : (applyW xs (difL V out a m)).length = 96 := by rw [length_applyW]; exact hxl
      have hnl : (difL V out a m).length ≤ m := difL_le V out a m
      obtain ⟨lst, hlst⟩ : ∃ lst, difL V out a m = lst := ⟨_, rfl⟩
      rw [hlst] at HS4 HMEM1 hDO hDF hDL hnl ⊢
      obtain ⟨nn, hnn⟩ : ∃ nn, lst.length = nn := ⟨_, rfl⟩
      have HNN1 := Lib.hid hnn
      rw [hnn] at HS4 hnl ⊢
      have HNX1 : Hid (∀ b, OwnB A4 b → ¬ F2 b) := HNF4.out
      have HDO := Lib.hid hDO
      have HDF := Lib.hid hDF
      have HDL := Lib.hid hDL
      obtain ⟨ys, hys⟩ : ∃ ys, applyW xs lst = ys := ⟨_, rfl⟩
      rw [hys] at HDO HDF HDL
      have HYS := Lib.hid hys
      clear HF2 hF2 hDV hb24 hb14 hbw4 hg4 hlst hnn HV HO hDO hDF hDL hys k0 k1' k2' kl HCBC HS2 HO2 HO4
      go_wp2
      go_loopw [79, 16, 80, 81, 82, 83, 84, 85, 86, 87, 88, 89] (fun i _ _ _ _ _ _ _ _ _ _ _ wr => ∃ k : Nat, k ≤ nn ∧ i = .int .i64 k ∧ ∃ S, DV F2 d t wr S ∧ On S 12 (applyW xs (lst.take k)) (9 + k) ∧ Ch F2 w4 wr) (fun i _ _ _ _ _ _ _ _ _ _ _ _ => nn - (intOf i).toNat)
      case atStart => exact ⟨0, by omega, rfl, _, HON4.out.1, HON4.out.2, Ch.refl _ _⟩
      case round =>
        obtain ⟨k, hk, rfl, S, hV, hO, hCh⟩ := hrel
        have HV := Lib.hid hV
        have HO := Lib.hid hO
        have HCH := Lib.hid hCh
        by_cases hlt : k < nn
        · have hkl : k < lst.length := by rw [HNN1.out]; exact hlt
          have hlt' : (k : Int) < (nn : Int) := by omega
          obtain ⟨bd, od, hA4, hbd, hd1, hd2⟩ := (HS4.out.ch hCh HNX1.out).wr hkl
          subst hA4
          obtain ⟨⟨j, hjm, hj⟩, hv⟩ := HMEM1.out _ (List.getElem_mem hkl)
          rw [hj] at hd1
          have hst : applyW xs (lst.take (k + 1)) = (applyW xs (lst.take k)).set (a + j) (lst[k]).2 := by
            rw [List.take_succ_eq_append_getElem hkl, applyW_snoc, hj]
            congr 1
            omega
          have hon := hO.store 0 (a + j) (by omega) (lst[k]).2
          rw [← hst] at hon
          obtain ⟨v, hvv⟩ : ∃ v, (lst[k]).2 = v := ⟨_, rfl⟩
          rw [hvv] at hd2 hv hon
          have HON := Lib.hid hon
          rw [show 2 * k = k * 2 by omega] at hd1 hd2
          obtain ⟨of, hof⟩ : ∃ z, 8 * ((a + j : Nat) : Int) = z := ⟨_, rfl⟩
          have hofr : 0 ≤ of ∧ of < 18446744073709551616 := by omega
          rw [hof] at hd1 HON
          have HSTO : Hid (∀ o : Obj, Calls Tryd.prog 25 #[.pointer (some ⟨T, 0, none⟩), .int .u64 of, .int .u64 v] (wr.alloc o) fun e w' => e = .returned (.tuple #[]) ∧ DV F2 d t w' (S.store 0 of v) ∧ Ch F2 (wr.alloc o) w') := by
            intro o
            have := storeV (HV.out.alloc o) 0 (by omega) HO.out.good (by omega) of v hofr
            rwa [HTT.out] at this
          clear hV hO hCh hst hon hvv hof hj
          go_wp2_with (go_at_call 25; refine (HSTO.out _).mono ?_; rintro e w' ⟨rfl, hV2, hC2⟩; have HV2 := Lib.hid hV2; have HC2 := Lib.hid hC2; clear hV2 hC2)
          refine ⟨⟨k + 1, by omega, by go_num, _, HV2.out, by rw [show 9 + (k + 1) = 9 + k + 1 by omega]; exact HON.out, ?_⟩, by simp [intOf]; omega⟩
          exact (HCH.out.alloc _).trans HC2.out (fun b h _ => h)
        · obtain rfl : k = nn := by omega
          have hlt' : ¬ (k : Int) < (k : Int) := by omega
          rw [List.take_of_length_le (by rw [HNN1.out]; omega)] at hO
          obtain ⟨k1x, hk1x⟩ : ∃ k1x, k1x = k := ⟨_, rfl⟩
          have HYO : Hid (On S 12 ys (9 + k1x)) := by rw [← HYS.out, hk1x]; exact hO
          have hk1m : k1x ≤ m := by omega
          clear hk1x
          obtain ⟨w5, rfl⟩ : ∃ w5, w5 = wr := ⟨_, rfl⟩
          have hbw5 : Below w.heap.size w w5 := bl_ch HBW4.out hCh (fun b hb => Nat.le_of_lt (HF2'.out b hb).1)
          have HBW5 := Lib.hid hbw5
          have HS25 : Hid (Sl 34 1 w5 A2 m c2 (uints V)) := HS2'.out.ch hCh HNF2.out
          have HCB5 : Hid (CB w5 gb 36 #[.iface 28 (.pointer (some ⟨T, 0, none⟩)), .int .u64 (8 * (a : Int)), .int .i64 n]) := HCB4.out.ch hCh HNFB.out
          have HG5 : Hid (CB w5 g 24 #[.int .i64 n, .int .i64 a, .slice A n0 c]) := HG4.out.ch hCh HNFG.out
          have hLD5 := ldV hV HYO.out 0 (by omega)
          rw [HTT.out] at hLD5
          have HLD5 := Lib.hid hLD5
          have hER5 := onErr hV HYO.out
          rw [HTT.out] at hER5
          have HER5 := Lib.hid hER5
          have HONE5 : Hid (Calls Tryd.prog 21 #[bmv T (8 * (a : Int)) n] w5 fun e w' => e = .returned (.int .i64 (onesTo out n : Nat)) ∧ Below w5.heap.size w5 w') := by
            have := bmOnes w5 T ys a n hLD5 HDF.out (by rw [hm, HDL.out]; exact ham) (by rw [HDL.out]; omega) hn2
            rwa [← onesTo_take _ m n hnm, HDO.out] at this
          have hones := back_ones (V := V) HLW.out hnm HOK.out HFIT.out
          rw [HOUT.out, HL1.out, HL2.out] at hones
          have hob := onesTo_le V n
          obtain ⟨o1, ho1⟩ : ∃ o1, onesTo V n = o1 := ⟨_, rfl⟩
          rw [ho1] at hones hob ⊢
          rw [show ((onesTo out n : Nat) : Int) = (o1 : Int) + (k1 : Int) - (k2 : Int) by omega] at HONE5
          have HGET : Hid (∀ W, Below w5.heap.size w5 W → ∀ i, Calls Tryd.prog 19 #[bmv T (8 * (a : Int)) n, .int .i64 i] W fun e w' => e = .returned (.bool (getB out n i)) ∧ Below W.heap.size W w') := by
            intro W hW i
            have := bmGet W T ys a n (hLD5.below hW) HDF.out (by rw [hm, HDL.out]; exact ham) (by rw [HDL.out]; omega) hn2 i
            rwa [← getB_take _ m n hnm, HDO.out] at this
          obtain ⟨hg1, hg2⟩ := back_get (V := V) HLW.out hnm HOK.out HFIT.out
          rw [HOUT.out] at hg1 hg2
          have HGT1 : Hid (∀ z ∈ l1, getB out n z = true) := hg1
          have HGT2 : Hid (∀ z ∈ l2, getB out n z = false) := hg2
          have HR15 : Hid (Rd .i64 w5 P1 l1) := HR1.out.below hbw5
          have HR25 : Hid (Rd .i64 w5 P2 l2) := HR2.out.below hbw5
          have k0 := HCB5.out.cell 0
          have k1' := HCB5.out.cell 1
          have k2' := HCB5.out.cell 2
          have kl := HCB5.out.lt
          unfold bmv at HONE5 HGET
          clear hO hCh hbw5 hLD5 hER5 hones ho1 hg1 hg2
          go_upto_region 21 with (go_at_call 21; refine HONE5.out.mono ?_; rintro e w' ⟨rfl, hb⟩; obtain ⟨y, rfl⟩ := bx_of hb; clear hb)
          have HI2 : Hid (Below w5.heap.size w5 y.w) := y.below
          obtain ⟨w6, hw6⟩ : ∃ w6, y.w = w6 := ⟨_, rfl⟩
          rw [hw6] at HI2 ⊢
          clear hw6 k0 k1' k2' kl hlt hlt' hk
          go_wp2
          go_loopw [102, 6, 18, 103, 104, 105, 106, 107, 108, 109, 110] (fun i _ _ _ _ _ _ _ _ _ _ wr => ∃ k : Nat, k ≤ k1 ∧ i = .int .i64 k ∧ Below w5.heap.size w5 wr) (fun i _ _ _ _ _ _ _ _ _ _ _ => k1 - (intOf i).toNat)
          case atStart => exact ⟨0, by omega, rfl, HI2.out⟩
          case round =>
            obtain ⟨k, hk, rfl, hBk⟩ := hrel
            have HBK := Lib.hid hBk
            by_cases hlt : k < k1
            · have hkl : k < l1.length := by rw [HL1.out]; exact hlt
              have hlt' : (k : Int) < (k1 : Int) := by omega
              obtain ⟨bb, ob, hAb, hbb, hcb⟩ := (HR15.out.below hBk).at_ hkl
              subst hAb
              have hgg := HCB5.out.below hBk
              have k0 := hgg.cell 0
              have k1' := hgg.cell 1
              have k2' := hgg.cell 2
              have kl := hgg.lt
              have hval := HGT1.out _ (List.getElem_mem hkl)
              have HGC := Lib.hid (HGET.out wr hBk l1[k])
              rw [hval] at HGC
              obtain ⟨z, hz⟩ : ∃ z, l1[k] = z := ⟨_, rfl⟩
              rw [hz] at hcb HGC
              clear hgg hval hz hBk
              go_wp2_with (go_at_call 19; refine HGC.out.mono ?_; rintro e w' ⟨rfl, hb⟩; obtain ⟨y2, rfl⟩ := bx_of hb; clear hb)
              exact ⟨⟨k + 1, by omega, by go_num, HBK.out.trans (y2.below.mono HBK.out.size)⟩, by simp [intOf]; omega⟩
            · obtain rfl : k1 = k := by omega
              have hlt' : ¬ (k1 : Int) < (k1 : Int) := by omega
              clear hBk HI2
              go_wp2
              go_loopw [113, 6, 20, 114, 115, 116, 117, 118, 119, 120] (fun i _ _ _ _ _ _ _ _ _ wr => ∃ k : Nat, k ≤ k2 ∧ i = .int .i64 k ∧ Below w5.heap.size w5 wr) (fun i _ _ _ _ _ _ _ _ _ _ => k2 - (intOf i).toNat)
              case atStart => exact ⟨0, by omega, rfl, HBK.out⟩
              case round =>
                obtain ⟨k, hk, rfl, hBk⟩ := hrel
                have HBL := Lib.hid hBk
                by_cases hlt : k < k2
                · have hkl : k < l2.length := by rw [HL2.out]; exact hlt
                  have hlt' : (k : Int) < (k2 : Int) := by omega
                  obtain ⟨bb, ob, hAb, hbb, hcb⟩ := (HR25.out.below hBk).at_ hkl
                  subst hAb
                  have hgg := HCB5.out.below hBk
                  have k0 := hgg.cell 0
                  have k1' := hgg.cell 1
                  have k2' := hgg.cell 2
                  have kl := hgg.lt
                  have hval := HGT2.out _ (List.getElem_mem hkl)
                  have HGC := Lib.hid (HGET.out wr hBk l2[k])
                  rw [hval] at HGC
                  obtain ⟨z, hz⟩ : ∃ z, l2[k] = z := ⟨_, rfl⟩
                  rw [hz] at hcb HGC
                  clear hgg hval hz hBk
                  go_wp2_with (go_at_call 19; refine HGC.out.mono ?_; rintro e w' ⟨rfl, hb⟩; obtain ⟨y2, rfl⟩ := bx_of hb; clear hb)
                  exact ⟨⟨k + 1, by omega, by go_num, HBL.out.trans (y2.below.mono HBL.out.size)⟩, by simp [intOf]; omega⟩
                · obtain rfl : k2 = k := by omega
                  have hlt' : ¬ (k2 : Int) < (k2 : Int) := by omega
                  obtain ⟨w7, rfl⟩ : ∃ w7, w7 = wr := ⟨_, rfl⟩
                  have hb57 := hBk
                  have hbk := back_fit (V := V) HLW.out hnm HOK.out HFIT.out
                  have hbf := back_flips (V := V) HFW.out HLW.out hnm HOK.out
                  rw [HOUT.out] at hbk hbf
                  rw [HL2.out] at hbk
                  have hok2 := okL_swap HOK.out
                  have hcb := change_both w7 T ys a n m (HLD5.out.below hb57) (fun W hW => HER5.out W (hb57.trans (hW.mono hb57.size))) HDF.out HDL.out hm ham hn1 hn2 P2 k2 d2 l2 HL2.out (by omega) (HR25.out.below hb57) P1 k1 d1 l1 HL1.out (by omega) (HR15.out.below hb57) out HDO.out V hbf
                  rcases hcb with ⟨_, _, hno, _, _⟩ | ⟨_, _, hc1, _⟩
                  · exact absurd ⟨hok2, hbk⟩ hno
                  have HC2 := Lib.hid (hc1 w7 (Below.refl _ _))
                  unfold bmv at HC2
                  have hgg := HCB5.out.below hb57
                  have k0 := hgg.cell 0
                  have k1' := hgg.cell 1
                  have k2' := hgg.cell 2
                  have kl := hgg.lt
                  have HB57 := Lib.hid hb57
                  clear hbk hbf hok2 hc1 hBk hb57 hgg
                  go_upto_region 34 with (go_at_call 15; refine HC2.out.mono ?_; rintro e w8 ⟨A8, c8, rfl, hS8, hO8, hB8⟩; have HS8 := Lib.hid hS8; have HO8 := Lib.hid hO8; have HB8 := Lib.hid hB8; clear hS8 hO8 hB8)
                  have hb58 : Below w5.heap.size w5 w8 := HB57.out.trans (HB8.out.mono HB57.out.size)
                  have hDV := HV.out.less hb58 (fun b => w5.heap.size ≤ b ∧ b < w8.heap.size) (fun b hb => hb)
                  obtain ⟨F3, hF3⟩ : ∃ F3 : Nat → Prop, (fun b => F2 b ∧ ¬ (w5.heap.size ≤ b ∧ b < w8.heap.size)) = F3 := ⟨_, rfl⟩
                  have HF3 : Hid (∀ b, F3 b → F2 b ∧ (b < w5.heap.size ∨ w8.heap.size ≤ b)) := by
                    rw [← hF3]
                    exact fun b hb => ⟨hb.1, by omega⟩
                  rw [hF3] at hDV
                  have HS28 : Hid (Sl 34 1 w8 A2 m c2 (uints V)) := HS25.out.keep (fun b hb => hb58.block b (HS25.out.lt hb))
                  have HG8 : Hid (CB w8 g 24 #[.int .i64 n, .int .i64 a, .slice A n0 c]) := HG5.out.below hb58
                  have HNX2 : Hid (∀ b, OwnB A8 b → ¬ F3 b) := fun b hb hf => by
                    have h1 := (HF3.out b hf).2
                    have h2 := HO8.out b hb
                    have h3 := HS8.out.lt hb
                    have h4 := HB57.out.size
                    omega
                  have HON8 : Hid (DV F3 d t w8 S ∧ On S 12 (applyW ys []) (9 + k1x)) := ⟨hDV, by simpa [applyW] using HYO.out⟩
                  have HBW8 : Hid (Below w.heap.size w w8) := HBW5.out.trans (hb58.mono HBW5.out.size)
                  have HMEM2 : Hid (∀ q ∈ difL out V a m, (∃ j, j < m ∧ q.1 = 8 * ((a + j : Nat) : Int)) ∧ 0 ≤ q.2 ∧ q.2 < 18446744073709551616) := difL_mem HFW.out
                  have hDO := difL_out ys out V a m HDO.out HLW.out (by rw [HDL.out]; exact ham)
                  have hDL : (applyW ys (difL out V a m)).length = 96 := by rw [length_applyW]; exact HDL.out
                  have hnl2 : (difL out V a m).length ≤ m := difL_le out V a m
                  obtain ⟨lst2, hlst⟩ : ∃ lst2, difL out V a m = lst2 := ⟨_, rfl⟩
                  rw [hlst] at HS8 HMEM2 hDO hDL hnl2 ⊢
                  obtain ⟨n2x, hnn⟩ : ∃ n2x, lst2.length = n2x := ⟨_, rfl⟩
                  have HNN2 := Lib.hid hnn
                  rw [hnn] at HS8 hnl2 ⊢
                  have HDO2 := Lib.hid hDO
                  have HDL2 := Lib.hid hDL
                  obtain ⟨zs, hzs⟩ : ∃ zs, applyW ys lst2 = zs := ⟨_, rfl⟩
                  rw [hzs] at HDO2 HDL2
                  have HZS := Lib.hid hzs
                  clear hF3 hDV hb58 hlst hnn hDO hDL hzs k0 k1' k2' kl HV
                  go_wp2
                  go_loopw [132, 22, 133, 134, 135, 136, 137, 138, 139, 140, 141, 142] (fun i _ _ _ _ _ _ _ _ _ _ _ wr => ∃ k : Nat, k ≤ n2x ∧ i = .int .i64 k ∧ ∃ S, DV F3 d t wr S ∧ On S 12 (applyW ys (lst2.take k)) (9 + k1x + k) ∧ Ch F3 w8 wr) (fun i _ _ _ _ _ _ _ _ _ _ _ _ => n2x - (intOf i).toNat)
                  case atStart => exact ⟨0, by omega, rfl, _, HON8.out.1, HON8.out.2, Ch.refl _ _⟩
                  case round =>
                    obtain ⟨k, hk, rfl, S, hV, hO, hCh⟩ := hrel
                    have HV := Lib.hid hV
                    have HO := Lib.hid hO
                    have HCH := Lib.hid hCh
                    by_cases hlt : k < n2x
                    · have hkl : k < lst2.length := by rw [HNN2.out]; exact hlt
                      have hlt' : (k : Int) < (n2x : Int) := by omega
                      obtain ⟨bd, od, hA4, hbd, hd1, hd2⟩ := (HS8.out.ch hCh HNX2.out).wr hkl
                      subst hA4
                      obtain ⟨⟨j, hjm, hj⟩, hv⟩ := HMEM2.out _ (List.getElem_mem hkl)
                      rw [hj] at hd1
                      have hst : applyW ys (lst2.take (k + 1)) = (applyW ys (lst2.take k)).set (a + j) (lst2[k]).2 := by
                        rw [List.take_succ_eq_append_getElem hkl, applyW_snoc, hj]
                        congr 1
                        omega
                      have hon := hO.store 0 (a + j) (by omega) (lst2[k]).2
                      rw [← hst] at hon
                      obtain ⟨v, hvv⟩ : ∃ v, (lst2[k]).2 = v := ⟨_, rfl⟩
                      rw [hvv] at hd2 hv hon
                      have HON := Lib.hid hon
                      rw [show 2 * k = k * 2 by omega] at hd1 hd2
                      obtain ⟨of, hof⟩ : ∃ z, 8 * ((a + j : Nat) : Int) = z := ⟨_, rfl⟩
                      have hofr : 0 ≤ of ∧ of < 18446744073709551616 := by omega
                      rw [hof] at hd1 HON
                      have HSTO : Hid (∀ o : Obj, Calls Tryd.prog 25 #[.pointer (some ⟨T, 0, none⟩), .int .u64 of, .int .u64 v] (wr.alloc o) fun e w' => e = .returned (.tuple #[]) ∧ DV F3 d t w' (S.store 0 of v) ∧ Ch F3 (wr.alloc o) w') := by
                        intro o
                        have := storeV (HV.out.alloc o) 0 (by omega) HO.out.good (by omega) of v hofr
                        rwa [HTT.out] at this
                      clear hV hO hCh hst hon hvv hof hj
                      go_wp2_with (go_at_call 25; refine (HSTO.out _).mono ?_; rintro e w' ⟨rfl, hV2, hC2⟩; have HV2 := Lib.hid hV2; have HC2 := Lib.hid hC2; clear hV2 hC2)
                      refine ⟨⟨k + 1, by omega, by go_num, _, HV2.out, by rw [show 9 + k1x + (k + 1) = 9 + k1x + k + 1 by omega]; exact HON.out, ?_⟩, by simp [intOf]; omega⟩
                      exact (HCH.out.alloc _).trans HC2.out (fun b h _ => h)
                    · obtain rfl : k = n2x := by omega
                      have hlt' : ¬ (k : Int) < (k : Int) := by omega
                      rw [List.take_of_length_le (by rw [HNN2.out]; omega)] at hO
                      have HZO : Hid (On S 12 zs (9 + k1x + k)) := by rw [← HZS.out]; exact hO
                      obtain ⟨w9, rfl⟩ : ∃ w9, w9 = wr := ⟨_, rfl⟩
                      have hbw9 : Below w.heap.size w w9 := bl_ch HBW8.out hCh (fun b hb => Nat.le_of_lt (HF2'.out b (HF3.out b hb).1).1)
                      have HBW9 := Lib.hid hbw9
                      have HS29 : Hid (Sl 34 1 w9 A2 m c2 (uints V)) := HS28.out.ch hCh (fun b hb hf => HNF2.out b hb (HF3.out b hf).1)
                      have hg9 := HG8.out.ch hCh (fun hf => HNFG.out (HF3.out g hf).1)
                      have hLD9 := ldV hV HZO.out 0 (by omega)
                      rw [HTT.out] at hLD9
                      have HRD9 := Lib.hid (read20 w9 T zs a n m hLD9 HDL2.out hm ham hn2 A n0 c)
                      rw [HDO2.out] at HRD9
                      have b0 := hg9.cell 0
                      have b1 := hg9.cell 1
                      have b2 := hg9.cell 2
                      have bl := hg9.lt
                      unfold inv20 at HRD9
                      clear hV hO hCh hbw9 hg9 hLD9 hlt hlt' hk
                      go_upto_region 42 with (go_at_call 14; refine HRD9.out.mono ?_; rintro e w10 ⟨A3, c3, rfl, hS3, hO3, hb9⟩; have HS3 := Lib.hid hS3; have HB10 := Lib.hid hb9; clear hS3 hO3 hb9)
                      have HS210 : Hid (Sl 34 1 w10 A2 m c2 (uints V)) := HS29.out.keep (fun b hb => HB10.out.block b (HS29.out.lt hb))
                      clear b0 b1 b2 bl
                      go_wp2
                      go_loopw [148, 6, 24, 149, 150, 151, 152, 153, 154, 155, 156, 157, 158, 159, 160] (fun i _ _ _ _ _ _ _ _ _ _ _ _ _ _ wr => ∃ k : Nat, k ≤ m ∧ i = .int .i64 k ∧ Below w10.heap.size w10 wr) (fun i _ _ _ _ _ _ _ _ _ _ _ _ _ _ _ => m - (intOf i).toNat)
                      case atStart => exact ⟨0, by omega, rfl, Below.refl _ _⟩
                      case round =>
                        obtain ⟨k, hk, rfl, hBk⟩ := hrel
                        have HBM := Lib.hid hBk
                        by_cases hlt : k < m
                        · have hkl : k < V.length := by rw [HLW.out]; exact hlt
                          have hlt' : (k : Int) < (m : Int) := by omega
                          obtain ⟨ba, oa, hA2, hba, hca⟩ := ((HS210.out.rdU).below hBk).at_ hkl
                          obtain ⟨bb, ob, hA3, hbb, hcb⟩ := ((HS3.out.rdU).below hBk).at_ hkl
                          subst hA2 hA3
                          obtain ⟨v, hv⟩ : ∃ v, V[k] = v := ⟨_, rfl⟩
                          rw [hv] at hca hcb
                          have hvv : (v != v) = false := by simp
                          clear hv hBk
                          go_upto_region 45 with (fail)
                          refine wp_region_quiet_lit (by kernel_rfl) (by kernel_rfl) ?_
                          repeat (go_big_quiet_step (fail))
                          refine wpQuiet_nil ?_
                          rintro _ ⟨nq, rfl⟩
                          go_wp2
                          exact ⟨⟨k + 1, by omega, by go_num, below_drewN HBM.out _⟩, by simp [intOf]; omega⟩
                        · obtain rfl : k = m := by omega
                          have hlt' : ¬ (k : Int) < (k : Int) := by omega
                          clear hBk
                          go_wp2
                          go_ret
                          exact ⟨rfl, HBW9.out.trans (Below.mono (HB10.out.trans (HBM.out.mono HB10.out.size)) HBW9.out.size)⟩

end Go.Proofs.YtbhkdngbgokilaaDoor
