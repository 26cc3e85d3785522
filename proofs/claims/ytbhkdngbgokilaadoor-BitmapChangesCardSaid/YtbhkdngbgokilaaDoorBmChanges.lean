/- The law BitmapChanges returns true. -/
import Derived.Test.YtbhkdngbgokilaaDoorBmR
import Derived.Test.YtbhkdngbgokilaaDoorBmK
namespace Go.Proofs.YtbhkdngbgokilaaDoor
open Go.RowKit
set_option linter.unusedVariables false

set_option maxRecDepth 100000 in
set_option maxHeartbeats 4000000 in
theorem law_BitmapChanges (w : World) (hT : Tab w) (B At : Int) (hB : -9223372036854775808 ≤ B ∧ B < 9223372036854775808) (hAt : -9223372036854775808 ≤ At ∧ At < 9223372036854775808) (A : Option Addr) (n0 c : Nat) (ws : List Int) (hw : ws.length = n0) (hws : FitsB ws) (hnc : n0 ≤ 9223372036854775807) (hR : Rd .u64 w A ws)
    (P1 : Option Addr) (k1 d1 : Nat) (l1 : List Int) (hl1 : l1.length = k1) (hk1 : k1 ≤ 9223372036854775807) (hR1 : Rd .i64 w P1 l1) (P2 : Option Addr) (k2 d2 : Nat) (l2 : List Int) (hl2 : l2.length = k2) (hk2 : k2 ≤ 9223372036854775807) (hR2 : Rd .i64 w P2 l2) :
    Calls Tryd.prog 3 #[inv20 B At A n0 c, .slice P1 k1 d1, .slice P2 k2 d2] w fun e w' => e = .returned (.bool true) ∧ Below w.heap.size w w' := by
  have HT := Lib.hid hT
  have HR := Lib.hid hR
  have HW := Lib.hid hw
  have HFX := Lib.hid (layW_fits At ws hws (min n0 9))
  have HL1 := Lib.hid hl1
  have HL2 := Lib.hid hl2
  have HR1 := Lib.hid hR1
  have HR2 := Lib.hid hR2
  clear hT hR hw hws hl1 hl2 hR1 hR2
  have HLY := Lib.hid (fun (W : World) (hW : Below w.heap.size w W) => lay20 W B At hAt A n0 c ws HW.out hnc (HR.out.below hW))
  have HFI := Lib.hid (fun (W : World) => fits20 W B At A n0 c hB hAt)
  obtain ⟨xs, hxs⟩ : ∃ xs, layW At ws (min n0 9) = xs := ⟨_, rfl⟩
  rw [hxs] at HFX HLY
  clear hxs
  unfold inv20 at HLY HFI ⊢
  by_cases hbig : (k1 : Int) > 100 ∨ (k2 : Int) > 100
  · have hbig2 : (k1 : Int) > 100 ∨ (¬ (k1 : Int) > 100 ∧ (k2 : Int) > 100) := by omega
    clear HLY HFI hbig
    rcases hbig2 with hb | ⟨hb1, hb2⟩
    · go_enter Tryd.func3, Tryd.ntmps3
      go_wp2_with (go_at_call 10; refine (awake20 _ (HT.out.below (by (repeat (first | with_reducible exact Below.refl _ _ | with_reducible refine bl_alloc ?_ _ | with_reducible refine bl_drew ?_ | with_reducible refine bl_drewN ?_ _ | with_reducible refine bl_bx ?_ _ | with_reducible exact BX.below _ | with_reducible refine bl_set ?_ (by first | (exact Nat.le_refl _) | (simp; done) | (simp; omega)) _ | assumption))))).mono ?_; rintro e w' ⟨rfl, hb⟩; obtain ⟨x, rfl⟩ := bx_of hb; clear hb)
      go_ret
      exact ⟨rfl, (by repeat (first | with_reducible exact Below.refl _ _ | with_reducible refine bl_alloc ?_ _ | with_reducible refine bl_drew ?_ | with_reducible refine bl_drewN ?_ _ | with_reducible refine bl_bx ?_ _ | with_reducible exact BX.below _ | with_reducible refine bl_set ?_ (by first | (exact Nat.le_refl _) | (simp; done) | (simp; omega)) _ | assumption))⟩
    · go_enter Tryd.func3, Tryd.ntmps3
      go_wp2_with (go_at_call 10; refine (awake20 _ (HT.out.below (by (repeat (first | with_reducible exact Below.refl _ _ | with_reducible refine bl_alloc ?_ _ | with_reducible refine bl_drew ?_ | with_reducible refine bl_drewN ?_ _ | with_reducible refine bl_bx ?_ _ | with_reducible exact BX.below _ | with_reducible refine bl_set ?_ (by first | (exact Nat.le_refl _) | (simp; done) | (simp; omega)) _ | assumption))))).mono ?_; rintro e w' ⟨rfl, hb⟩; obtain ⟨x, rfl⟩ := bx_of hb; clear hb)
      go_ret
      exact ⟨rfl, (by repeat (first | with_reducible exact Below.refl _ _ | with_reducible refine bl_alloc ?_ _ | with_reducible refine bl_drew ?_ | with_reducible refine bl_drewN ?_ _ | with_reducible refine bl_bx ?_ _ | with_reducible exact BX.below _ | with_reducible refine bl_set ?_ (by first | (exact Nat.le_refl _) | (simp; done) | (simp; omega)) _ | assumption))⟩
  have hb1 : ¬ (k1 : Int) > 100 := fun h => hbig (.inl h)
  have hb2 : ¬ (k2 : Int) > 100 := fun h => hbig (.inr h)
  clear hbig
  go_enter Tryd.func3, Tryd.ntmps3
  go_upto_region 4 with (first
    | (go_at_call 10; refine (awake20 _ (HT.out.below (by (repeat (first | with_reducible exact Below.refl _ _ | with_reducible refine bl_alloc ?_ _ | with_reducible refine bl_drew ?_ | with_reducible refine bl_drewN ?_ _ | with_reducible refine bl_bx ?_ _ | with_reducible exact BX.below _ | with_reducible refine bl_set ?_ (by first | (exact Nat.le_refl _) | (simp; done) | (simp; omega)) _ | assumption))))).mono ?_; rintro e w' ⟨rfl, hb⟩; obtain ⟨x, rfl⟩ := bx_of hb; clear hb)
    | (go_at_call 11; refine (HLY.out _ (by (repeat (first | with_reducible exact Below.refl _ _ | with_reducible refine bl_alloc ?_ _ | with_reducible refine bl_drew ?_ | with_reducible refine bl_drewN ?_ _ | with_reducible refine bl_bx ?_ _ | with_reducible exact BX.below _ | with_reducible refine bl_set ?_ (by first | (exact Nat.le_refl _) | (simp; done) | (simp; omega)) _ | assumption)))).mono ?_; rintro e w1 ⟨d, t, S, rfl, hV, hO, hB1⟩; have HV := Lib.hid hV; have HO := Lib.hid hO; have HB1 := Lib.hid hB1; clear hV hO hB1))
  have HSZ := Lib.hid (onSize HV.out HO.out)
  have HER := Lib.hid (onErr HV.out HO.out)
  have HLD := Lib.hid (ldV HV.out HO.out 0 (by omega))
  have hb1 : Below w.heap.size w x.w := by (repeat (first | with_reducible exact Below.refl _ _ | with_reducible refine bl_alloc ?_ _ | with_reducible refine bl_drew ?_ | with_reducible refine bl_drewN ?_ _ | with_reducible refine bl_bx ?_ _ | with_reducible exact BX.below _ | with_reducible refine bl_set ?_ (by first | (exact Nat.le_refl _) | (simp; done) | (simp; omega)) _ | assumption))
  have hb2 : Below w.heap.size w w1 := hb1.trans (HB1.out.mono hb1.size)
  have hc0 : CB (w.alloc (.cells #[.int .i64 B, .int .i64 At, .slice A n0 c] 24)) w.heap.size 24 #[.int .i64 B, .int .i64 At, .slice A n0 c] := CB.new _ _ _
  have hc1 := (hc0.bx x).below HB1.out
  have HB2 := Lib.hid hb2
  have HT1 := Lib.hid (HT.out.below hb2)
  obtain ⟨g, hg⟩ : ∃ g, w.heap.size = g := ⟨_, rfl⟩
  obtain ⟨T, hTT⟩ : ∃ T, t 0 = T := ⟨_, rfl⟩
  rw [hTT] at HSZ HER HLD
  rw [hg] at hc1
  rw [hg, hTT]
  have b0 := hc1.cell 0
  have b1 := hc1.cell 1
  have b2 := hc1.cell 2
  have bl := hc1.lt
  have HC1 := Lib.hid hc1
  clear hTT hb1 hb2 hc0 hc1 HV HO HLY HB1 HT HR HW
  cases hfit : fitsB B At with
  | false =>
    rw [hfit] at HFI
    clear hfit
    go_wp2_with (go_at_call 12; refine (HFI.out _).mono ?_; rintro e w' ⟨rfl, hb⟩; obtain ⟨y, rfl⟩ := bx_of hb; clear hb)
    go_ret
    exact ⟨rfl, HB2.out.trans (y.below.mono HB2.out.size)⟩
  | true =>
    rw [hfit] at HFI
    unfold fitsB at hfit
    simp only [Bool.and_eq_true, decide_eq_true_eq] at hfit
    obtain ⟨f1, f2, f3, f4, f5⟩ := hfit
    obtain ⟨n, rfl⟩ := Int.eq_ofNat_of_zero_le (show 0 ≤ B by omega)
    obtain ⟨a, rfl⟩ := Int.eq_ofNat_of_zero_le f3
    have hn1 : 1 ≤ n := by omega
    have hn2 : n ≤ 512 := by omega
    obtain ⟨m, hm⟩ : ∃ m, (n + 63) / 64 = m := ⟨_, rfl⟩
    have ham : a + m ≤ 96 := by omega
    have hnm : n ≤ 64 * m := by omega
    have hok : openB (8 * (a : Int)) n = true := by
      unfold openB
      rw [decide_eq_true (by omega), decide_eq_true (by omega), decide_eq_true (by omega), decide_eq_true (by omega)]; rfl
    have e1 : IntKind.u64.wrap (a : Int) = (a : Int) := IntWalk.u64_in _ (by omega)
    have e2 : IntKind.u64.wrap (8 * (a : Int)) = 8 * (a : Int) := IntWalk.u64_in _ (by omega)
    have HOPN : Hid (∀ W, Below w1.heap.size w1 W → Calls Tryd.prog 13 #[.iface 28 (.pointer (some ⟨T, 0, none⟩)), .int .u64 (8 * (a : Int)), .int .i64 n] W fun e w' => e = .returned (.tuple #[.agg #[.iface 28 (.pointer (some ⟨T, 0, none⟩)), .int .u64 (8 * (a : Int)), .int .i64 n], .int .i64 0]) ∧ Below W.heap.size W w') := by
      intro W hW
      have := bmOpen_ok W T (8 * (a : Int)) n 0 (by omega) (fun W' hW' => HSZ.out W' (hW.trans (hW'.mono hW.size))) (fun W' hW' => HER.out W' (hW.trans (hW'.mono hW.size))) hok
      rwa [if_pos rfl] at this
    have hxl := HFX.out.2
    have HRD : Hid (∀ W, Below w1.heap.size w1 W → Calls Tryd.prog 14 #[.pointer (some ⟨T, 0, none⟩), .agg #[.int .i64 n, .int .i64 a, .slice A n0 c]] W (ReadPost W ((xs.drop a).take m) m)) := fun W hW => read20 W T xs a n m (HLD.out.below hW) hxl hm ham hn2 A n0 c
    clear f1 f2 f4 f5 hok
    go_upto_region 7 with (first
      | (go_at_call 12; refine (HFI.out _).mono ?_; rintro e w' ⟨rfl, hb⟩; obtain ⟨y, rfl⟩ := bx_of hb; clear hb)
      | (go_at_call 13; refine (HOPN.out _ (by (repeat (first | with_reducible exact Below.refl _ _ | with_reducible refine bl_alloc ?_ _ | with_reducible refine bl_drew ?_ | with_reducible refine bl_drewN ?_ _ | with_reducible refine bl_bx ?_ _ | with_reducible exact BX.below _ | with_reducible refine bl_set ?_ (by first | (exact Nat.le_refl _) | (simp; done) | (simp; omega)) _ | assumption)))).mono ?_; rintro e w' ⟨rfl, hb⟩; obtain ⟨z, rfl⟩ := bx_of hb; clear hb))
    have hbc : CB (z.w.alloc (.cells #[.iface 28 (.pointer (some ⟨T, 0, none⟩)), .int .u64 (8 * (a : Int)), .int .i64 n] 36)) z.w.heap.size 36 #[.iface 28 (.pointer (some ⟨T, 0, none⟩)), .int .u64 (8 * (a : Int)), .int .i64 n] := CB.new _ _ _
    have hgc : CB (z.w.alloc (.cells #[.iface 28 (.pointer (some ⟨T, 0, none⟩)), .int .u64 (8 * (a : Int)), .int .i64 n] 36)) g 24 #[.int .i64 n, .int .i64 a, .slice A n0 c] := ((HC1.out.bx y).bx z).alloc _
    have hb5 : Below w1.heap.size w1 (z.w.alloc (.cells #[.iface 28 (.pointer (some ⟨T, 0, none⟩)), .int .u64 (8 * (a : Int)), .int .i64 n] 36)) := by (repeat (first | with_reducible exact Below.refl _ _ | with_reducible refine bl_alloc ?_ _ | with_reducible refine bl_drew ?_ | with_reducible refine bl_drewN ?_ _ | with_reducible refine bl_bx ?_ _ | with_reducible exact BX.below _ | with_reducible refine bl_set ?_ (by first | (exact Nat.le_refl _) | (simp; done) | (simp; omega)) _ | assumption))
    obtain ⟨gb, hgb⟩ : ∃ gb, z.w.heap.size = gb := ⟨_, rfl⟩
    obtain ⟨W5, hW5⟩ : ∃ W5, z.w.alloc (.cells #[.iface 28 (.pointer (some ⟨T, 0, none⟩)), .int .u64 (8 * (a : Int)), .int .i64 n] 36) = W5 := ⟨_, rfl⟩
    rw [hgb, hW5] at hbc
    rw [hW5] at hgc hb5
    rw [hgb, hW5]
    clear hgb hW5 b0 b1 b2 bl
    have b0 := hgc.cell 0
    have b1 := hgc.cell 1
    have b2 := hgc.cell 2
    have bl := hgc.lt
    have HRW := HRD.out W5 hb5
    go_upto_region 10 with (go_at_call 14; refine HRW.mono ?_; rintro e w2 ⟨A2, c2, rfl, hS2, hO2, hb3⟩; have HS2 := Lib.hid hS2; have HB3 := Lib.hid hb3; clear hS2 hO2 hb3)
    have hb6 := hb5.trans (HB3.out.mono hb5.size)
    have hbc2 := hbc.below HB3.out
    have hgc2 := hgc.below HB3.out
    have HB6 := Lib.hid hb6
    clear b0 b1 b2 bl hbc hgc hb5 HRW
    have hfw : FitsB ((xs.drop a).take m) := fun v hv => HFX.out.1 v (List.mem_of_mem_drop (List.mem_of_mem_take hv))
    have hlw : ((xs.drop a).take m).length = m := by rw [List.length_take, List.length_drop, hxl]; omega
    obtain ⟨V, hV⟩ : ∃ V, (xs.drop a).take m = V := ⟨_, rfl⟩
    obtain ⟨out, hout⟩ : ∃ out, flips V ((l1 ++ l2).map Int.toNat) = out := ⟨_, rfl⟩
    have hb7 : Below w.heap.size w w2 := HB2.out.trans (hb6.mono HB2.out.size)
    have hcb := change_both w2 T xs a n m (HLD.out.below hb6) (fun W hW => HER.out W (hb6.trans (hW.mono hb6.size))) HFX.out.1 hxl hm ham hn1 hn2 P1 k1 d1 l1 HL1.out (by omega) (HR1.out.below hb7) P2 k2 d2 l2 HL2.out (by omega) (HR2.out.below hb7) V hV out hout
    rw [hV] at hfw hlw HS2 HRD
    have HCBC := Lib.hid hbc2
    have HCGC := Lib.hid hgc2
    have HB7 := Lib.hid hb7
    have HLW := Lib.hid hlw
    have HLO : Hid (out.length = m) := by show _ = _; rw [← hout, flips_length]; exact hlw
    have b0 := hgc2.cell 0
    have b1 := hgc2.cell 1
    have b2 := hgc2.cell 2
    have bl := hgc2.lt
    have k0 := hbc2.cell 0
    have k1' := hbc2.cell 1
    have k2' := hbc2.cell 2
    have kl := hbc2.lt
    unfold bmv at hcb
    clear hV hout hb6 hb7 hbc2 hgc2 hlw hfw HR1 HR2 HL1 HL2 hg
    rcases hcb with ⟨fc, hfc, _, hc1, hc2⟩ | ⟨_, _, hc1, hc2⟩
    · have HC1 := Lib.hid hc1
      have HC2 := Lib.hid hc2
      have hfc' : (fc == 0) = false := by simpa using hfc
      clear hc1 hc2
      go_upto_region 11 with (go_at_call 15; refine (HC1.out _ (by (repeat (first | with_reducible exact Below.refl _ _ | with_reducible refine bl_alloc ?_ _ | with_reducible refine bl_drew ?_ | with_reducible refine bl_drewN ?_ _ | with_reducible refine bl_bx ?_ _ | with_reducible exact BX.below _ | with_reducible refine bl_set ?_ (by first | (exact Nat.le_refl _) | (simp; done) | (simp; omega)) _ | assumption)))).mono ?_; rintro e w' ⟨rfl, hb⟩; obtain ⟨p, rfl⟩ := bx_of hb; clear hb)
      go_upto_region 12 with (go_at_call 16; refine (HC2.out _ _ _ (by (repeat (first | with_reducible exact Below.refl _ _ | with_reducible refine bl_alloc ?_ _ | with_reducible refine bl_drew ?_ | with_reducible refine bl_drewN ?_ _ | with_reducible refine bl_bx ?_ _ | with_reducible exact BX.below _ | with_reducible refine bl_set ?_ (by first | (exact Nat.le_refl _) | (simp; done) | (simp; omega)) _ | assumption))) ((HS2.out.rdU).below (by (repeat (first | with_reducible exact Below.refl _ _ | with_reducible refine bl_alloc ?_ _ | with_reducible refine bl_drew ?_ | with_reducible refine bl_drewN ?_ _ | with_reducible refine bl_bx ?_ _ | with_reducible exact BX.below _ | with_reducible refine bl_set ?_ (by first | (exact Nat.le_refl _) | (simp; done) | (simp; omega)) _ | assumption))))).mono ?_; rintro e w' ⟨rfl, hb⟩; obtain ⟨q, rfl⟩ := bx_of hb; clear hb)
      have hb8 : Below w2.heap.size w2 q.w := by (repeat (first | with_reducible exact Below.refl _ _ | with_reducible refine bl_alloc ?_ _ | with_reducible refine bl_drew ?_ | with_reducible refine bl_drewN ?_ _ | with_reducible refine bl_bx ?_ _ | with_reducible exact BX.below _ | with_reducible refine bl_set ?_ (by first | (exact Nat.le_refl _) | (simp; done) | (simp; omega)) _ | assumption))
      have HRW := HRD.out q.w (HB6.out.trans (hb8.mono HB6.out.size))
      go_upto_region 13 with (go_at_call 14; refine HRW.mono ?_; rintro e w3 ⟨A3, c3, rfl, hS3, hO3, hb9⟩; have HS3 := Lib.hid hS3; have HB9 := Lib.hid (hb8.trans (hb9.mono hb8.size)); clear hS3 hO3 hb9)
      have HS2' : Hid (Sl 34 1 w3 A2 m c2 (uints V)) := HS2.out.keep (fun b hb => HB9.out.block b (HS2.out.lt hb))
      clear HRW b0 b1 b2 bl k0 k1' k2' kl hb8
      go_wp2
      go_loopw [78, 17, 6, 18, 79, 80, 81, 82, 83, 84, 85, 86, 87, 88, 89, 90, 91, 92, 93, 94, 95, 96, 97, 98, 99, 100, 101, 102, 103, 104, 105, 106, 107, 108, 109, 110, 111, 112, 113, 114, 115, 116, 117, 118, 119, 120, 121, 122, 123, 124, 125, 126, 127] (fun i s _ _ _ _ _ _ _ _ _ _ _ _ _ _ _ _ _ _ _ _ _ _ _ _ _ _ _ _ _ _ _ _ _ _ _ _ _ _ _ _ _ _ _ _ _ _ _ _ _ _ _ wr => ∃ k : Nat, k ≤ m ∧ i = .int .i64 k ∧ s = .int .i64 0 ∧ Below w3.heap.size w3 wr) (fun i _ _ _ _ _ _ _ _ _ _ _ _ _ _ _ _ _ _ _ _ _ _ _ _ _ _ _ _ _ _ _ _ _ _ _ _ _ _ _ _ _ _ _ _ _ _ _ _ _ _ _ _ _ => m - (intOf i).toNat)
      case atStart => exact ⟨0, by omega, rfl, rfl, Below.refl _ _⟩
      case round =>
        obtain ⟨k, hk, rfl, rfl, hBk⟩ := hrel
        have HBK := Lib.hid hBk
        by_cases hlt : k < m
        · have hkl : k < V.length := by rw [HLW.out]; exact hlt
          have hlt' : (k : Int) < (m : Int) := by omega
          obtain ⟨ba, oa, hA2, hba, hca⟩ := ((HS2'.out.rdU).below hBk).at_ hkl
          obtain ⟨bb, ob, hA3, hbb, hcb⟩ := ((HS3.out.rdU).below hBk).at_ hkl
          subst hA2 hA3
          obtain ⟨v, hv⟩ : ∃ v, V[k] = v := ⟨_, rfl⟩
          rw [hv] at hca hcb
          have hvv : (v != v) = false := by simp
          clear hv hBk
          go_upto_region 17 with (fail)
          refine wp_region_quiet_lit (by kernel_rfl) (by kernel_rfl) ?_
          repeat (go_big_quiet_step (fail))
          refine wpQuiet_nil ?_
          rintro _ ⟨nq, rfl⟩
          go_upto_region 19 with (fail)
          refine wp_region_quiet_lit (by kernel_rfl) (by kernel_rfl) ?_
          repeat (go_big_quiet_step (fail))
          refine wpQuiet_nil ?_
          rintro _ ⟨nq2, rfl⟩
          go_wp2
          exact ⟨⟨k + 1, by omega, by go_num, rfl, below_drewN HBK.out _⟩, by simp [intOf]; omega⟩
        · obtain rfl : k = m := by omega
          have hlt' : ¬ (k : Int) < (k : Int) := by omega
          have hff : (fc == fc) = true := by simp
          clear hBk
          go_wp2
          go_ret
          exact ⟨rfl, HB7.out.trans (Below.mono (HB9.out.trans (HBK.out.mono HB9.out.size)) HB7.out.size)⟩
    · have HC1 := Lib.hid hc1
      have HC2 := Lib.hid hc2
      clear hc1 hc2
      go_upto_region 11 with (go_at_call 15; refine (HC1.out _ (by (repeat (first | with_reducible exact Below.refl _ _ | with_reducible refine bl_alloc ?_ _ | with_reducible refine bl_drew ?_ | with_reducible refine bl_drewN ?_ _ | with_reducible refine bl_bx ?_ _ | with_reducible exact BX.below _ | with_reducible refine bl_set ?_ (by first | (exact Nat.le_refl _) | (simp; done) | (simp; omega)) _ | assumption)))).mono ?_; rintro e w4 ⟨A4, c4, rfl, hS4, hO4, hB4⟩; have HS4 := Lib.hid hS4; have HB4 := Lib.hid hB4; clear hS4 hO4 hB4)
      have hb4 : Below w2.heap.size w2 w4 := HB4.out
      have hg4 := HCGC.out.below hb4
      clear b0 b1 b2 bl k0 k1' k2' kl
      have b0 := hg4.cell 0
      have b1 := hg4.cell 1
      have b2 := hg4.cell 2
      have bl := hg4.lt
      clear hg4
      have HCL2 := HC2.out w4 A2 c2 hb4 ((HS2.out.rdU).below hb4)
      go_upto_region 12 with (go_at_call 16; refine HCL2.mono ?_; rintro e w5 ⟨A5, c5, rfl, hS5, hO5, hB5⟩; have HS5 := Lib.hid hS5; have HB5 := Lib.hid hB5; clear hS5 hO5 hB5)
      have hb5 : Below w2.heap.size w2 w5 := hb4.trans (HB5.out.mono hb4.size)
      have hg5 := HCGC.out.below hb5
      clear b0 b1 b2 bl HCL2
      have b0 := hg5.cell 0
      have b1 := hg5.cell 1
      have b2 := hg5.cell 2
      have bl := hg5.lt
      clear hg5
      have HRW := HRD.out w5 (HB6.out.trans (hb5.mono HB6.out.size))
      go_upto_region 13 with (go_at_call 14; refine HRW.mono ?_; rintro e w3 ⟨A3, c3, rfl, hS3, hO3, hb9⟩; have HS3 := Lib.hid hS3; have HB9 := Lib.hid hb9; clear hS3 hO3 hb9)
      have hb45 : Below w4.heap.size w4 w3 := HB5.out.trans (HB9.out.mono HB5.out.size)
      have hb23 : Below w2.heap.size w2 w3 := hb5.trans (HB9.out.mono hb5.size)
      have HS2' : Hid (Sl 34 1 w3 A2 m c2 (uints V)) := HS2.out.keep (fun b hb => hb23.block b (HS2.out.lt hb))
      have HS4' : Hid (Sl 47 2 w3 A4 (difL V out a m).length c4 (wcells (difL V out a m))) := HS4.out.keep (fun b hb => hb45.block b (HS4.out.lt hb))
      have HS5' : Hid (Sl 34 1 w3 A5 m c5 (uints out)) := HS5.out.keep (fun b hb => HB9.out.block b (HS5.out.lt hb))
      have hg3 := Lib.hid (HCGC.out.below hb23)
      have HB23 := Lib.hid hb23
      clear HRW b0 b1 b2 bl hb4 hb5 hb45 hb23
      have HNM : Hid ((difL V out a m).length ≤ m) := difL_le V out a m
      obtain ⟨nn, hnn⟩ : ∃ nn, (difL V out a m).length = nn := ⟨_, rfl⟩
      rw [hnn] at HS4' HNM ⊢
      have HNN := Lib.hid hnn
      clear hnn HS4 HS2 HS5
      go_wp2
      go_loopw [78, 17, 6, 18, 79, 80, 81, 82, 83, 84, 85, 86, 87, 88, 89, 90, 91, 92, 93, 94, 95, 96, 97, 98, 99, 100, 101, 102, 103, 104, 105, 106, 107, 108, 109, 110, 111, 112, 113, 114, 115, 116, 117, 118, 119, 120, 121, 122, 123, 124, 125, 126, 127] (fun i s _ _ _ _ _ _ _ _ _ _ _ _ _ _ _ _ _ _ _ _ _ _ _ _ _ _ _ _ _ _ _ _ _ _ _ _ _ _ _ _ _ _ _ _ _ _ _ _ _ _ _ wr => ∃ k : Nat, k ≤ m ∧ i = .int .i64 k ∧ s = .int .i64 ((difL V out a k).length : Nat) ∧ Below w3.heap.size w3 wr) (fun i _ _ _ _ _ _ _ _ _ _ _ _ _ _ _ _ _ _ _ _ _ _ _ _ _ _ _ _ _ _ _ _ _ _ _ _ _ _ _ _ _ _ _ _ _ _ _ _ _ _ _ _ _ => m - (intOf i).toNat)
      case atStart => exact ⟨0, by omega, rfl, rfl, Below.refl _ _⟩
      case round =>
        obtain ⟨k, hk, rfl, rfl, hBk⟩ := hrel
        have HBK := Lib.hid hBk
        have hnm := HNM.out
        by_cases hlt : k < m
        · have hkl : k < V.length := by rw [HLW.out]; exact hlt
          have hko : k < out.length := by rw [HLO.out]; exact hlt
          have hlt' : (k : Int) < (m : Int) := by omega
          obtain ⟨ba, oa, hA2, hba, hca⟩ := ((HS2'.out.rdU).below hBk).at_ hkl
          obtain ⟨bb, ob, hA3, hbb, hcb⟩ := ((HS3.out.rdU).below hBk).at_ hkl
          obtain ⟨bc, oc, hA5, hbc, hcc⟩ := ((HS5'.out.rdU).below hBk).at_ hko
          subst hA2 hA3 hA5
          have hst := difL_step V out a k
          have hcur := difL_le V out a k
          have hpos := difL_at V out a k m hlt
          unfold difOne at hst
          rw [List.getElem?_eq_getElem hkl, List.getElem?_eq_getElem hko] at hst hpos
          simp only [Option.getD_some] at hst hpos
          obtain ⟨v, hv⟩ : ∃ v, V[k] = v := ⟨_, rfl⟩
          obtain ⟨u, hu⟩ : ∃ u, out[k] = u := ⟨_, rfl⟩
          rw [hv] at hca hcb hst hpos
          rw [hu] at hcc hst hpos
          have hvv : (v != v) = false := by simp
          have HST := Lib.hid hst
          have HPOS := Lib.hid hpos
          obtain ⟨cl, hcl⟩ : ∃ cl, (difL V out a k).length = cl := ⟨_, rfl⟩
          rw [hcl] at hcur HPOS ⊢
          have HCL := Lib.hid hcl
          clear hv hu hst hpos hcl
          by_cases he : u = v
          · have huv : (u != v) = false := by simpa using he
            have HE := Lib.hid he
            clear hBk he
            go_upto_region 17 with (fail)
            refine wp_region_quiet_lit (by kernel_rfl) (by kernel_rfl) ?_
            repeat (go_big_quiet_step (fail))
            refine wpQuiet_nil ?_
            rintro _ ⟨nq, rfl⟩
            go_upto_region 19 with (fail)
            refine wp_region_quiet_lit (by kernel_rfl) (by kernel_rfl) ?_
            repeat (go_big_quiet_step (fail))
            refine wpQuiet_nil ?_
            rintro _ ⟨nq2, rfl⟩
            go_wp2
            refine ⟨⟨k + 1, by omega, by go_num, ?_, below_drewN HBK.out _⟩, by simp [intOf]; omega⟩
            rw [HST.out, if_pos HE.out, List.append_nil, HCL.out]
          · have huv : (u != v) = true := by simpa using he
            have hat := HPOS.out he
            have HE := Lib.hid he
            have hclt : cl < (difL V out a m).length := (List.getElem?_eq_some_iff.1 hat).1
            have hww := (List.getElem?_eq_some_iff.1 hat).2
            obtain ⟨bd, od, hA4, hbd, hd1, hd2⟩ := (HS4'.out.keep (fun b hb => hBk.block b (HS4'.out.lt hb))).wr hclt
            subst hA4
            rw [hww] at hd1 hd2
            rw [HNN.out] at hclt
            simp only [] at hd1 hd2
            have hgg := hg3.out.below hBk
            have b1 := hgg.cell 1
            have bl := hgg.lt
            rw [show 2 * cl = cl * 2 by omega] at hd1 hd2
            have hcl1 : ¬ (cl : Int) ≥ (nn : Int) := by omega
            have hcl2 : (cl : Int) < (nn : Int) := by omega
            have e3 : IntKind.u64.wrap ((a : Int) + (k : Int)) = (a : Int) + (k : Int) := IntWalk.u64_in _ (by omega)
            have e4 : IntKind.u64.wrap (8 * ((a : Int) + (k : Int))) = 8 * ((a : Int) + (k : Int)) := IntWalk.u64_in _ (by omega)
            rw [show (8 * ((a + k : Nat) : Int)) = 8 * ((a : Int) + (k : Int)) by omega] at hd1
            clear hBk he hat hww hgg
            go_upto_region 17 with (fail)
            refine wp_region_quiet_lit (by kernel_rfl) (by kernel_rfl) ?_
            repeat (go_big_quiet_step (fail))
            refine wpQuiet_nil ?_
            rintro _ ⟨nq, rfl⟩
            go_upto_region 19 with (fail)
            refine wp_region_quiet_lit (by kernel_rfl) (by kernel_rfl) ?_
            repeat (go_big_quiet_step (fail))
            refine wpQuiet_nil ?_
            rintro _ ⟨nq2, rfl⟩
            go_upto_region 20 with (fail)
            refine wp_region_quiet_lit (by kernel_rfl) (by kernel_rfl) ?_
            repeat (go_big_quiet_step (fail))
            refine wpQuiet_nil ?_
            rintro _ ⟨nq3, rfl⟩
            go_wp2
            refine ⟨⟨k + 1, by omega, by go_num, ?_, below_drewN HBK.out _⟩, by simp [intOf]; omega⟩
            rw [HST.out, if_neg HE.out, List.length_append, HCL.out]
            go_num
        · obtain rfl : k = m := by omega
          have hlt' : ¬ (k : Int) < (k : Int) := by omega
          rw [HNN.out]
          clear hBk
          go_wp2
          go_ret
          exact ⟨rfl, HB7.out.trans (Below.mono (HB23.out.trans (HBK.out.mono HB23.out.size)) HB7.out.size)⟩
end Go.Proofs.YtbhkdngbgokilaaDoor
