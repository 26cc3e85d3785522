/- The law BitmapOpens returns true. -/
import Derived.Test.YtbhkdngbgokilaaDoorBmK
namespace Go.Proofs.YtbhkdngbgokilaaDoor
open Go.RowKit
set_option linter.unusedVariables false

set_option maxRecDepth 100000 in
set_option maxHeartbeats 4000000 in
theorem law_BitmapOpens (w : World) (hT : Tab w) (B At : Int) (hB : -9223372036854775808 ≤ B ∧ B < 9223372036854775808) (hAt : -9223372036854775808 ≤ At ∧ At < 9223372036854775808) (A : Option Addr) (n c : Nat) (ws : List Int) (hw : ws.length = n) (hnc : n ≤ 9223372036854775807) (hR : Rd .u64 w A ws) (off : Int) (ho : 0 ≤ off ∧ off < 18446744073709551616) :
    Calls Tryd.prog 4 #[inv20 B At A n c, .int .u64 off] w fun e w' => e = .returned (.bool true) ∧ Below w.heap.size w w' := by
  have HT := Lib.hid hT
  have HR := Lib.hid hR
  have HW := Lib.hid hw
  clear hT hR hw
  have HLY := Lib.hid (fun (W : World) (hW : Below w.heap.size w W) => lay20 W B At hAt A n c ws HW.out hnc (HR.out.below hW))
  unfold inv20 at HLY ⊢
  go_enter Tryd.func4, Tryd.ntmps4
  go_upto_region 4 with (first
    | (go_at_call 10; refine (awake20 _ (HT.out.below (by (repeat (first | with_reducible exact Below.refl _ _ | with_reducible refine bl_alloc ?_ _ | with_reducible refine bl_drew ?_ | with_reducible refine bl_drewN ?_ _ | with_reducible refine bl_bx ?_ _ | with_reducible exact BX.below _ | with_reducible refine bl_set ?_ (by first | (exact Nat.le_refl _) | (simp; done) | (simp; omega)) _ | assumption))))).mono ?_; rintro e w' ⟨rfl, hb⟩; obtain ⟨x, rfl⟩ := bx_of hb; clear hb)
    | (go_at_call 11; refine (HLY.out _ (by (repeat (first | with_reducible exact Below.refl _ _ | with_reducible refine bl_alloc ?_ _ | with_reducible refine bl_drew ?_ | with_reducible refine bl_drewN ?_ _ | with_reducible refine bl_bx ?_ _ | with_reducible exact BX.below _ | with_reducible refine bl_set ?_ (by first | (exact Nat.le_refl _) | (simp; done) | (simp; omega)) _ | assumption)))).mono ?_; rintro e w1 ⟨d, t, S, rfl, hV, hO, hB1⟩; have HV := Lib.hid hV; have HO := Lib.hid hO; have HB1 := Lib.hid hB1; clear hV hO hB1))
  have HSZ := Lib.hid (onSize HV.out HO.out)
  have HER := Lib.hid (onErr HV.out HO.out)
  have hb1 : Below w.heap.size w x.w := by (repeat (first | with_reducible exact Below.refl _ _ | with_reducible refine bl_alloc ?_ _ | with_reducible refine bl_drew ?_ | with_reducible refine bl_drewN ?_ _ | with_reducible refine bl_bx ?_ _ | with_reducible exact BX.below _ | with_reducible refine bl_set ?_ (by first | (exact Nat.le_refl _) | (simp; done) | (simp; omega)) _ | assumption))
  have hb2 : Below w.heap.size w w1 := hb1.trans (HB1.out.mono hb1.size)
  have hc0 : CB (w.alloc (.cells #[.int .i64 B, .int .i64 At, .slice A n c] 24)) w.heap.size 24 #[.int .i64 B, .int .i64 At, .slice A n c] := CB.new _ _ _
  have hc1 := (hc0.bx x).below HB1.out
  have HB2 := Lib.hid hb2
  obtain ⟨g, hg⟩ : ∃ g, w.heap.size = g := ⟨_, rfl⟩
  obtain ⟨T, hTT⟩ : ∃ T, t 0 = T := ⟨_, rfl⟩
  rw [hTT] at HSZ HER
  rw [hg] at hc1
  rw [hg, hTT]
  have b0 := hc1.cell 0
  have bl := hc1.lt
  have HC1 := Lib.hid hc1
  have hgw : g < w1.heap.size := bl
  clear hTT hb1 hb2 hc0 hc1 HV HO HLY HB1 HT HR HW
  obtain ⟨ho1, ho2⟩ := ho
  obtain ⟨hB1, hB2⟩ := hB
  have HNIL := Lib.hid (fun (W : World) => bmOpen_nil W off B)
  unfold zmv at HNIL
  by_cases hoktrue : openB off B = true
  · have HOK := Lib.hid hoktrue
    clear hoktrue
    have HOPN : Hid (∀ W, Below w1.heap.size w1 W → Calls Tryd.prog 13 #[.iface 28 (.pointer (some ⟨T, 0, none⟩)), .int .u64 off, .int .i64 B] W fun e w' => e = .returned (.tuple #[.agg #[.iface 28 (.pointer (some ⟨T, 0, none⟩)), .int .u64 off, .int .i64 B], .int .i64 0]) ∧ Below W.heap.size W w') := by
      intro W hW
      first
        | (have := bmOpen_ok W T off B 0 ho1 (fun W' hW' => HSZ.out W' (hW.trans (hW'.mono hW.size))) (fun W' hW' => HER.out W' (hW.trans (hW'.mono hW.size))) HOK.out
           rw [if_pos rfl] at this
           exact this)
        | exact bmOpen_no W T off B ⟨ho1, ho2⟩ ⟨hB1, hB2⟩ (fun W' hW' => HSZ.out W' (hW.trans (hW'.mono hW.size))) HOK.out
    have HLEN := Lib.hid (fun (W : World) => bmLen W (.iface 28 (.pointer (some ⟨T, 0, none⟩))) off B)
    go_upto_region 5 with (go_at_call 13; refine (HOPN.out _ (by (repeat (first | with_reducible exact Below.refl _ _ | with_reducible refine bl_alloc ?_ _ | with_reducible refine bl_drew ?_ | with_reducible refine bl_drewN ?_ _ | with_reducible refine bl_bx ?_ _ | with_reducible exact BX.below _ | with_reducible refine bl_set ?_ (by first | (exact Nat.le_refl _) | (simp; done) | (simp; omega)) _ | assumption)))).mono ?_; rintro e w' ⟨rfl, hb⟩; obtain ⟨y, rfl⟩ := bx_of hb; clear hb)
    have hbc : CB (y.w.alloc (.cells #[.iface 28 (.pointer (some ⟨T, 0, none⟩)), .int .u64 off, .int .i64 B] 36)) y.w.heap.size 36 #[.iface 28 (.pointer (some ⟨T, 0, none⟩)), .int .u64 off, .int .i64 B] := CB.new _ _ _
    have hgc : CB (y.w.alloc (.cells #[.iface 28 (.pointer (some ⟨T, 0, none⟩)), .int .u64 off, .int .i64 B] 36)) g 24 #[.int .i64 B, .int .i64 At, .slice A n c] := (HC1.out.bx y).alloc _
    have hb5 : Below w1.heap.size w1 (y.w.alloc (.cells #[.iface 28 (.pointer (some ⟨T, 0, none⟩)), .int .u64 off, .int .i64 B] 36)) := by (repeat (first | with_reducible exact Below.refl _ _ | with_reducible refine bl_alloc ?_ _ | with_reducible refine bl_drew ?_ | with_reducible refine bl_drewN ?_ _ | with_reducible refine bl_bx ?_ _ | with_reducible exact BX.below _ | with_reducible refine bl_set ?_ (by first | (exact Nat.le_refl _) | (simp; done) | (simp; omega)) _ | assumption))
    obtain ⟨gb, hgb⟩ : ∃ gb, y.w.heap.size = gb := ⟨_, rfl⟩
    obtain ⟨W5, hW5⟩ : ∃ W5, y.w.alloc (.cells #[.iface 28 (.pointer (some ⟨T, 0, none⟩)), .int .u64 off, .int .i64 B] 36) = W5 := ⟨_, rfl⟩
    rw [hgb, hW5] at hbc
    rw [hW5] at hgc hb5
    rw [hgb, hW5]
    have HBC := Lib.hid hbc
    have HGC := Lib.hid hgc
    have HB5 := Lib.hid hb5
    clear hgb hW5 b0 bl hgw hbc hgc hb5 HC1
    have b0 := HGC.out.cell 0
    have bl := HGC.out.lt
    go_cut [9] from 12 (fun s wx => s = .bool (openB off B) ∧ wx = W5)
    case first =>
      by_cases c1 : B ≥ 1
      · by_cases c2 : B ≤ 512
        · by_cases c3 : off % 8 = 0
          · have c3b : (off % 8 == 0) = true := by simpa using c3
            obtain ⟨m, hm⟩ : ∃ m : Int, (B + 63) / 64 = m := ⟨_, rfl⟩
            have hm1 : 1 ≤ m ∧ m ≤ 8 := by omega
            obtain ⟨q, hq⟩ : ∃ q : Int, off / 8 = q := ⟨_, rfl⟩
            have HV : Hid (openB off B = decide (q + m ≤ 96)) := by
              show _ = _
              unfold openB
              rw [decide_eq_true c1, decide_eq_true c2, decide_eq_true c3, hm, Bool.true_and, Bool.true_and, Bool.true_and, decide_eq_decide]
              omega
            have e1 : IntKind.u64.wrap (B + 63) = B + 63 := IntWalk.u64_in _ (by omega)
            by_cases c4 : off < 768
            · have e2 : IntKind.u64.wrap (q + m) = q + m := IntWalk.u64_in _ (by omega)
              go_wp2
              go_meet
              case rel => exact ⟨by rw [HV.out], rfl⟩
            · have c5 : decide (q + m ≤ 96) = false := decide_eq_false (by omega)
              rw [c5] at HV
              go_wp2
              go_meet
              case rel => exact ⟨by rw [HV.out], rfl⟩
          · have c3b : (off % 8 == 0) = false := by simpa using c3
            have HV : Hid (openB off B = false) := by show _ = _; unfold openB; rw [decide_eq_false c3]; simp
            go_wp2
            go_meet
            case rel => exact ⟨by rw [HV.out], rfl⟩
        · have HV : Hid (openB off B = false) := by show _ = _; unfold openB; rw [decide_eq_false c2]; simp
          go_wp2
          go_meet
          case rel => exact ⟨by rw [HV.out], rfl⟩
      · have HV : Hid (openB off B = false) := by show _ = _; unfold openB; rw [decide_eq_false (p := 1 ≤ B) (by omega)]; simp
        go_wp2
        go_meet
        case rel => exact ⟨by rw [HV.out], rfl⟩
    case rest =>
      obtain ⟨rfl, rfl⟩ := hcut
      have k0 := HBC.out.cell 0
      have k1 := HBC.out.cell 1
      have k2 := HBC.out.cell 2
      have kl := HBC.out.lt
      rw [HOK.out]
      go_upto_region 11 with (first
        | (go_at_call 13; refine (HNIL.out _).mono ?_; rintro e w' ⟨rfl, hb⟩; obtain ⟨z, rfl⟩ := bx_of hb; clear hb)
        | (go_at_call 17; refine (HER.out _ (HB5.out.trans (Below.mono (by (repeat (first | with_reducible exact Below.refl _ _ | with_reducible refine bl_alloc ?_ _ | with_reducible refine bl_drew ?_ | with_reducible refine bl_drewN ?_ _ | with_reducible refine bl_bx ?_ _ | with_reducible exact BX.below _ | with_reducible refine bl_set ?_ (by first | (exact Nat.le_refl _) | (simp; done) | (simp; omega)) _ | assumption))) HB5.out.size))).mono ?_; rintro e w' ⟨rfl, rfl⟩))
      have hbz : Below wc.heap.size wc (z.w.alloc (.cells #[.nilIface, .int .u64 0, .int .i64 0] 36)) := by (repeat (first | with_reducible exact Below.refl _ _ | with_reducible refine bl_alloc ?_ _ | with_reducible refine bl_drew ?_ | with_reducible refine bl_drewN ?_ _ | with_reducible refine bl_bx ?_ _ | with_reducible exact BX.below _ | with_reducible refine bl_set ?_ (by first | (exact Nat.le_refl _) | (simp; done) | (simp; omega)) _ | assumption))
      obtain ⟨Z, hZ⟩ : ∃ Z, z.w.alloc (.cells #[.nilIface, .int .u64 0, .int .i64 0] 36) = Z := ⟨_, rfl⟩
      rw [hZ] at hbz
      rw [hZ]
      clear hZ b0 bl k0 k1 k2 kl
      have hz1 := HBC.out.below hbz
      have hz2 := HGC.out.below hbz
      have HBZ := Lib.hid hbz
      have k0 := hz1.cell 0
      have k1 := hz1.cell 1
      have k2 := hz1.cell 2
      have kl := hz1.lt
      have b0 := hz2.cell 0
      have bl := hz2.lt
      clear hz1 hz2 hbz
      refine wp_region_bx (by kernel_rfl) (by kernel_rfl) ?_
      repeat (go_big_quiet_step ((go_at_call 18; exact bx_call (HLEN.out _))))
      refine wpQuiet_nil ?_
      rintro _ ⟨v, rfl⟩
      go_wp2
      go_ret
      refine ⟨ret_bool (by simp), HB2.out.trans (Below.mono (HB5.out.trans (Below.mono (HBZ.out.trans (v.below.mono HBZ.out.size)) HB5.out.size)) HB2.out.size)⟩
  by_cases hokfalse : openB off B = false
  · have HOK := Lib.hid hokfalse
    clear hokfalse
    have HOPN : Hid (∀ W, Below w1.heap.size w1 W → Calls Tryd.prog 13 #[.iface 28 (.pointer (some ⟨T, 0, none⟩)), .int .u64 off, .int .i64 B] W fun e w' => e = .returned (.tuple #[.agg #[.nilIface, .int .u64 0, .int .i64 0], .int .i64 1]) ∧ Below W.heap.size W w') := by
      intro W hW
      first
        | (have := bmOpen_ok W T off B 0 ho1 (fun W' hW' => HSZ.out W' (hW.trans (hW'.mono hW.size))) (fun W' hW' => HER.out W' (hW.trans (hW'.mono hW.size))) HOK.out
           rw [if_pos rfl] at this
           exact this)
        | exact bmOpen_no W T off B ⟨ho1, ho2⟩ ⟨hB1, hB2⟩ (fun W' hW' => HSZ.out W' (hW.trans (hW'.mono hW.size))) HOK.out
    have HLEN := Lib.hid (fun (W : World) => bmLen W .nilIface 0 0)
    go_upto_region 5 with (go_at_call 13; refine (HOPN.out _ (by (repeat (first | with_reducible exact Below.refl _ _ | with_reducible refine bl_alloc ?_ _ | with_reducible refine bl_drew ?_ | with_reducible refine bl_drewN ?_ _ | with_reducible refine bl_bx ?_ _ | with_reducible exact BX.below _ | with_reducible refine bl_set ?_ (by first | (exact Nat.le_refl _) | (simp; done) | (simp; omega)) _ | assumption)))).mono ?_; rintro e w' ⟨rfl, hb⟩; obtain ⟨y, rfl⟩ := bx_of hb; clear hb)
    have hbc : CB (y.w.alloc (.cells #[.nilIface, .int .u64 0, .int .i64 0] 36)) y.w.heap.size 36 #[.nilIface, .int .u64 0, .int .i64 0] := CB.new _ _ _
    have hgc : CB (y.w.alloc (.cells #[.nilIface, .int .u64 0, .int .i64 0] 36)) g 24 #[.int .i64 B, .int .i64 At, .slice A n c] := (HC1.out.bx y).alloc _
    have hb5 : Below w1.heap.size w1 (y.w.alloc (.cells #[.nilIface, .int .u64 0, .int .i64 0] 36)) := by (repeat (first | with_reducible exact Below.refl _ _ | with_reducible refine bl_alloc ?_ _ | with_reducible refine bl_drew ?_ | with_reducible refine bl_drewN ?_ _ | with_reducible refine bl_bx ?_ _ | with_reducible exact BX.below _ | with_reducible refine bl_set ?_ (by first | (exact Nat.le_refl _) | (simp; done) | (simp; omega)) _ | assumption))
    obtain ⟨gb, hgb⟩ : ∃ gb, y.w.heap.size = gb := ⟨_, rfl⟩
    obtain ⟨W5, hW5⟩ : ∃ W5, y.w.alloc (.cells #[.nilIface, .int .u64 0, .int .i64 0] 36) = W5 := ⟨_, rfl⟩
    rw [hgb, hW5] at hbc
    rw [hW5] at hgc hb5
    rw [hgb, hW5]
    have HBC := Lib.hid hbc
    have HGC := Lib.hid hgc
    have HB5 := Lib.hid hb5
    clear hgb hW5 b0 bl hgw hbc hgc hb5 HC1
    have b0 := HGC.out.cell 0
    have bl := HGC.out.lt
    go_cut [9] from 12 (fun s wx => s = .bool (openB off B) ∧ wx = W5)
    case first =>
      by_cases c1 : B ≥ 1
      · by_cases c2 : B ≤ 512
        · by_cases c3 : off % 8 = 0
          · have c3b : (off % 8 == 0) = true := by simpa using c3
            obtain ⟨m, hm⟩ : ∃ m : Int, (B + 63) / 64 = m := ⟨_, rfl⟩
            have hm1 : 1 ≤ m ∧ m ≤ 8 := by omega
            obtain ⟨q, hq⟩ : ∃ q : Int, off / 8 = q := ⟨_, rfl⟩
            have HV : Hid (openB off B = decide (q + m ≤ 96)) := by
              show _ = _
              unfold openB
              rw [decide_eq_true c1, decide_eq_true c2, decide_eq_true c3, hm, Bool.true_and, Bool.true_and, Bool.true_and, decide_eq_decide]
              omega
            have e1 : IntKind.u64.wrap (B + 63) = B + 63 := IntWalk.u64_in _ (by omega)
            by_cases c4 : off < 768
            · have e2 : IntKind.u64.wrap (q + m) = q + m := IntWalk.u64_in _ (by omega)
              go_wp2
              go_meet
              case rel => exact ⟨by rw [HV.out], rfl⟩
            · have c5 : decide (q + m ≤ 96) = false := decide_eq_false (by omega)
              rw [c5] at HV
              go_wp2
              go_meet
              case rel => exact ⟨by rw [HV.out], rfl⟩
          · have c3b : (off % 8 == 0) = false := by simpa using c3
            have HV : Hid (openB off B = false) := by show _ = _; unfold openB; rw [decide_eq_false c3]; simp
            go_wp2
            go_meet
            case rel => exact ⟨by rw [HV.out], rfl⟩
        · have HV : Hid (openB off B = false) := by show _ = _; unfold openB; rw [decide_eq_false c2]; simp
          go_wp2
          go_meet
          case rel => exact ⟨by rw [HV.out], rfl⟩
      · have HV : Hid (openB off B = false) := by show _ = _; unfold openB; rw [decide_eq_false (p := 1 ≤ B) (by omega)]; simp
        go_wp2
        go_meet
        case rel => exact ⟨by rw [HV.out], rfl⟩
    case rest =>
      obtain ⟨rfl, rfl⟩ := hcut
      have k0 := HBC.out.cell 0
      have k1 := HBC.out.cell 1
      have k2 := HBC.out.cell 2
      have kl := HBC.out.lt
      rw [HOK.out]
      go_wp2_with (first
        | (go_at_call 13; refine (HNIL.out _).mono ?_; rintro e w' ⟨rfl, hb⟩; obtain ⟨z, rfl⟩ := bx_of hb; clear hb)
        | (go_at_call 17; refine (HER.out _ (HB5.out.trans (Below.mono (by (repeat (first | with_reducible exact Below.refl _ _ | with_reducible refine bl_alloc ?_ _ | with_reducible refine bl_drew ?_ | with_reducible refine bl_drewN ?_ _ | with_reducible refine bl_bx ?_ _ | with_reducible exact BX.below _ | with_reducible refine bl_set ?_ (by first | (exact Nat.le_refl _) | (simp; done) | (simp; omega)) _ | assumption))) HB5.out.size))).mono ?_; rintro e w' ⟨rfl, rfl⟩)
        | (go_at_call 18; refine (HLEN.out _).mono ?_; rintro e w' ⟨rfl, hb⟩; obtain ⟨v, rfl⟩ := bx_of hb; clear hb))
      go_ret
      exact ⟨rfl, HB2.out.trans (Below.mono (HB5.out.trans (Below.mono (by (repeat (first | with_reducible exact Below.refl _ _ | with_reducible refine bl_alloc ?_ _ | with_reducible refine bl_drew ?_ | with_reducible refine bl_drewN ?_ _ | with_reducible refine bl_bx ?_ _ | with_reducible exact BX.below _ | with_reducible refine bl_set ?_ (by first | (exact Nat.le_refl _) | (simp; done) | (simp; omega)) _ | assumption))) HB5.out.size)) HB2.out.size)⟩
  exact absurd (Bool.eq_false_iff.2 hoktrue) hokfalse
end Go.Proofs.YtbhkdngbgokilaaDoor
