/- The law BitmapReads returns true. -/
import Derived.Test.YtbhkdngbgokilaaDoorBmK
namespace Go.Proofs.YtbhkdngbgokilaaDoor
open Go.RowKit
set_option linter.unusedVariables false

theorem bitW_take (ws : List Int) (m i : Nat) (h : i < 64 * m) : bitW (ws.take m) i = bitW ws i := by
  apply bitW_congr
  rw [List.getElem?_take, if_pos (by omega)]
theorem getB_take (ws : List Int) (m n : Nat) (hn : n ≤ 64 * m) (i : Int) : getB (ws.take m) n i = getB ws n i := by
  unfold getB
  by_cases h1 : 0 ≤ i ∧ i < (n : Int)
  · rw [bitW_take ws m i.toNat (by omega)]
  · by_cases h0 : 0 ≤ i
    · rw [decide_eq_false (p := i < (n : Int)) (fun h => h1 ⟨h0, h⟩)]; simp
    · rw [decide_eq_false h0]; simp
theorem onesTo_take (ws : List Int) (m : Nat) : ∀ k, k ≤ 64 * m → onesTo (ws.take m) k = onesTo ws k := by
  intro k
  induction k with
  | zero => intro _; rfl
  | succ k ih =>
    intro h
    show onesTo (ws.take m) k + _ = onesTo ws k + _
    rw [ih (by omega), bitW_take ws m k (by omega)]
theorem nextP_congr (p q : Nat → Bool) : ∀ k i, (∀ j, i ≤ j → j < i + k → p j = q j) → nextP p k i = nextP q k i := by
  intro k
  induction k with
  | zero => intro i _; rfl
  | succ k ih =>
    intro i h
    unfold nextP
    rw [h i (by omega) (by omega), ih (i + 1) (fun j h1 h2 => h j (by omega) (by omega))]
theorem nextB_take (ws : List Int) (m n : Nat) (hn : n ≤ 64 * m) (i : Int) (set : Bool) : nextB (ws.take m) n i set = nextB ws n i set := by
  unfold nextB
  rw [nextP_congr _ (fun j => bitW ws j == set)]
  intro j h1 h2
  rw [bitW_take ws m j (by omega)]
theorem nextB_nat (ws : List Int) (n : Nat) (i : Int) (set : Bool) : nextB ws n (i.toNat : Int) set = nextB ws n i set := by
  unfold nextB
  rw [Int.toNat_natCast]
set_option maxRecDepth 100000 in
set_option maxHeartbeats 1000000 in
theorem bmNext_past (w : World) (T : Nat) (off : Int) (n : Nat) (i : Int) (hi : i ≥ (n : Int)) (set : Bool) :
    Calls Tryd.prog 23 #[bmv T off n, .int .i64 i, .bool set] w fun e w' => e = .returned (.int .i64 (-1)) ∧ Below w.heap.size w w' := by
  have h0 : ¬ i < 0 := by omega
  unfold bmv
  go_enter Tryd.func23, Tryd.ntmps23
  go_wp2
  go_ret
  exact ⟨rfl, (by repeat (first | with_reducible exact Below.refl _ _ | with_reducible refine bl_alloc ?_ _ | with_reducible refine bl_drew ?_ | with_reducible refine bl_drewN ?_ _ | with_reducible refine bl_bx ?_ _ | with_reducible exact BX.below _ | with_reducible refine bl_set ?_ (by first | (exact Nat.le_refl _) | (simp; done) | (simp; omega)) _ | assumption))⟩
theorem bmNext (w : World) (T : Nat) (xs : List Int) (a n : Nat) (hT : Tab w) (hL : LdV T xs w) (hf : FitsB xs) (ha : a + (n + 63) / 64 ≤ xs.length) (hx : xs.length ≤ 10000) (hn1 : 1 ≤ n) (hn : n ≤ 512) (i : Int) (set : Bool) :
    Calls Tryd.prog 23 #[bmv T (8 * (a : Int)) n, .int .i64 i, .bool set] w fun e w' => e = .returned (.int .i64 (nextB (xs.drop a) n i set)) ∧ Below w.heap.size w w' := by
  by_cases hi : i ≥ (n : Int)
  · rw [nextB_none (fun m h1 h2 => by omega)]
    exact bmNext_past w T _ n i hi set
  · have := bmNext_from w T xs a n hT hL hf ha hx hn i.toNat (by omega) i (by omega) set
    rwa [nextB_nat] at this

set_option maxRecDepth 100000 in
set_option maxHeartbeats 4000000 in
theorem law_BitmapReads (w : World) (hT : Tab w) (B At : Int) (hB : -9223372036854775808 ≤ B ∧ B < 9223372036854775808) (hAt : -9223372036854775808 ≤ At ∧ At < 9223372036854775808) (A : Option Addr) (n0 c : Nat) (ws : List Int) (hw : ws.length = n0) (hws : FitsB ws) (hnc : n0 ≤ 9223372036854775807) (hR : Rd .u64 w A ws) (i : Int) (hi : -9223372036854775808 ≤ i ∧ i < 9223372036854775808) (set : Bool) :
    Calls Tryd.prog 5 #[inv20 B At A n0 c, .int .i64 i, .bool set] w fun e w' => e = .returned (.bool true) ∧ Below w.heap.size w w' := by
  have HT := Lib.hid hT
  have HR := Lib.hid hR
  have HW := Lib.hid hw
  have HFX := Lib.hid (layW_fits At ws hws (min n0 9))
  have HI := Lib.hid hi
  clear hT hR hw hws hi
  have HLY := Lib.hid (fun (W : World) (hW : Below w.heap.size w W) => lay20 W B At hAt A n0 c ws HW.out hnc (HR.out.below hW))
  have HFI := Lib.hid (fun (W : World) => fits20 W B At A n0 c hB hAt)
  obtain ⟨xs, hxs⟩ : ∃ xs, layW At ws (min n0 9) = xs := ⟨_, rfl⟩
  rw [hxs] at HFX HLY
  clear hxs
  unfold inv20 at HLY HFI ⊢
  go_enter Tryd.func5, Tryd.ntmps5
  go_upto_region 4 with (first
    | (go_at_call 10; refine (awake20 _ (HT.out.below (by (repeat (first | with_reducible exact Below.refl _ _ | with_reducible refine bl_alloc ?_ _ | with_reducible refine bl_drew ?_ | with_reducible refine bl_drewN ?_ _ | with_reducible refine bl_bx ?_ _ | with_reducible exact BX.below _ | with_reducible refine bl_set ?_ (by first | (exact Nat.le_refl _) | (simp; done) | (simp; omega)) _ | assumption))))).mono ?_; rintro e w' ⟨rfl, hb⟩; obtain ⟨x, rfl⟩ := bx_of hb; clear hb)
    | (go_at_call 11; refine (HLY.out _ (by (repeat (first | with_reducible exact Below.refl _ _ | with_reducible refine bl_alloc ?_ _ | with_reducible refine bl_drew ?_ | with_reducible refine bl_drewN ?_ _ | with_reducible refine bl_bx ?_ _ | with_reducible exact BX.below _ | with_reducible refine bl_set ?_ (by first | (exact Nat.le_refl _) | (simp; done) | (simp; omega)) _ | assumption)))).mono ?_; rintro e w1 ⟨d, t, S, rfl, hV, hO, hB1⟩; have HV := Lib.hid hV; have HO := Lib.hid hO; have HB1 := Lib.hid hB1; clear hV hO hB1))
  have HSZ := Lib.hid (onSize HV.out HO.out)
  have HER := Lib.hid (onErr HV.out HO.out)
  have HLD := Lib.hid (ldV HV.out HO.out 0 (by omega))
  have hb1 : Below w.heap.size w x.w := by (repeat (first | with_reducible exact Below.refl _ _ | with_reducible refine bl_alloc ?_ _ | with_reducible refine bl_drew ?_ | with_reducible refine bl_drewN ?_ _ | with_reducible refine bl_bx ?_ _ | with_reducible exact BX.below _ | with_reducible refine bl_set ?_ (by first | (exact Nat.le_refl _) | (simp; done) | (simp; omega)) _ | assumption))
  have hb2 : Below w.heap.size w w1 := hb1.trans (HB1.out.mono hb1.size)
  have hc0 : CB (w.alloc (.cells #[.int .i64 B, .int .i64 At, .slice A n0 c] 24)) w.heap.size 24 #[.int .i64 B, .int .i64 At, .slice A n0 c] := CB.new _ _ _
  have hc1 := (hc0.bx x).below HB1.out
  have HB2 := Lib.hid hb2
  have HT1 := Lib.hid (HT.out.below hb2)
  obtain ⟨g, hg⟩ : ∃ g, w.heap.size = g := ⟨_, rfl⟩
  obtain ⟨T, hTT⟩ : ∃ T, t 0 = T := ⟨_, rfl⟩
  rw [hTT] at HSZ HER HLD
  rw [hg] at hc1
  rw [hg, hTT]
  have b0 := hc1.cell 0
  have b1 := hc1.cell 1
  have b2 := hc1.cell 2
  have bl := hc1.lt
  have HC1 := Lib.hid hc1
  clear hTT hb1 hb2 hc0 hc1 HV HO HLY HB1 HT HR HW
  cases hfit : fitsB B At with
  | false =>
    rw [hfit] at HFI
    clear hfit
    go_wp2_with (go_at_call 12; refine (HFI.out _).mono ?_; rintro e w' ⟨rfl, hb⟩; obtain ⟨y, rfl⟩ := bx_of hb; clear hb)
    go_ret
    exact ⟨rfl, HB2.out.trans (y.below.mono HB2.out.size)⟩
  | true =>
    rw [hfit] at HFI
    unfold fitsB at hfit
    simp only [Bool.and_eq_true, decide_eq_true_eq] at hfit
    obtain ⟨f1, f2, f3, f4, f5⟩ := hfit
    obtain ⟨n, rfl⟩ := Int.eq_ofNat_of_zero_le (show 0 ≤ B by omega)
    obtain ⟨a, rfl⟩ := Int.eq_ofNat_of_zero_le f3
    have hn1 : 1 ≤ n := by omega
    have hn2 : n ≤ 512 := by omega
    obtain ⟨m, hm⟩ : ∃ m, (n + 63) / 64 = m := ⟨_, rfl⟩
    have ham : a + m ≤ 96 := by omega
    have hnm : n ≤ 64 * m := by omega
    have hok : openB (8 * (a : Int)) n = true := by
      unfold openB
      rw [decide_eq_true (by omega), decide_eq_true (by omega), decide_eq_true (by omega), decide_eq_true (by omega)]; rfl
    have e1 : IntKind.u64.wrap (a : Int) = (a : Int) := IntWalk.u64_in _ (by omega)
    have e2 : IntKind.u64.wrap (8 * (a : Int)) = 8 * (a : Int) := IntWalk.u64_in _ (by omega)
    have HOPN : Hid (∀ W, Below w1.heap.size w1 W → Calls Tryd.prog 13 #[.iface 28 (.pointer (some ⟨T, 0, none⟩)), .int .u64 (8 * (a : Int)), .int .i64 n] W fun e w' => e = .returned (.tuple #[.agg #[.iface 28 (.pointer (some ⟨T, 0, none⟩)), .int .u64 (8 * (a : Int)), .int .i64 n], .int .i64 0]) ∧ Below W.heap.size W w') := by
      intro W hW
      have := bmOpen_ok W T (8 * (a : Int)) n 0 (by omega) (fun W' hW' => HSZ.out W' (hW.trans (hW'.mono hW.size))) (fun W' hW' => HER.out W' (hW.trans (hW'.mono hW.size))) hok
      rwa [if_pos rfl] at this
    have hxl := HFX.out.2
    have HRD : Hid (∀ W, Below w1.heap.size w1 W → Calls Tryd.prog 14 #[.pointer (some ⟨T, 0, none⟩), .agg #[.int .i64 n, .int .i64 a, .slice A n0 c]] W (ReadPost W ((xs.drop a).take m) m)) := fun W hW => read20 W T xs a n m (HLD.out.below hW) hxl hm ham hn2 A n0 c
    clear f1 f2 f4 f5 hok
    go_upto_region 7 with (first
      | (go_at_call 12; refine (HFI.out _).mono ?_; rintro e w' ⟨rfl, hb⟩; obtain ⟨y, rfl⟩ := bx_of hb; clear hb)
      | (go_at_call 13; refine (HOPN.out _ (by (repeat (first | with_reducible exact Below.refl _ _ | with_reducible refine bl_alloc ?_ _ | with_reducible refine bl_drew ?_ | with_reducible refine bl_drewN ?_ _ | with_reducible refine bl_bx ?_ _ | with_reducible exact BX.below _ | with_reducible refine bl_set ?_ (by first | (exact Nat.le_refl _) | (simp; done) | (simp; omega)) _ | assumption)))).mono ?_; rintro e w' ⟨rfl, hb⟩; obtain ⟨z, rfl⟩ := bx_of hb; clear hb))
    have hbc : CB (z.w.alloc (.cells #[.iface 28 (.pointer (some ⟨T, 0, none⟩)), .int .u64 (8 * (a : Int)), .int .i64 n] 36)) z.w.heap.size 36 #[.iface 28 (.pointer (some ⟨T, 0, none⟩)), .int .u64 (8 * (a : Int)), .int .i64 n] := CB.new _ _ _
    have hgc : CB (z.w.alloc (.cells #[.iface 28 (.pointer (some ⟨T, 0, none⟩)), .int .u64 (8 * (a : Int)), .int .i64 n] 36)) g 24 #[.int .i64 n, .int .i64 a, .slice A n0 c] := ((HC1.out.bx y).bx z).alloc _
    have hb5 : Below w1.heap.size w1 (z.w.alloc (.cells #[.iface 28 (.pointer (some ⟨T, 0, none⟩)), .int .u64 (8 * (a : Int)), .int .i64 n] 36)) := by (repeat (first | with_reducible exact Below.refl _ _ | with_reducible refine bl_alloc ?_ _ | with_reducible refine bl_drew ?_ | with_reducible refine bl_drewN ?_ _ | with_reducible refine bl_bx ?_ _ | with_reducible exact BX.below _ | with_reducible refine bl_set ?_ (by first | (exact Nat.le_refl _) | (simp; done) | (simp; omega)) _ | assumption))
    obtain ⟨gb, hgb⟩ : ∃ gb, z.w.heap.size = gb := ⟨_, rfl⟩
    obtain ⟨W5, hW5⟩ : ∃ W5, z.w.alloc (.cells #[.iface 28 (.pointer (some ⟨T, 0, none⟩)), .int .u64 (8 * (a : Int)), .int .i64 n] 36) = W5 := ⟨_, rfl⟩
    rw [hgb, hW5] at hbc
    rw [hW5] at hgc hb5
    rw [hgb, hW5]
    clear hgb hW5 b0 b1 b2 bl
    have b0 := hgc.cell 0
    have b1 := hgc.cell 1
    have b2 := hgc.cell 2
    have bl := hgc.lt
    have HRW := HRD.out W5 hb5
    go_upto_region 8 with (go_at_call 14; refine HRW.mono ?_; rintro e w2 ⟨A2, c2, rfl, hS2, hO2, hb3⟩; have HS2 := Lib.hid hS2; have HB3 := Lib.hid hb3; clear hS2 hO2 hb3)
    have hb6 := hb5.trans (HB3.out.mono hb5.size)
    have hbc2 := hbc.below HB3.out
    have hgc2 := hgc.below HB3.out
    have HB6 := Lib.hid hb6
    clear b0 b1 b2 bl hbc hgc hb5 HRW
    have b0 := hgc2.cell 0
    have bl := hgc2.lt
    have k0 := hbc2.cell 0
    have k1 := hbc2.cell 1
    have k2 := hbc2.cell 2
    have kl := hbc2.lt
    have hfw : FitsB ((xs.drop a).take m) := fun v hv => HFX.out.1 v (List.mem_of_mem_drop (List.mem_of_mem_take hv))
    have hlw : ((xs.drop a).take m).length = m := by rw [List.length_take, List.length_drop, hxl]; omega
    have HG1 := Lib.hid (fun (x : BX w2) => bmGet x.w T xs a n (HLD.out.below (hb6.trans (x.below.mono hb6.size))) HFX.out.1 (by rw [hm, hxl]; exact ham) (by omega) hn2 i)
    have HG2 := Lib.hid (fun (x : BX w2) => refGet20 x.w A2 m c2 _ hlw ((HS2.out.rdU).below x.below) hfw n hnm hn2 i)
    have HO1 := Lib.hid (fun (x : BX w2) => bmOnes x.w T xs a n (HLD.out.below (hb6.trans (x.below.mono hb6.size))) HFX.out.1 (by rw [hm, hxl]; exact ham) (by omega) hn2)
    have HO2 := Lib.hid (fun (x : BX w2) => refOnes20 x.w A2 m c2 _ hlw ((HS2.out.rdU).below x.below) hfw n hnm hn2)
    have HN1 := Lib.hid (fun (x : BX w2) => bmNext x.w T xs a n (HT1.out.below (hb6.trans (x.below.mono hb6.size))) (HLD.out.below (hb6.trans (x.below.mono hb6.size))) HFX.out.1 (by rw [hm, hxl]; exact ham) (by omega) hn1 hn2 i set)
    have HN2 := Lib.hid (fun (x : BX w2) => refNext20 x.w A2 m c2 _ hlw ((HS2.out.rdU).below x.below) hfw n hnm hn2 i HI.out set)
    rw [getB_take _ _ _ hnm] at HG2
    rw [onesTo_take _ _ _ hnm] at HO2
    rw [nextB_take _ _ _ hnm] at HN2
    obtain ⟨gv, hgv⟩ : ∃ v, getB (xs.drop a) n i = v := ⟨_, rfl⟩
    obtain ⟨ov, hov⟩ : ∃ v, onesTo (xs.drop a) n = v := ⟨_, rfl⟩
    obtain ⟨nv, hnv⟩ : ∃ v, nextB (xs.drop a) n i set = v := ⟨_, rfl⟩
    rw [hgv] at HG1 HG2
    rw [hov] at HO1 HO2
    rw [hnv] at HN1 HN2
    unfold bmv at HG1 HO1 HN1
    have s1 : (gv == gv) = true := by simp
    have s2 : (nv == nv) = true := by simp
    clear hgv hov hnv hgc2 hbc2 hb6 hfw hlw
    refine wp_region_bx (by kernel_rfl) (by kernel_rfl) ?_
    repeat (go_big_quiet_step (first | (go_at_call 19; exact bx_call (HG1.out _)) | (go_at_call 20; exact bx_calle (HG2.out _)) | (go_at_call 21; exact bx_call (HO1.out _)) | (go_at_call 22; exact bx_calle (HO2.out _)) | (go_at_call 23; exact bx_call (HN1.out _)) | (go_at_call 24; exact bx_calle (HN2.out _))))
    refine wpQuiet_nil ?_
    rintro _ ⟨v, rfl⟩
    go_wp2
    go_ret
    refine ⟨ret_bool (by simp), HB2.out.trans (Below.mono (HB6.out.trans (v.below.mono HB6.out.size)) HB2.out.size)⟩
end Go.Proofs.YtbhkdngbgokilaaDoor
