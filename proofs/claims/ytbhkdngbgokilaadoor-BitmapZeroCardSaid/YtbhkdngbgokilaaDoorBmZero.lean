/- The law BitmapZero returns true. -/
import Derived.Test.YtbhkdngbgokilaaDoorBmRf
import Derived.Test.YtbhkdngbgokilaaDoorDevE
import Derived.Test.YtbhkdngbgokilaaDoorDevL
namespace Go.Proofs.YtbhkdngbgokilaaDoor
open Go.RowKit Go.Shelf
set_option linter.unusedVariables false

theorem armV {F : Nat → Prop} {d : Nat} {t : Nat → Nat} {w : World} {S : DevS} (h : DV F d t w S) (n : Int) (hn : -9223372036854775808 ≤ n ∧ n < 9223372036854775808) :
    Calls Tryd.prog 28 #[.pointer (some ⟨d, 0, none⟩), .int .i64 n] w fun e w' => e = .returned (.tuple #[]) ∧ DV F d t w' (S.arm n) ∧ Ch F w w' := by
  obtain ⟨h1, L, rfl, h3, h4⟩ := h
  refine (devArm w d L S h3 n hn).mono ?_
  rintro e w' ⟨rfl, hD2, hC2⟩
  exact ⟨rfl, ⟨fun b hb => h1 b (Nat.le_trans hC2.size hb), L, rfl, hD2, h4⟩, hC2.mono (fun b hb _ => h4 b hb)⟩
set_option maxRecDepth 100000 in
set_option maxHeartbeats 4000000 in
theorem law_BitmapZero (w : World) (hT : Tab w) (i : Int) (hi : -9223372036854775808 ≤ i ∧ i < 9223372036854775808) (set : Bool) :
    Calls Tryd.prog 8 #[.int .i64 i, .bool set] w fun e w' => e = .returned (.bool true) ∧ Below w.heap.size w w' := by
  have HT := Lib.hid hT
  have HRZ := Lib.hid (fun (W : World) => bmRuns W .nilIface 0 0)
  clear hT
  refine calls_marks Tryd.func8 rfl ?_
  simp only [Tryd.ntmps8, List.size_toArray, List.length_cons, List.length_nil, Nat.reduceAdd, Nat.reduceSub, Array.replicate_succ, Array.replicate_zero, List.push_toArray, List.append_toArray, List.nil_append, List.cons_append]
  go_upto_region 4 with (go_at_call 10; refine (awake20 _ (HT.out.below (by (repeat (first | with_reducible exact Below.refl _ _ | with_reducible refine bl_alloc ?_ _ | with_reducible refine bl_drew ?_ | with_reducible refine bl_drewN ?_ _ | with_reducible refine bl_bx ?_ _ | with_reducible exact BX.below _ | with_reducible refine bl_set ?_ (by first | (exact Nat.le_refl _) | (simp; done) | (simp; omega)) _ | assumption))))).mono ?_; rintro e w' ⟨rfl, hb⟩; obtain ⟨x, rfl⟩ := bx_of hb; clear hb)
  have hz : CB (x.w.alloc (.cells #[.nilIface, .int .u64 0, .int .i64 0] 36)) x.w.heap.size 36 #[.nilIface, .int .u64 0, .int .i64 0] := CB.new _ _ _
  have hr : CB (x.w.alloc (.cells #[.nilIface, .int .u64 0, .int .i64 0] 36)) w.heap.size 4 #[.bool false] := ((CB.new _ _ _).bx x).alloc _
  have hb4 : Below w.heap.size w (x.w.alloc (.cells #[.nilIface, .int .u64 0, .int .i64 0] 36)) := by (repeat (first | with_reducible exact Below.refl _ _ | with_reducible refine bl_alloc ?_ _ | with_reducible refine bl_drew ?_ | with_reducible refine bl_drewN ?_ _ | with_reducible refine bl_bx ?_ _ | with_reducible exact BX.below _ | with_reducible refine bl_set ?_ (by first | (exact Nat.le_refl _) | (simp; done) | (simp; omega)) _ | assumption))
  obtain ⟨gz, hgz⟩ : ∃ gz, x.w.heap.size = gz := ⟨_, rfl⟩
  obtain ⟨gr, hgr⟩ : ∃ gr, w.heap.size = gr := ⟨_, rfl⟩
  have hzr : gr < gz := by have h := x.size; simp at h; omega
  obtain ⟨W4, hW4⟩ : ∃ W, x.w.alloc (.cells #[.nilIface, .int .u64 0, .int .i64 0] 36) = W := ⟨_, rfl⟩
  rw [hgz, hW4] at hz
  rw [hgr, hW4] at hr
  rw [hW4] at hb4
  rw [hgz, hgr, hW4]
  have HZ4 := Lib.hid hz
  have HR4 := Lib.hid hr
  have HB4 := Lib.hid hb4
  have HGR := Lib.hid hgr
  have z0 := hz.cell 0
  have z1 := hz.cell 1
  have z2 := hz.cell 2
  have zl := hz.lt
  clear hgz hgr hW4 hz hr hb4
  have HCZ : Hid (Calls Tryd.prog 15 #[.agg #[.nilIface, .int .u64 0, .int .i64 0], .slice (some ⟨W4.heap.size, 0, none⟩) 1 1, .slice none 0 0] (W4.alloc (.cells #[.int .i64 i] 3)) fun e w' => e = .returned (.tuple #[.slice none 0 0, .int .i64 1]) ∧ Below (W4.alloc (.cells #[.int .i64 i] 3)).heap.size (W4.alloc (.cells #[.int .i64 i] 3)) w') := by
    have := bmChangeZ (W4.alloc (.cells #[.int .i64 i] 3)) ⟨W4.heap.size, 0, none⟩ 1 i (rd_one .i64 3 W4 i)
    unfold zmv at this
    exact this
  go_upto_region 5 with (go_at_call 15; refine HCZ.out.mono ?_; rintro e w' ⟨rfl, hb⟩; obtain ⟨y, rfl⟩ := bx_of hb; clear hb)
  have hb5 : Below W4.heap.size W4 y.w := by (repeat (first | with_reducible exact Below.refl _ _ | with_reducible refine bl_alloc ?_ _ | with_reducible refine bl_drew ?_ | with_reducible refine bl_drewN ?_ _ | with_reducible refine bl_bx ?_ _ | with_reducible exact BX.below _ | with_reducible refine bl_set ?_ (by first | (exact Nat.le_refl _) | (simp; done) | (simp; omega)) _ | assumption))
  obtain ⟨W5, hW5⟩ : ∃ W5, y.w = W5 := ⟨_, rfl⟩
  rw [hW5] at hb5
  rw [hW5]
  have hz5 := HZ4.out.below hb5
  have HZ5 := Lib.hid hz5
  have HR5 := Lib.hid (HR4.out.below hb5)
  have HB5 := Lib.hid (HB4.out.trans (hb5.mono HB4.out.size))
  clear z0 z1 z2 zl hW5 hb5 HCZ
  have z0 := hz5.cell 0
  have z1 := hz5.cell 1
  have z2 := hz5.cell 2
  have zl := hz5.lt
  clear hz5
  go_wp2_with (go_at_call 27; refine (HRZ.out _).mono ?_; rintro e w' ⟨rfl, rfl⟩)
  have hq : CB (W5.alloc (.cells #[.nilIface, .int .u64 0, .int .i64 0] 36)) W5.heap.size 36 #[.nilIface, .int .u64 0, .int .i64 0] := CB.new _ _ _
  have hb6 : Below W5.heap.size W5 (W5.alloc (.cells #[.nilIface, .int .u64 0, .int .i64 0] 36)) := by (repeat (first | with_reducible exact Below.refl _ _ | with_reducible refine bl_alloc ?_ _ | with_reducible refine bl_drew ?_ | with_reducible refine bl_drewN ?_ _ | with_reducible refine bl_bx ?_ _ | with_reducible exact BX.below _ | with_reducible refine bl_set ?_ (by first | (exact Nat.le_refl _) | (simp; done) | (simp; omega)) _ | assumption))
  obtain ⟨gq, hgq⟩ : ∃ gq, W5.heap.size = gq := ⟨_, rfl⟩
  obtain ⟨W6, hW6⟩ : ∃ W6, W5.alloc (.cells #[.nilIface, .int .u64 0, .int .i64 0] 36) = W6 := ⟨_, rfl⟩
  rw [hgq, hW6] at hq
  rw [hW6] at hb6
  rw [hgq, hW6]
  have HQ6 := Lib.hid hq
  have HZ6 := Lib.hid (HZ5.out.below hb6)
  have HR6 := Lib.hid (HR5.out.below hb6)
  have HB6 := Lib.hid (HB5.out.trans (hb6.mono HB5.out.size))
  clear hgq hW6 hq hb6 z0 z1 z2 zl
  refine (wpIn_wide (n := 6)).1 (wpIn_rangeFunc_ownF (α := Int × Int) (F := Fence.wide) rfl (by omega) (gf := 47) (lb := #[.pointer (some ⟨gq, 0, none⟩)]) rfl trivial (enters_of Tryd.func47 (by kernel_rfl) rfl)
    (runsZ_stops 5 (Below W6.heap.size) gq W6 HQ6.out) belowK_t (belowK_b (Nat.le_refl _)) (Below.refl _ _) (fun _ => rfl)
    (fun _ W => Below W6.heap.size W6 W) (fun _ _ _ => False) (ownFrom_below (Nat.le_refl _) (Nat.le_refl _)) (fun _ _ _ _ _ h _ _ => h) (Below.refl _ _) (fun x => _)
    (fun l x W K hK => wpIn_skip hK) (fun l pre x W _ hl => absurd hl (Nat.not_lt_zero _)) ?done (fun D c pre W _ h _ _ => False.elim h))
  rintro D xs W7 hD - hb7 hK
  have hz7 := HZ6.out.below hb7
  have HZ7 := Lib.hid hz7
  have HR7 := Lib.hid (HR6.out.below hb7)
  have HB7 := Lib.hid (HB6.out.trans (hb7.mono HB6.out.size))
  have hlt7 : gr < W7.heap.size ∧ gz < W7.heap.size := ⟨HR7.out.lt, HZ7.out.lt⟩
  have hD7 : D < W7.heap.size := (Array.getElem?_eq_some_iff.1 hK).1
  have HK := Lib.hid hK
  have HDW : Hid (w.heap.size ≤ D) := Nat.le_trans HB6.out.size hD
  have HLY : Hid (Calls Tryd.prog 11 #[.agg #[.int .i64 0, .int .i64 0, .slice none 0 0]] W7 (LayPost W7 (layW 0 [] 0))) := lay20 W7 0 0 (by omega) none 0 0 [] rfl (by omega) Rd.nil
  clear hz7 hb7 hK HQ6 HZ6 HR6 HB6 hD
  dsimp only [Exit.inBlock, Exit.then]
  go_upto_region 10 with (first
    | (go_at_call 11; refine HLY.out.mono ?_; rintro e w8 ⟨d, t, S, rfl, hV, hO, hB8⟩; have HV := Lib.hid hV; have HO := Lib.hid hO; have HB8 := Lib.hid hB8; clear hV hO hB8)
    | (go_at_call 10; refine (awake20 _ (HT.out.below (HB7.out.trans (HB8.out.mono HB7.out.size)))).mono ?_; rintro e w' ⟨rfl, hb⟩; obtain ⟨x8, rfl⟩ := bx_of hb; clear hb))
  obtain ⟨T, hTT⟩ : ∃ T, t 0 = T := ⟨_, rfl⟩
  have HSZ := Lib.hid (onSize HV.out HO.out)
  have HER := Lib.hid (onErr HV.out HO.out)
  rw [hTT] at HSZ HER
  rw [hTT]
  have HTT := Lib.hid hTT
  clear hTT
  have HOPN : Hid (∀ W, Below w8.heap.size w8 W → Calls Tryd.prog 13 #[.iface 28 (.pointer (some ⟨T, 0, none⟩)), .int .u64 0, .int .i64 9] W fun e w' => e = .returned (.tuple #[.agg #[.iface 28 (.pointer (some ⟨T, 0, none⟩)), .int .u64 0, .int .i64 9], .int .i64 0]) ∧ Below W.heap.size W w') := by
    intro W hW
    have := bmOpen_ok W T 0 9 0 (by omega) (fun W' hW' => HSZ.out W' (hW.trans (hW'.mono hW.size))) (fun W' hW' => HER.out W' (hW.trans (hW'.mono hW.size))) (by decide)
    rwa [if_pos rfl] at this
  go_upto_region 11 with (go_at_call 13; refine (HOPN.out _ (by (repeat (first | with_reducible exact Below.refl _ _ | with_reducible refine bl_alloc ?_ _ | with_reducible refine bl_drew ?_ | with_reducible refine bl_drewN ?_ _ | with_reducible refine bl_bx ?_ _ | with_reducible exact BX.below _ | with_reducible refine bl_set ?_ (by first | (exact Nat.le_refl _) | (simp; done) | (simp; omega)) _ | assumption)))).mono ?_; rintro e w' ⟨rfl, hb⟩; obtain ⟨y9, rfl⟩ := bx_of hb; clear hb)
  have hbm : CB (y9.w.alloc (.cells #[.iface 28 (.pointer (some ⟨T, 0, none⟩)), .int .u64 0, .int .i64 9] 36)) y9.w.heap.size 36 #[.iface 28 (.pointer (some ⟨T, 0, none⟩)), .int .u64 0, .int .i64 9] := CB.new _ _ _
  have hb9 : Below w8.heap.size w8 (y9.w.alloc (.cells #[.iface 28 (.pointer (some ⟨T, 0, none⟩)), .int .u64 0, .int .i64 9] 36)) := by (repeat (first | with_reducible exact Below.refl _ _ | with_reducible refine bl_alloc ?_ _ | with_reducible refine bl_drew ?_ | with_reducible refine bl_drewN ?_ _ | with_reducible refine bl_bx ?_ _ | with_reducible exact BX.below _ | with_reducible refine bl_set ?_ (by first | (exact Nat.le_refl _) | (simp; done) | (simp; omega)) _ | assumption))
  have hgm : w8.heap.size ≤ y9.w.heap.size := (x8.below.trans (y9.below.mono x8.size)).size
  obtain ⟨gm, hgme⟩ : ∃ gm, y9.w.heap.size = gm := ⟨_, rfl⟩
  obtain ⟨w9, hw9⟩ : ∃ w9, y9.w.alloc (.cells #[.iface 28 (.pointer (some ⟨T, 0, none⟩)), .int .u64 0, .int .i64 9] 36) = w9 := ⟨_, rfl⟩
  rw [hgme, hw9] at hbm
  rw [hw9] at hb9
  rw [hgme] at hgm
  rw [hgme, hw9]
  have hDV := HV.out.less hb9 (fun b => w8.heap.size ≤ b ∧ b < w9.heap.size) (fun b hb => hb)
  obtain ⟨F2, hF2⟩ : ∃ F2 : Nat → Prop, (fun b => W7.heap.size < b ∧ ¬ (w8.heap.size ≤ b ∧ b < w9.heap.size)) = F2 := ⟨_, rfl⟩
  have HF2 : Hid (∀ b, F2 b → W7.heap.size < b ∧ (b < w8.heap.size ∨ w9.heap.size ≤ b)) := by
    rw [← hF2]
    exact fun b hb => ⟨hb.1, by omega⟩
  rw [hF2] at hDV
  have hb79 : Below W7.heap.size W7 w9 := HB8.out.trans (hb9.mono HB8.out.size)
  have HBM := Lib.hid hbm
  have HZ9 := Lib.hid (HZ7.out.below hb79)
  have HR9 := Lib.hid (HR7.out.below hb79)
  have HK9 : Hid (w9.heap[D]? = some (.deferred (some []))) := (hb79.block D hD7).trans HK.out
  have HB9 := Lib.hid (HB7.out.trans (hb79.mono HB7.out.size))
  have hlt9 := hb79.size
  have hw7 := HB7.out.size
  have HAR := Lib.hid (armV hDV 0 (by omega))
  have hSA : S.arm 0 = { S with armed := true, left := 0 } := by unfold DevS.arm; rw [HO.out.off]; rfl
  have hGA : Good (S.arm 0) 9 := by rw [hSA]; exact HO.out.good.ctr _ _ _ _
  have hSF : ((S.arm 0).fence 0).lns.length = 12 ∧ (((S.arm 0).fence 0).thr 0).err = 3 := by
    rw [hSA]
    unfold DevS.fence
    have ho : S.off = false := HO.out.off
    have he : (S.thr 0).err = 0 := HO.out.err 0
    have hc : ({ S with armed := true, left := 0 } : DevS).cntB true = false := by simp [DevS.cntB]
    have hd : ({ S with armed := true, left := 0 } : DevS).cnt 0 true = DevS.setErr { S with armed := true, left := 0, off := true } 0 3 := by
      simp [DevS.cnt, DevS.onB, DevS.fail, ho, he]
    rw [hc, if_neg (by simp), hd]
    exact ⟨HO.out.nl, by simp [DevS.setErr]⟩
  have HGA := Lib.hid hGA
  have HSF := Lib.hid hSF
  clear hgme hw9 hbm hb9 hF2 hDV hb79 hSA hGA hSF HV HO HSZ HER HOPN HB8 HZ7 HR7 HK HB7
  go_upto_region 13 with (first
    | (go_at_call 28; refine HAR.out.mono ?_; rintro e w10 ⟨rfl, hV10, hC10⟩; have HV10 := Lib.hid hV10; have HC10 := Lib.hid hC10; have HFE := Lib.hid (fenceV hV10 0 (by omega) HGA.out (by omega)); rw [HTT.out] at HFE; clear hV10 hC10)
    | (go_at_call 29; refine HFE.out.mono ?_; rintro e w11 ⟨rfl, hV11, hC11⟩; have HV11 := Lib.hid hV11; have HC11 := Lib.hid hC11; clear hV11 hC11))
  have hch : Ch F2 w9 w11 := HC10.out.trans HC11.out (fun b h _ => h)
  have hbm11 := HBM.out.ch hch (fun hf => by have h1 := (HF2.out gm hf).2; have h2 := HBM.out.lt; omega)
  have hz11 := HZ9.out.ch hch (fun hf => by have h1 := (HF2.out gz hf).1; omega)
  have hr11 := HR9.out.ch hch (fun hf => by have h1 := (HF2.out gr hf).1; omega)
  have HK11 : Hid (w11.heap[D]? = some (.deferred (some []))) := (hch.block D (by omega) (fun hf => by have h1 := (HF2.out D hf).1; omega)).trans HK9.out
  have HB11 : Hid (Below w.heap.size w w11) := bl_ch HB9.out hch (fun b hb => by have h1 := (HF2.out b hb).1; have h2 := HB9.out.size; omega)
  have HBM11 := Lib.hid hbm11
  have HZ11 := Lib.hid hz11
  have HR11 := Lib.hid hr11
  have HSZ : Hid (∀ W, Below w11.heap.size w11 W → Calls Tryd.prog 102 #[.pointer (some ⟨T, 0, none⟩)] W fun e w' => e = .returned (.int .u64 768) ∧ W = w') := by
    intro W hW
    have := vSize (HV11.out.below hW) 0 (by omega)
    rwa [HSF.out.1, HTT.out] at this
  have HER : Hid (∀ W, Below w11.heap.size w11 W → Calls Tryd.prog 17 #[.pointer (some ⟨T, 0, none⟩)] W fun e w' => e = .returned (.int .i64 3) ∧ W = w') := by
    intro W hW
    have := vErr (HV11.out.below hW) 0 (by omega)
    rwa [HSF.out.2, HTT.out] at this
  have HC1 : Hid (Calls Tryd.prog 15 #[.agg #[.iface 28 (.pointer (some ⟨T, 0, none⟩)), .int .u64 0, .int .i64 9], .slice (some ⟨w11.heap.size, 0, none⟩) 1 1, .slice none 0 0] (w11.alloc (.cells #[.int .i64 1] 3)) fun e w' => e = .returned (.tuple #[.slice none 0 0, .int .i64 3]) ∧ Below (w11.alloc (.cells #[.int .i64 1] 3)).heap.size (w11.alloc (.cells #[.int .i64 1] 3)) w') :=
    bmChange_err (w11.alloc (.cells #[.int .i64 1] 3)) T 0 9 (by omega) 3 (by decide) (fun W hW => HER.out W ((bl_alloc (Below.refl _ _) _).trans (hW.mono (by simp)))) (some ⟨w11.heap.size, 0, none⟩) 1 1 [1] rfl (by omega) (rd_one .i64 3 w11 1) none 0 0 [] rfl (by omega) Rd.nil (by decide) (by decide)
  have k0 := hbm11.cell 0
  have k1 := hbm11.cell 1
  have k2 := hbm11.cell 2
  have kl := hbm11.lt
  clear hch hbm11 hz11 hr11
  go_upto_region 14 with (go_at_call 15; refine HC1.out.mono ?_; rintro e w' ⟨rfl, hb⟩; obtain ⟨y12, rfl⟩ := bx_of hb; clear hb)
  have hb12 : Below w11.heap.size w11 y12.w := by (repeat (first | with_reducible exact Below.refl _ _ | with_reducible refine bl_alloc ?_ _ | with_reducible refine bl_drew ?_ | with_reducible refine bl_drewN ?_ _ | with_reducible refine bl_bx ?_ _ | with_reducible exact BX.below _ | with_reducible refine bl_set ?_ (by first | (exact Nat.le_refl _) | (simp; done) | (simp; omega)) _ | assumption))
  obtain ⟨w12, hw12⟩ : ∃ w12, y12.w = w12 := ⟨_, rfl⟩
  rw [hw12] at hb12
  rw [hw12]
  have HB12 := Lib.hid hb12
  have HOP3 : Hid (∀ W, Below w11.heap.size w11 W → Calls Tryd.prog 13 #[.iface 28 (.pointer (some ⟨T, 0, none⟩)), .int .u64 0, .int .i64 9] W fun e w' => e = .returned (.tuple #[.agg #[.nilIface, .int .u64 0, .int .i64 0], .int .i64 3]) ∧ Below W.heap.size W w') := by
    intro W hW
    have := bmOpen_ok W T 0 9 3 (by omega) (fun W' hW' => HSZ.out W' (hW.trans (hW'.mono hW.size))) (fun W' hW' => HER.out W' (hW.trans (hW'.mono hW.size))) (by decide)
    rwa [if_neg (by decide)] at this
  clear hw12 hb12 HC1 k0 k1 k2 kl
  go_upto_region 15 with (go_at_call 13; refine (HOP3.out _ (HB12.out.trans (Below.mono (by (repeat (first | with_reducible exact Below.refl _ _ | with_reducible refine bl_alloc ?_ _ | with_reducible refine bl_drew ?_ | with_reducible refine bl_drewN ?_ _ | with_reducible refine bl_bx ?_ _ | with_reducible exact BX.below _ | with_reducible refine bl_set ?_ (by first | (exact Nat.le_refl _) | (simp; done) | (simp; omega)) _ | assumption))) HB12.out.size))).mono ?_; rintro e w' ⟨rfl, hb⟩; obtain ⟨y13, rfl⟩ := bx_of hb; clear hb)
  have hb13 : Below w12.heap.size w12 (y13.w.alloc (.cells #[.nilIface, .int .u64 0, .int .i64 0] 36)) := by (repeat (first | with_reducible exact Below.refl _ _ | with_reducible refine bl_alloc ?_ _ | with_reducible refine bl_drew ?_ | with_reducible refine bl_drewN ?_ _ | with_reducible refine bl_bx ?_ _ | with_reducible exact BX.below _ | with_reducible refine bl_set ?_ (by first | (exact Nat.le_refl _) | (simp; done) | (simp; omega)) _ | assumption))
  obtain ⟨g3, hg3⟩ : ∃ g3, y13.w.heap.size = g3 := ⟨_, rfl⟩
  obtain ⟨w13, hw13⟩ : ∃ w13, y13.w.alloc (.cells #[.nilIface, .int .u64 0, .int .i64 0] 36) = w13 := ⟨_, rfl⟩
  rw [hw13] at hb13
  rw [hg3, hw13]
  have HB13 := Lib.hid (HB12.out.trans (hb13.mono HB12.out.size))
  have hbm13 := HBM11.out.below HB13.out
  have HZ13 := Lib.hid (HZ11.out.below HB13.out)
  have HR13 := Lib.hid (HR11.out.below HB13.out)
  have HK13 : Hid (w13.heap[D]? = some (.deferred (some []))) := (HB13.out.block D ((Array.getElem?_eq_some_iff.1 HK11.out).1)).trans HK11.out
  have HB14 := Lib.hid (HB11.out.trans (HB13.out.mono HB11.out.size))
  have k0 := hbm13.cell 0
  have k1 := hbm13.cell 1
  have k2 := hbm13.cell 2
  have kl := hbm13.lt
  have HC2 : Hid (Calls Tryd.prog 15 #[.agg #[.iface 28 (.pointer (some ⟨T, 0, none⟩)), .int .u64 0, .int .i64 9], .slice (some ⟨w13.heap.size, 0, none⟩) 1 1, .slice none 0 0] (w13.alloc (.cells #[.int .i64 9] 3)) fun e w' => e = .returned (.tuple #[.slice none 0 0, .int .i64 1]) ∧ Below (w13.alloc (.cells #[.int .i64 9] 3)).heap.size (w13.alloc (.cells #[.int .i64 9] 3)) w') :=
    bmChange_bad (w13.alloc (.cells #[.int .i64 9] 3)) T 0 9 (by omega) (some ⟨w13.heap.size, 0, none⟩) 1 1 [9] rfl (by omega) (rd_one .i64 3 w13 9) none 0 0 [] rfl (by omega) Rd.nil (by decide)
  clear hw13 hg3 hb13 hbm13
  go_upto_region 16 with (go_at_call 15; refine HC2.out.mono ?_; rintro e w' ⟨rfl, hb⟩; obtain ⟨y14, rfl⟩ := bx_of hb; clear hb)
  have hb15 : Below w13.heap.size w13 y14.w := by (repeat (first | with_reducible exact Below.refl _ _ | with_reducible refine bl_alloc ?_ _ | with_reducible refine bl_drew ?_ | with_reducible refine bl_drewN ?_ _ | with_reducible refine bl_bx ?_ _ | with_reducible exact BX.below _ | with_reducible refine bl_set ?_ (by first | (exact Nat.le_refl _) | (simp; done) | (simp; omega)) _ | assumption))
  obtain ⟨w14, hw14⟩ : ∃ w14, y14.w = w14 := ⟨_, rfl⟩
  rw [hw14] at hb15
  rw [hw14]
  clear hw14 HC2 k0 k1 k2 kl
  have hz14 := HZ13.out.below hb15
  have hr14 := HR13.out.below hb15
  have HK14 : Hid (w14.heap[D]? = some (.deferred (some []))) := (hb15.block D ((Array.getElem?_eq_some_iff.1 HK13.out).1)).trans HK13.out
  have HB15 := Lib.hid (HB14.out.trans (hb15.mono HB14.out.size))
  have z0 := hz14.cell 0
  have z1 := hz14.cell 1
  have z2 := hz14.cell 2
  have zl := hz14.lt
  have r0 := hr14.cell 0
  have rl := hr14.lt
  have rf := hr14.frozen 0
  have HR14 := Lib.hid hr14
  clear hb15 hz14 hr14
  have HL := Lib.hid (fun (x : BX w14) => bmLen x.w .nilIface 0 0)
  have HO1 := Lib.hid (fun (x : BX w14) => bmOnesZ x.w)
  have HG1 := Lib.hid (fun (x : BX w14) => bmGetZ x.w i)
  have HN1 := Lib.hid (fun (x : BX w14) => bmNextZ x.w i set)
  unfold zmv at HO1 HG1 HN1
  refine wp_region_bx_tail 39 (by kernel_rfl) (by kernel_rfl) ?_
  simp only [List.take_succ_cons, List.take_zero, List.drop_succ_cons, List.drop_zero]
  repeat (go_big_quiet_step (first | (go_at_call 18; exact bx_call (HL.out _)) | (go_at_call 21; exact bx_call (HO1.out _)) | (go_at_call 19; exact bx_call (HG1.out _)) | (go_at_call 23; exact bx_call (HN1.out _))))
  refine wpQuiet_nil ?_
  rintro _ ⟨v, rfl⟩
  go_wp2
  have hDr : gr ≠ D := by
    rintro rfl
    have h1 : w14.heap[gr]? = some (.cells #[.bool false] 4 (0, 0)) := HR14.out
    rw [HK14.out] at h1
    cases h1
  obtain ⟨W, hW⟩ : ∃ W, v.w.setCell ⟨gr, 0, none⟩ (.bool true) = W := ⟨_, rfl⟩
  have hKW : W.heap[D]? = some (.deferred (some [])) := by
    rw [← hW]
    exact (Below.heap_setCell v.w ⟨gr, 0, none⟩ (.bool true) D (fun h => hDr h.symm)).trans ((v.below.block D (Array.getElem?_eq_some_iff.1 HK14.out).1).trans HK14.out)
  have hRW : CB W gr 4 #[.bool true] := by rw [← hW]; exact (HR14.out.bx v).set 0 (.bool true)
  have hBW : Below w.heap.size w W := by
    rw [← hW]
    exact (HB15.out.trans (v.below.mono HB15.out.size)).setCell (p := ⟨gr, 0, none⟩) (by rw [HGR.out]; exact Nat.le_refl _) _
  rw [hW]
  have hc := (hRW.keep (w' := W.putObj D (.deferred none)) (World.putObj_heap_other hDr)).cell 0
  refine ⟨by simp, .inl ⟨_, _, rfl, run_takeDeferred hKW, ?_⟩⟩
  exact ⟨.bool true, by simp [results, Tryd.results8, go_sem, hc], rfl, hBW.trans (belowK_b (w := w) (Nat.le_refl _) W D _ _ HDW.out hKW rfl rfl)⟩
end Go.Proofs.YtbhkdngbgokilaaDoor
