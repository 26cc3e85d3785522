/- Contracts of Get, Ones and Next of a bitmap. -/
import Derived.Test.YtbhkdngbgokilaaDoorBmA
import Derived.Test.YtbhkdngbgokilaaDoorDevV
namespace Go.Proofs.YtbhkdngbgokilaaDoor
open Go.RowKit
set_option linter.unusedVariables false

theorem bmLd {T : Nat} {xs : List Int} {a n k : Nat} {w : World} (hL : LdV T xs w) (ha : a + (n + 63) / 64 ≤ xs.length) (hk : 64 * k < n) : ∀ W, Below w.heap.size w W → Calls Tryd.prog 32 #[.pointer (some ⟨T, 0, none⟩), .int .u64 (8 * ((a + k : Nat) : Int))] W fun e w' => e = .returned (.int .u64 ((xs.drop a)[k]?.getD 0)) ∧ W = w' := by
  intro W hW
  have hlt : a + k < xs.length := by omega
  have h1 : (xs.drop a)[k]? = some xs[a + k] := by rw [List.getElem?_drop, List.getElem?_eq_getElem hlt]
  have := hL W hW (a + k) xs[a + k] (List.getElem?_eq_getElem hlt)
  rw [h1]
  exact this
set_option maxRecDepth 100000 in
set_option maxHeartbeats 1000000 in
theorem bmGet (w : World) (T : Nat) (xs : List Int) (a n : Nat) (hL : LdV T xs w) (hf : FitsB xs) (ha : a + (n + 63) / 64 ≤ xs.length) (hx : xs.length ≤ 10000) (hn : n ≤ 512) (i : Int) :
    Calls Tryd.prog 19 #[bmv T (8 * (a : Int)) n, .int .i64 i] w fun e w' => e = .returned (.bool (getB (xs.drop a) n i)) ∧ Below w.heap.size w w' := by
  by_cases hi : 0 ≤ i ∧ i < (n : Int)
  · obtain ⟨hi0, hin⟩ := hi
    obtain ⟨j, rfl⟩ := Int.eq_ofNat_of_zero_le hi0
    have hjn : j < n := by omega
    have HLD := Lib.hid (bmLd (k := j / 64) hL ha (by omega))
    obtain ⟨v, hv⟩ : ∃ v, (xs.drop a)[j / 64]?.getD 0 = v := ⟨_, rfl⟩
    have hvr : 0 ≤ v ∧ v < 18446744073709551616 := by
      rw [← hv, List.getElem?_drop]
      exact hf.getD _
    have HG : Hid (getB (xs.drop a) n (j : Int) = (bits .and .u64 (v / 2 ^ (j % 64)) 1 == 1)) := by
      show _ = _
      rw [get_bit v hvr]
      unfold getB bitW
      rw [decide_eq_true hi0, decide_eq_true hin, Int.toNat_natCast, hv]
      rfl
    rw [hv] at HLD
    have HAT := Lib.hid (fun W => bmAt W T a (j / 64) n (by omega))
    rw [show ((j / 64 : Nat) : Int) = (j : Int) / 64 by omega] at HAT
    clear hL hv
    unfold bmv at HAT ⊢
    go_enter Tryd.func19, Tryd.ntmps19
    go_upto_region 3 with (fail)
    refine wp_region_bx (by kernel_rfl) (by kernel_rfl) ?_
    repeat (go_big_quiet_step (first | (go_at_call 40; exact bx_call (HAT.out _)) | (go_at_call 32; exact bx_calle (HLD.out _ (by (repeat (first | with_reducible exact Below.refl _ _ | with_reducible refine bl_alloc ?_ _ | with_reducible refine bl_drew ?_ | with_reducible refine bl_drewN ?_ _ | with_reducible refine bl_bx ?_ _ | with_reducible exact BX.below _ | with_reducible refine bl_set ?_ (by first | (exact Nat.le_refl _) | (simp; done) | (simp; omega)) _ | assumption)))))))
    refine wpQuiet_nil ?_
    rintro _ ⟨x, rfl⟩
    go_wp2
    go_ret
    rw [HG.out]
    exact ⟨rfl, (by repeat (first | with_reducible exact Below.refl _ _ | with_reducible refine bl_alloc ?_ _ | with_reducible refine bl_drew ?_ | with_reducible refine bl_drewN ?_ _ | with_reducible refine bl_bx ?_ _ | with_reducible exact BX.below _ | with_reducible refine bl_set ?_ (by first | (exact Nat.le_refl _) | (simp; done) | (simp; omega)) _ | assumption))⟩
  · have HG : Hid (getB (xs.drop a) n i = false) := by
      show _ = _
      unfold getB
      by_cases h0 : 0 ≤ i
      · rw [decide_eq_false (p := i < (n : Int)) (by omega)]; simp
      · rw [decide_eq_false h0]; rfl
    unfold bmv
    by_cases h0 : i < 0
    · go_enter Tryd.func19, Tryd.ntmps19
      go_wp2
      go_ret
      rw [HG.out]
      exact ⟨rfl, (by repeat (first | with_reducible exact Below.refl _ _ | with_reducible refine bl_alloc ?_ _ | with_reducible refine bl_drew ?_ | with_reducible refine bl_drewN ?_ _ | with_reducible refine bl_bx ?_ _ | with_reducible exact BX.below _ | with_reducible refine bl_set ?_ (by first | (exact Nat.le_refl _) | (simp; done) | (simp; omega)) _ | assumption))⟩
    · have h1 : i ≥ (n : Int) := by omega
      go_enter Tryd.func19, Tryd.ntmps19
      go_wp2
      go_ret
      rw [HG.out]
      exact ⟨rfl, (by repeat (first | with_reducible exact Below.refl _ _ | with_reducible refine bl_alloc ?_ _ | with_reducible refine bl_drew ?_ | with_reducible refine bl_drewN ?_ _ | with_reducible refine bl_bx ?_ _ | with_reducible exact BX.below _ | with_reducible refine bl_set ?_ (by first | (exact Nat.le_refl _) | (simp; done) | (simp; omega)) _ | assumption))⟩
set_option maxRecDepth 100000 in
set_option maxHeartbeats 2000000 in
theorem bmOnes (w : World) (T : Nat) (xs : List Int) (a n : Nat) (hL : LdV T xs w) (hf : FitsB xs) (ha : a + (n + 63) / 64 ≤ xs.length) (hx : xs.length ≤ 10000) (hn : n ≤ 512) :
    Calls Tryd.prog 21 #[bmv T (8 * (a : Int)) n] w fun e w' => e = .returned (.int .i64 (onesTo (xs.drop a) n : Nat)) ∧ Below w.heap.size w w' := by
  have HL := Lib.hid hL
  have HF := Lib.hid hf
  have HWD := Lib.hid (fun W => bmWords W T (8 * (a : Int)) n hn)
  obtain ⟨m, hm⟩ : ∃ m, (n + 63) / 64 = m := ⟨_, rfl⟩
  rw [hm] at HWD ha
  have hm' : 64 * m < n + 64 ∧ n ≤ 64 * m := by omega
  clear hL hf
  unfold bmv at HWD ⊢
  go_enter Tryd.func21, Tryd.ntmps21
  go_wp2_with (go_at_call 39; refine (HWD.out _).mono ?_; rintro e w' ⟨rfl, hb⟩; obtain ⟨x, rfl⟩ := bx_of hb; clear hb)
  have HW0 : Hid (Below (w.alloc (.cells #[.iface 28 (.pointer (some ⟨T, 0, none⟩)), .int .u64 (8 * (a : Int)), .int .i64 n] 36)).heap.size (w.alloc (.cells #[.iface 28 (.pointer (some ⟨T, 0, none⟩)), .int .u64 (8 * (a : Int)), .int .i64 n] 36)) x.w) := x.below
  have hg0 : CB (w.alloc (.cells #[.iface 28 (.pointer (some ⟨T, 0, none⟩)), .int .u64 (8 * (a : Int)), .int .i64 n] 36)) w.heap.size 36 #[.iface 28 (.pointer (some ⟨T, 0, none⟩)), .int .u64 (8 * (a : Int)), .int .i64 n] := CB.new _ _ _
  have HC0 := Lib.hid (hg0.bx x)
  have HB0 : Hid (Below w.heap.size w x.w) := by show Below _ _ _; (repeat (first | with_reducible exact Below.refl _ _ | with_reducible refine bl_alloc ?_ _ | with_reducible refine bl_drew ?_ | with_reducible refine bl_drewN ?_ _ | with_reducible refine bl_bx ?_ _ | with_reducible exact BX.below _ | with_reducible refine bl_set ?_ (by first | (exact Nat.le_refl _) | (simp; done) | (simp; omega)) _ | assumption))
  obtain ⟨g, hg⟩ : ∃ g, w.heap.size = g := ⟨_, rfl⟩
  obtain ⟨W, hW⟩ : ∃ W, x.w = W := ⟨_, rfl⟩
  rw [hW] at HC0 HB0
  rw [hg] at HC0
  rw [hg, hW]
  clear HW0 hg0 hW HWD
  go_loopw [7, 3, 4, 8, 9, 10, 11, 12, 13, 14, 15, 16, 17, 18, 19, 20, 21, 22, 23, 24, 25] (fun i s _ _ _ _ _ _ _ _ _ _ _ _ _ _ _ _ _ _ _ wr => ∃ k : Nat, k ≤ m ∧ i = .int .i64 k ∧ s = .int .i64 (onesTo (xs.drop a) (min (64 * k) n) : Nat) ∧ Below W.heap.size W wr) (fun i _ _ _ _ _ _ _ _ _ _ _ _ _ _ _ _ _ _ _ _ _ => m - (intOf i).toNat)
  case atStart => exact ⟨0, by omega, rfl, by simp [onesTo], Below.refl _ _⟩
  case round =>
    obtain ⟨k, hk, rfl, rfl, hB⟩ := hrel
    have HB := Lib.hid hB
    by_cases hlt : k < m
    · have hlt' : (k : Int) < (m : Int) := by omega
      have hkn : 64 * k < n := by omega
      have hb2 : Below w.heap.size w wr := HB0.out.trans (hB.mono HB0.out.size)
      have HLD := Lib.hid (bmLd (k := k) (HL.out.below hb2) (by rw [hm]; exact ha) hkn)
      have hC := HC0.out.below hB
      have c0 := hC.cell 0
      have c1 := hC.cell 1
      have c2 := hC.cell 2
      have cl := hC.lt
      have hvr : 0 ≤ (xs.drop a)[k]?.getD 0 ∧ (xs.drop a)[k]?.getD 0 < 18446744073709551616 := by
        rw [List.getElem?_drop]
        exact HF.out.getD _
      obtain ⟨l, hl⟩ : ∃ l, leftN n k = l := ⟨_, rfl⟩
      have hl64 : l ≤ 64 := by rw [← hl]; unfold leftN; omega
      have hstep : onesTo (xs.drop a) (min (64 * (k + 1)) n) = onesTo (xs.drop a) (min (64 * k) n) + popU l ((xs.drop a)[k]?.getD 0).toNat := by
        rw [show min (64 * (k + 1)) n = 64 * k + l by rw [← hl]; unfold leftN; omega, show min (64 * k) n = 64 * k by omega]
        exact onesTo_word _ k l hl64
      obtain ⟨v, hv⟩ := Int.eq_ofNat_of_zero_le hvr.1
      rw [hv] at hvr hstep HLD
      rw [Int.toNat_natCast] at hstep
      have HAT := Lib.hid (fun W => bmAt W T a k n (by omega))
      have HMK := Lib.hid (fun W => bmMask W T (8 * (a : Int)) n k hn hkn)
      rw [hl] at HMK
      have hand : bits .and .u64 ((v : Nat) : Int) ((2 ^ l - 1 : Nat) : Int) = ((v &&& (2 ^ l - 1) : Nat) : Int) := by
        have h64 : 2 ^ l ≤ 2 ^ 64 := Nat.pow_le_pow_right (by omega) hl64
        have hp := Nat.two_pow_pos l
        exact bits_and_u64_nat _ _ (by omega) (by omega)
      have HON : Hid (∀ W, Calls Tryd.prog 41 #[.int .u64 ((v &&& (2 ^ l - 1) : Nat) : Int)] W fun e w' => e = .returned (.int .i64 (popU l v : Nat)) ∧ W = w') := fun W => by
        have hle := Nat.and_le_left (n := v) (m := 2 ^ l - 1)
        have := ones64 W (v &&& (2 ^ l - 1)) (by omega)
        rwa [pop_mask v l hl64] at this
      obtain ⟨z, hz⟩ : ∃ z, v &&& (2 ^ l - 1) = z := ⟨_, rfl⟩
      obtain ⟨mk, hmk⟩ : ∃ mk, 2 ^ l - 1 = mk := ⟨_, rfl⟩
      have hple := popU_le v l
      obtain ⟨p, hp⟩ : ∃ p, popU l v = p := ⟨_, rfl⟩
      have hole := onesTo_le (xs.drop a) (min (64 * k) n)
      obtain ⟨q, hq⟩ : ∃ q, onesTo (xs.drop a) (min (64 * k) n) = q := ⟨_, rfl⟩
      rw [hz] at hand HON
      rw [hmk] at hand HMK
      rw [hp] at HON hstep hple
      rw [hq] at hstep hole
      rw [hq]
      have hmin : min (64 * k) n ≤ 512 := by omega
      have HST := Lib.hid hstep
      unfold bmv at HAT HMK
      clear hB hv hvr hC hz hmk hp hq hl hstep
      go_upto_region 5 with (fail)
      refine wp_region_bx (by kernel_rfl) (by kernel_rfl) ?_
      repeat (go_big_quiet_step (first | (go_at_call 40; exact bx_call (HAT.out _)) | (go_at_call 32; exact bx_calle (HLD.out _ (by (repeat (first | with_reducible exact Below.refl _ _ | with_reducible refine bl_alloc ?_ _ | with_reducible refine bl_drew ?_ | with_reducible refine bl_drewN ?_ _ | with_reducible refine bl_bx ?_ _ | with_reducible exact BX.below _ | with_reducible refine bl_set ?_ (by first | (exact Nat.le_refl _) | (simp; done) | (simp; omega)) _ | assumption))))) | (go_at_call 42; exact bx_call (HMK.out _)) | (go_at_call 41; exact bx_calle (HON.out _))))
      refine wpQuiet_nil ?_
      rintro _ ⟨x, rfl⟩
      go_wp2
      exact ⟨⟨k + 1, by omega, by go_num, by rw [HST.out]; go_num, HB.out.trans (x.below.mono HB.out.size)⟩, by simp [intOf]; omega⟩
    · obtain rfl : k = m := by omega
      clear hB
      have hmin : min (64 * k) n = n := by omega
      rw [hmin]
      go_wp2
      go_ret
      exact ⟨rfl, HB0.out.trans (HB.out.mono HB0.out.size)⟩
end Go.Proofs.YtbhkdngbgokilaaDoor
