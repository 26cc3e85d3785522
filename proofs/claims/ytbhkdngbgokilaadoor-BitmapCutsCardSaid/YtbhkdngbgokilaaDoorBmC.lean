/- Contract of Next of a bitmap. -/
import Derived.Test.YtbhkdngbgokilaaDoorBmB
namespace Go.Proofs.YtbhkdngbgokilaaDoor
open Go.RowKit
set_option linter.unusedVariables false

theorem nextB_none {ws : List Int} {n : Nat} {i : Int} {set : Bool} (h : ∀ m, i.toNat ≤ m → m < n → (bitW ws m == set) = false) : nextB ws n i set = -1 := by
  unfold nextB
  rw [nextP_none]
  · rfl
  · exact fun m h1 h2 => h m h1 (by omega)
theorem nextB_some {ws : List Int} {n : Nat} {i : Int} {set : Bool} (j : Nat) (h1 : i.toNat ≤ j) (h2 : j < n) (h3 : (bitW ws j == set) = true) (h4 : ∀ m, i.toNat ≤ m → m < j → (bitW ws m == set) = false) : nextB ws n i set = (j : Int) := by
  unfold nextB
  rw [nextP_some _ _ _ j h1 (by omega) h3 h4]
  rfl
theorem bitW_at (ws : List Int) (k m : Nat) (hm : m < 64) : bitW ws (64 * k + m) = (ws[k]?.getD 0).toNat.testBit m := by
  unfold bitW
  rw [show (64 * k + m) / 64 = k by omega, show (64 * k + m) % 64 = m by omega]

set_option maxRecDepth 100000 in
set_option maxHeartbeats 4000000 in
theorem bmNext_from (w : World) (T : Nat) (xs : List Int) (a n : Nat) (hT : Tab w) (hL : LdV T xs w) (hf : FitsB xs) (ha : a + (n + 63) / 64 ≤ xs.length) (hx : xs.length ≤ 10000) (hn : n ≤ 512) (f : Nat) (hfn : f < n) (i : Int) (hi : i = (f : Int) ∨ (i < 0 ∧ f = 0)) (set : Bool) :
    Calls Tryd.prog 23 #[bmv T (8 * (a : Int)) n, .int .i64 i, .bool set] w fun e w' => e = .returned (.int .i64 (nextB (xs.drop a) n f set)) ∧ Below w.heap.size w w' := by
  have HL := Lib.hid hL
  have HF := Lib.hid hf
  have HT := Lib.hid hT
  have HWD := Lib.hid (fun W => bmWords W T (8 * (a : Int)) n hn)
  obtain ⟨m, hm⟩ : ∃ m, (n + 63) / 64 = m := ⟨_, rfl⟩
  rw [hm] at HWD ha
  have hm' : 64 * m < n + 64 ∧ n ≤ 64 * m := by omega
  have hHI := Lib.hid hi
  have hfn' : ¬ (n : Int) ≤ (f : Int) := by omega
  clear hL hf hT
  unfold bmv at HWD ⊢
  go_enter Tryd.func23, Tryd.ntmps23
  go_upto_if 11 with (fail)
  go_cut [1] from 10 (fun s wx => s = .int .i64 (f : Int) ∧ wx = w.alloc (.cells #[.iface 28 (.pointer (some ⟨T, 0, none⟩)), .int .u64 (8 * (a : Int)), .int .i64 n] 36))
  case first =>
    rcases hi with rfl | ⟨h1, rfl⟩
    · go_wp2
      go_meet
      case rel => exact ⟨rfl, rfl⟩
    · go_wp2
      go_meet
      case rel => exact ⟨rfl, rfl⟩
  case rest =>
    obtain ⟨rfl, rfl⟩ := hcut
    have hg0 : CB (w.alloc (.cells #[.iface 28 (.pointer (some ⟨T, 0, none⟩)), .int .u64 (8 * (a : Int)), .int .i64 n] 36)) w.heap.size 36 #[.iface 28 (.pointer (some ⟨T, 0, none⟩)), .int .u64 (8 * (a : Int)), .int .i64 n] := CB.new _ _ _
    have HB0 : Hid (Below w.heap.size w (w.alloc (.cells #[.iface 28 (.pointer (some ⟨T, 0, none⟩)), .int .u64 (8 * (a : Int)), .int .i64 n] 36))) := by show Below _ _ _; (repeat (first | with_reducible exact Below.refl _ _ | with_reducible refine bl_alloc ?_ _ | with_reducible refine bl_drew ?_ | with_reducible refine bl_drewN ?_ _ | with_reducible refine bl_bx ?_ _ | with_reducible exact BX.below _ | with_reducible refine bl_set ?_ (by first | (exact Nat.le_refl _) | (simp; done) | (simp; omega)) _ | assumption))
    obtain ⟨g, hg⟩ : ∃ g, w.heap.size = g := ⟨_, rfl⟩
    obtain ⟨W, hW⟩ : ∃ W, w.alloc (.cells #[.iface 28 (.pointer (some ⟨T, 0, none⟩)), .int .u64 (8 * (a : Int)), .int .i64 n] 36) = W := ⟨_, rfl⟩
    rw [hg, hW] at hg0
    rw [hW] at HB0
    rw [hg, hW]
    have HC0 := Lib.hid hg0
    have c0 := hg0.cell 0
    have c1 := hg0.cell 1
    have c2 := hg0.cell 2
    have cl := hg0.lt
    clear hW hg0 hHI
    go_wp2
    obtain ⟨k0, hk0⟩ : ∃ k0, f / 64 = k0 := ⟨_, rfl⟩
    have hk0' : (f : Int) / 64 = (k0 : Int) := by omega
    rw [hk0']
    clear c0 c1 c2 cl
    go_loopw [8, 6, 9, 19, 20, 21, 22, 23, 24, 25, 26, 27, 28, 29, 30, 31, 32, 33, 34, 35, 36, 37, 38, 39, 40, 41, 42, 43, 44, 45, 46, 47, 48, 49, 50, 51, 52, 53, 54, 55, 56, 57] (fun j _ _ _ _ _ _ _ _ _ _ _ _ _ _ _ _ _ _ _ _ _ _ _ _ _ _ _ _ _ _ _ _ _ _ _ _ _ _ _ _ _ wr => ∃ k : Nat, k0 ≤ k ∧ k ≤ m ∧ j = .int .i64 k ∧ (∀ q, f ≤ q → q < 64 * k → q < n → (bitW (xs.drop a) q == set) = false) ∧ Below W.heap.size W wr) (fun j _ _ _ _ _ _ _ _ _ _ _ _ _ _ _ _ _ _ _ _ _ _ _ _ _ _ _ _ _ _ _ _ _ _ _ _ _ _ _ _ _ _ => m - (intOf j).toNat)
    case atStart => exact ⟨k0, Nat.le_refl _, by omega, rfl, fun q h1 h2 _ => by omega, Below.refl _ _⟩
    case round =>
      obtain ⟨k, hkk, hk, rfl, hno, hB⟩ := hrel
      have HB := Lib.hid hB
      have HNO := Lib.hid hno
      have hC := HC0.out.below hB
      have c0 := hC.cell 0
      have c1 := hC.cell 1
      have c2 := hC.cell 2
      have cl := hC.lt
      by_cases hlt : k < m
      · have hlt' : (k : Int) < (m : Int) := by omega
        have hkn : 64 * k < n := by omega
        have hb2 : Below w.heap.size w wr := HB0.out.trans (hB.mono HB0.out.size)
        have HLD := Lib.hid (bmLd (k := k) (HL.out.below hb2) (by rw [hm]; exact ha) hkn)
        have hvr : 0 ≤ (xs.drop a)[k]?.getD 0 ∧ (xs.drop a)[k]?.getD 0 < 18446744073709551616 := by
          rw [List.getElem?_drop]
          exact HF.out.getD _
        obtain ⟨l, hl⟩ : ∃ l, leftN n k = l := ⟨_, rfl⟩
        have hl64 : l ≤ 64 := by rw [← hl]; unfold leftN; omega
        have hln : ∀ q, 64 * k ≤ q → q < 64 * (k + 1) → q < n → q - 64 * k < l := fun q h1 h2 h3 => by rw [← hl]; unfold leftN; omega
        have hln2 : 64 * k + l ≤ n := by rw [← hl]; unfold leftN; omega
        obtain ⟨s, hs⟩ : ∃ s, (if k = k0 then f % 64 else 0) = s := ⟨_, rfl⟩
        have hs64 : s < 64 := by rw [← hs]; split <;> omega
        have hsf : ∀ q, f ≤ q → 64 * k ≤ q → s ≤ q - 64 * k := fun q h1 h2 => by rw [← hs]; split <;> omega
        have hsf2 : ∀ q, s ≤ q → f ≤ 64 * k + q := fun q h1 => by rw [← hs] at h1; split at h1 <;> omega
        obtain ⟨v, hv⟩ := Int.eq_ofNat_of_zero_le hvr.1
        have HBIT : Hid (∀ q, q < 64 → bitW (xs.drop a) (64 * k + q) = v.testBit q) := by
          intro q hq
          rw [bitW_at _ _ _ hq, hv, Int.toNat_natCast]
        rw [hv] at hvr HLD
        have hv64 : v < 18446744073709551616 := by omega
        have HAT := Lib.hid (fun W => bmAt W T a k n (by omega))
        have HMK := Lib.hid (fun W => bmMask W T (8 * (a : Int)) n k hn hkn)
        rw [hl] at HMK
        have HTB : Hid (∀ y < 18446744073709551616, ∀ W, Below wr.heap.size wr W → Calls Tryd.prog 43 #[.int .u64 ((y : Nat) : Int)] W fun e w' => e = .returned (.int .i64 (Lib.ctz 64 y : Nat)) ∧ W = w') := fun y hy W hW => tz64 y hy W ((HT.out.below hb2).below hW)
        -- what the round reckons
        have HZ : Hid (lookN v set l s = 0 → ∀ q, f ≤ q → q < 64 * (k + 1) → q < n → (bitW (xs.drop a) q == set) = false) := by
          intro h0 q h1 h2 h3
          by_cases hq : q < 64 * k
          · exact HNO.out q h1 hq h3
          · have := look_zero v hv64 set l s hl64 h0 (q - 64 * k) (hsf q h1 (by omega)) (hln q (by omega) h2 h3)
            rw [← HBIT.out (q - 64 * k) (by omega), show 64 * k + (q - 64 * k) = q by omega] at this
            exact this
        have HS : Hid (lookN v set l s ≠ 0 → nextB (xs.drop a) n f set = ((64 * k + Lib.ctz 64 (lookN v set l s) : Nat) : Int) ∧ Lib.ctz 64 (lookN v set l s) < 64) := by
          intro h0
          obtain ⟨y1, y2, y3, y4⟩ := look_some v hv64 set l s hl64 h0
          refine ⟨nextB_some _ (by rw [Int.toNat_natCast]; exact hsf2 _ y1) (by omega) (by rw [HBIT.out _ (by omega)]; exact y3) ?_, by omega⟩
          rw [Int.toNat_natCast]
          intro q h1 h2
          by_cases hq : q < 64 * k
          · exact HNO.out q h1 hq (by omega)
          · have := y4 (q - 64 * k) (hsf q h1 (by omega)) (by omega)
            rw [← HBIT.out (q - 64 * k) (by omega), show 64 * k + (q - 64 * k) = q by omega] at this
            exact this
        obtain ⟨z, hz⟩ : ∃ z, (if set then v else 18446744073709551615 - v) = z := ⟨_, rfl⟩
        have hz64 : z < 18446744073709551616 := by rw [← hz]; split <;> omega
        have hand : bits .and .u64 ((z : Nat) : Int) ((2 ^ l - 1 : Nat) : Int) = ((z % 2 ^ l : Nat) : Int) := by
          have h64 : 2 ^ l ≤ 2 ^ 64 := Nat.pow_le_pow_right (by omega) hl64
          have hp := Nat.two_pow_pos l
          rw [bits_and_u64_nat _ _ hz64 (by omega), Nat.and_two_pow_sub_one_eq_mod]
        have hzl : z % 2 ^ l < 18446744073709551616 := Nat.lt_of_le_of_lt (Nat.mod_le _ _) hz64
        have hhigh := and_high (z % 2 ^ l) (f % 64) hzl (by omega)
        have hLK : lookN v set l s = z % 2 ^ l / 2 ^ s * 2 ^ s := by unfold lookN; rw [hz]
        have hlt64 : lookN v set l s < 18446744073709551616 := lookN_lt v hv64 set l s
        obtain ⟨mk, hmk⟩ : ∃ mk, 2 ^ l - 1 = mk := ⟨_, rfl⟩
        obtain ⟨y, hy⟩ : ∃ y, z % 2 ^ l = y := ⟨_, rfl⟩
        rw [hmk] at hand HMK
        rw [hy] at hand hhigh hLK
        obtain ⟨L0, hL0⟩ : ∃ L0, lookN v set l s = L0 := ⟨_, rfl⟩
        rw [hL0] at HZ HS hLK hlt64
        unfold bmv at HAT HMK
        clear hB hno hC hvr hv hl hln hln2 hsf hsf2 hmk hy hzl hL0 HBIT HNO HF HL
        have HKK := Lib.hid (And.intro hs hz)
        clear hs hz
        go_upto_region 9 with (go_at_call 39; refine (HWD.out _).mono ?_; rintro e w' ⟨rfl, hb⟩; obtain ⟨x, rfl⟩ := bx_of hb; clear hb)
        obtain ⟨Y, hY⟩ : ∃ Y, x.w = Y := ⟨_, rfl⟩
        have hBY : Below wr.heap.size wr Y := by rw [← hY]; exact x.below
        rw [hY]
        clear hY
        have hCY := (HC0.out.below HB.out).below hBY
        have HBY := Lib.hid hBY
        clear c0 c1 c2 cl hBY
        have c0 := hCY.cell 0
        have c1 := hCY.cell 1
        have c2 := hCY.cell 2
        have cl := hCY.lt
        have HLY := Lib.hid (fun (x2 : BX Y) => HLD.out x2.w (HBY.out.trans (x2.below.mono HBY.out.size)))
        clear hCY HLD
        refine wp_region_bx (by kernel_rfl) (by kernel_rfl) ?_
        repeat (go_big_quiet_step (first | (go_at_call 40; exact bx_call (HAT.out _)) | (go_at_call 32; exact bx_calle (HLY.out _))))
        refine wpQuiet_nil ?_
        rintro _ ⟨x2, rfl⟩
        obtain ⟨Z, hZ⟩ : ∃ Z, x2.w = Z := ⟨_, rfl⟩
        have hBZ : Below Y.heap.size Y Z := by rw [← hZ]; exact x2.below
        rw [hZ]
        clear hZ
        have hCZ := ((HC0.out.below HB.out).below HBY.out).below hBZ
        have HBZ : Hid (Below wr.heap.size wr Z) := HBY.out.trans (hBZ.mono HBY.out.size)
        clear c0 c1 c2 cl hBZ
        have c0 := hCZ.cell 0
        have c1 := hCZ.cell 1
        have c2 := hCZ.cell 2
        have cl := hCZ.lt
        clear hCZ HLY HAT
        have hxor := xor_all v hv64
        have hdone : ∀ W', Below wr.heap.size wr W' → Below w.heap.size w W' := fun W' h => HB0.out.trans ((HB.out.trans (h.mono HB.out.size)).mono HB0.out.size)
        have HDN := Lib.hid hdone
        clear hdone
        have hkk' : (k : Int) < 512 := by omega
        by_cases hsettrue : set = true
        · subst hsettrue
          first | simp only [if_true] at HKK | simp only [Bool.false_eq_true, if_false] at HKK
          obtain ⟨hs, hz⟩ := HKK.out
          subst hz
          clear HKK
          by_cases hfirst : k = k0
          · subst hfirst
            have hsf : f % 64 = s := by simpa using hs
            rw [hsf] at hhigh
            rw [← hLK] at hhigh
            have HSF := Lib.hid hsf
            clear hs hLK hsf
            by_cases h0 : L0 = 0
            · have HZ2 := Lib.hid (HZ.out h0)
              have h0b : ((L0 : Int) != 0) = false := by simp [h0]
              clear HZ HS h0
              rw [← HSF.out] at hhigh
              go_wp2_with (go_at_call 42; refine (HMK.out _).mono ?_; rintro e w' ⟨rfl, hb⟩; obtain ⟨x, rfl⟩ := bx_of hb; clear hb)
              exact ⟨⟨k + 1, by omega, by omega, by go_num, fun q h1 h2 h3 => HZ2.out q h1 h2 h3, HB.out.trans ((HBZ.out.trans (x.below.mono HBZ.out.size)).mono HB.out.size)⟩, by simp [intOf]; omega⟩
            · obtain ⟨hS1, hS2⟩ := HS.out h0
              have h0b : ((L0 : Int) != 0) = true := by simp; omega
              have HTZ := Lib.hid (HTB.out L0 hlt64)
              obtain ⟨cz, hcz⟩ : ∃ cz, Lib.ctz 64 L0 = cz := ⟨_, rfl⟩
              rw [hcz] at HTZ hS1 hS2
              have HS1 := Lib.hid hS1
              clear HZ HS h0 hS1 hcz
              rw [← HSF.out] at hhigh
              go_wp2_with (first | (go_at_call 42; refine (HMK.out _).mono ?_; rintro e w' ⟨rfl, hb⟩; obtain ⟨x, rfl⟩ := bx_of hb; clear hb) | (go_at_call 43; refine (HTZ.out _ (HBZ.out.trans (x.below.mono HBZ.out.size))).mono ?_; rintro e w' ⟨rfl, rfl⟩))
              go_ret
              rw [HS1.out]
              exact ⟨ret_int (by omega), HDN.out _ (HBZ.out.trans (x.below.mono HBZ.out.size))⟩
          · have hsf : s = 0 := by simpa [hfirst] using hs.symm
            have hLy : L0 = y := by rw [hLK, hsf]; simp
            subst hLy
            have hneq : ((k : Int) == (k0 : Int)) = false := by simp; omega
            clear hs hLK hsf hhigh
            by_cases h0 : L0 = 0
            · have HZ2 := Lib.hid (HZ.out h0)
              have h0b : ((L0 : Int) != 0) = false := by simp [h0]
              clear HZ HS h0
              go_wp2_with (go_at_call 42; refine (HMK.out _).mono ?_; rintro e w' ⟨rfl, hb⟩; obtain ⟨x, rfl⟩ := bx_of hb; clear hb)
              exact ⟨⟨k + 1, by omega, by omega, by go_num, fun q h1 h2 h3 => HZ2.out q h1 h2 h3, HB.out.trans ((HBZ.out.trans (x.below.mono HBZ.out.size)).mono HB.out.size)⟩, by simp [intOf]; omega⟩
            · obtain ⟨hS1, hS2⟩ := HS.out h0
              have h0b : ((L0 : Int) != 0) = true := by simp; omega
              have HTZ := Lib.hid (HTB.out L0 hlt64)
              obtain ⟨cz, hcz⟩ : ∃ cz, Lib.ctz 64 L0 = cz := ⟨_, rfl⟩
              rw [hcz] at HTZ hS1 hS2
              have HS1 := Lib.hid hS1
              clear HZ HS h0 hS1 hcz
              go_wp2_with (first | (go_at_call 42; refine (HMK.out _).mono ?_; rintro e w' ⟨rfl, hb⟩; obtain ⟨x, rfl⟩ := bx_of hb; clear hb) | (go_at_call 43; refine (HTZ.out _ (HBZ.out.trans (x.below.mono HBZ.out.size))).mono ?_; rintro e w' ⟨rfl, rfl⟩))
              go_ret
              rw [HS1.out]
              exact ⟨ret_int (by omega), HDN.out _ (HBZ.out.trans (x.below.mono HBZ.out.size))⟩
        by_cases hsetfalse : set = false
        · subst hsetfalse
          first | simp only [if_true] at HKK | simp only [Bool.false_eq_true, if_false] at HKK
          obtain ⟨hs, hz⟩ := HKK.out
          subst hz
          clear HKK
          by_cases hfirst : k = k0
          · subst hfirst
            have hsf : f % 64 = s := by simpa using hs
            rw [hsf] at hhigh
            rw [← hLK] at hhigh
            have HSF := Lib.hid hsf
            clear hs hLK hsf
            by_cases h0 : L0 = 0
            · have HZ2 := Lib.hid (HZ.out h0)
              have h0b : ((L0 : Int) != 0) = false := by simp [h0]
              clear HZ HS h0
              rw [← HSF.out] at hhigh
              go_wp2_with (go_at_call 42; refine (HMK.out _).mono ?_; rintro e w' ⟨rfl, hb⟩; obtain ⟨x, rfl⟩ := bx_of hb; clear hb)
              exact ⟨⟨k + 1, by omega, by omega, by go_num, fun q h1 h2 h3 => HZ2.out q h1 h2 h3, HB.out.trans ((HBZ.out.trans (x.below.mono HBZ.out.size)).mono HB.out.size)⟩, by simp [intOf]; omega⟩
            · obtain ⟨hS1, hS2⟩ := HS.out h0
              have h0b : ((L0 : Int) != 0) = true := by simp; omega
              have HTZ := Lib.hid (HTB.out L0 hlt64)
              obtain ⟨cz, hcz⟩ : ∃ cz, Lib.ctz 64 L0 = cz := ⟨_, rfl⟩
              rw [hcz] at HTZ hS1 hS2
              have HS1 := Lib.hid hS1
              clear HZ HS h0 hS1 hcz
              rw [← HSF.out] at hhigh
              go_wp2_with (first | (go_at_call 42; refine (HMK.out _).mono ?_; rintro e w' ⟨rfl, hb⟩; obtain ⟨x, rfl⟩ := bx_of hb; clear hb) | (go_at_call 43; refine (HTZ.out _ (HBZ.out.trans (x.below.mono HBZ.out.size))).mono ?_; rintro e w' ⟨rfl, rfl⟩))
              go_ret
              rw [HS1.out]
              exact ⟨ret_int (by omega), HDN.out _ (HBZ.out.trans (x.below.mono HBZ.out.size))⟩
          · have hsf : s = 0 := by simpa [hfirst] using hs.symm
            have hLy : L0 = y := by rw [hLK, hsf]; simp
            subst hLy
            have hneq : ((k : Int) == (k0 : Int)) = false := by simp; omega
            clear hs hLK hsf hhigh
            by_cases h0 : L0 = 0
            · have HZ2 := Lib.hid (HZ.out h0)
              have h0b : ((L0 : Int) != 0) = false := by simp [h0]
              clear HZ HS h0
              go_wp2_with (go_at_call 42; refine (HMK.out _).mono ?_; rintro e w' ⟨rfl, hb⟩; obtain ⟨x, rfl⟩ := bx_of hb; clear hb)
              exact ⟨⟨k + 1, by omega, by omega, by go_num, fun q h1 h2 h3 => HZ2.out q h1 h2 h3, HB.out.trans ((HBZ.out.trans (x.below.mono HBZ.out.size)).mono HB.out.size)⟩, by simp [intOf]; omega⟩
            · obtain ⟨hS1, hS2⟩ := HS.out h0
              have h0b : ((L0 : Int) != 0) = true := by simp; omega
              have HTZ := Lib.hid (HTB.out L0 hlt64)
              obtain ⟨cz, hcz⟩ : ∃ cz, Lib.ctz 64 L0 = cz := ⟨_, rfl⟩
              rw [hcz] at HTZ hS1 hS2
              have HS1 := Lib.hid hS1
              clear HZ HS h0 hS1 hcz
              go_wp2_with (first | (go_at_call 42; refine (HMK.out _).mono ?_; rintro e w' ⟨rfl, hb⟩; obtain ⟨x, rfl⟩ := bx_of hb; clear hb) | (go_at_call 43; refine (HTZ.out _ (HBZ.out.trans (x.below.mono HBZ.out.size))).mono ?_; rintro e w' ⟨rfl, rfl⟩))
              go_ret
              rw [HS1.out]
              exact ⟨ret_int (by omega), HDN.out _ (HBZ.out.trans (x.below.mono HBZ.out.size))⟩
        exact absurd (Bool.eq_false_iff.2 hsettrue) hsetfalse
      · obtain rfl : k = m := by omega
        have hR : Hid (nextB (xs.drop a) n f set = -1) := nextB_none (fun q h1 h2 => HNO.out q (by simpa using h1) (by omega) h2)
        clear hB hno
        go_wp2_with (go_at_call 39; refine (HWD.out _).mono ?_; rintro e w' ⟨rfl, hb⟩; obtain ⟨x, rfl⟩ := bx_of hb; clear hb)
        go_ret
        rw [hR.out]
        exact ⟨rfl, HB0.out.trans ((HB.out.trans (x.below.mono HB.out.size)).mono HB0.out.size)⟩
end Go.Proofs.YtbhkdngbgokilaaDoor
