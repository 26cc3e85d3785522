/- Contract of Change of a bitmap, when each bit is a bit of the bitmap and named once. -/
import Derived.Test.YtbhkdngbgokilaaDoorBmE
import Derived.Test.YtbhkdngbgokilaaDoorPure
import Derived.Test.YtbhkdngbgokilaaDoorPerm
namespace Go.Proofs.YtbhkdngbgokilaaDoor
open Go.RowKit
set_option linter.unusedVariables false

theorem chOne_no {ws : List Int} {a : Nat} {f g : Nat → Int} {k : Nat} (h : touB f g k = false) : chOne ws a f g k = [] := by unfold chOne; rw [h]; rfl
theorem chOne_yes {ws : List Int} {a : Nat} {f g : Nat → Int} {k : Nat} (h : touB f g k = true) : chOne ws a f g k = [(8 * ((a + k : Nat) : Int), newV (ws[k]?.getD 0) f g k)] := by unfold chOne; rw [h]; rfl
set_option maxRecDepth 100000 in
set_option maxHeartbeats 4000000 in
theorem bmChange_ok (w : World) (T : Nat) (xs : List Int) (a n : Nat) (hL : LdV T xs w) (hE : ∀ W, Below w.heap.size w W → Calls Tryd.prog 17 #[.pointer (some ⟨T, 0, none⟩)] W fun e w' => e = .returned (.int .i64 0) ∧ W = w') (hf : FitsB xs) (ha : a + (n + 63) / 64 ≤ xs.length) (hx : xs.length ≤ 10000) (hn : n ≤ 512)
    (A1 : Option Addr) (n1 c1 : Nat) (l1 : List Int) (hl1 : l1.length = n1) (hn1 : n1 ≤ 9223372036854775807) (hR1 : Rd .i64 w A1 l1) (A2 : Option Addr) (n2 c2 : Nat) (l2 : List Int) (hl2 : l2.length = n2) (hn2 : n2 ≤ 9223372036854775807) (hR2 : Rd .i64 w A2 l2)
    (hok1 : okL n [] l1 = true) (hok2 : okL n (l1.map Int.toNat) l2 = true) :
    Calls Tryd.prog 15 #[bmv T (8 * (a : Int)) n, .slice A1 n1 c1, .slice A2 n2 c2] w fun e w' => ∃ f g, Msk f (l1.map Int.toNat) ∧ Msk g (l2.map Int.toNat) ∧ ChPost w (xs.drop a) a n f g e w' := by
  have HN1 := Lib.hid (chNote1 w A1 n1 c1 l1 hl1 hn1 hR1 T (8 * (a : Int)) n hn)
  have HN2 := Lib.hid (chNote2 w A2 n2 c2 l2 hl2 hn2 hR2 T (8 * (a : Int)) n hn)
  have HB0 := Lib.hid (chW0_below w T (8 * (a : Int)) n)
  have HW0 : Hid (chW0 w T (8 * (a : Int)) n = ((w.alloc (.cells #[.iface 28 (.pointer (some ⟨T, 0, none⟩)), .int .u64 (8 * (a : Int)), .int .i64 n] 36)).alloc (.cells #[.int .u64 0, .int .u64 0, .int .u64 0, .int .u64 0, .int .u64 0, .int .u64 0, .int .u64 0, .int .u64 0] 79)).alloc (.cells #[.int .u64 0, .int .u64 0, .int .u64 0, .int .u64 0, .int .u64 0, .int .u64 0, .int .u64 0, .int .u64 0] 79)) := rfl
  have HBX : Hid (CB (chW0 w T (8 * (a : Int)) n) w.heap.size 36 #[.iface 28 (.pointer (some ⟨T, 0, none⟩)), .int .u64 (8 * (a : Int)), .int .i64 n]) := ((CB.new _ _ _).alloc _).alloc _
  have HL := Lib.hid hL
  have HE := Lib.hid hE
  have HF := Lib.hid hf
  have HWD := Lib.hid (fun W => bmWords W T (8 * (a : Int)) n hn)
  obtain ⟨m, hm⟩ : ∃ m, (n + 63) / 64 = m := ⟨_, rfl⟩
  have hm' : 64 * m < n + 64 ∧ n ≤ 64 * m := by omega
  rw [hm] at HWD ha
  have HMM := Lib.hid hm
  rw [hok1] at HN1
  clear hR1 hR2 hL hE hf hok1 hm
  unfold bmv at HWD ⊢
  go_enter Tryd.func15, Tryd.ntmps15
  go_upto_region 3 with (fail)
  rw [← HW0.out]
  have HB0' : Hid (w.heap.size + 3 ≤ (chW0 w T (8 * (a : Int)) n).heap.size) := by show _ ≤ _; rw [HW0.out]; simp
  obtain ⟨W, hW⟩ : ∃ W, chW0 w T (8 * (a : Int)) n = W := ⟨_, rfl⟩
  rw [hW] at HN1 HN2 HB0 HBX HB0'
  rw [hW]
  clear hW HW0
  go_upto_region 5 with (first
    | (go_at_call 38; refine HN1.out.mono ?_; rintro e w1 ⟨rfl, hI1, hC1⟩; have HC1 := Lib.hid hC1; have HN3 := Lib.hid (HN2.out w1 _ (hI1 (by trivial))); rw [hok2] at HN3; clear hC1 hI1 HN1 HN2)
    | (go_at_call 38; refine HN3.out.mono ?_; rintro e w2 ⟨rfl, hI2, hC2⟩; have HC2 := Lib.hid hC2; have HI2 := Lib.hid (hI2 (by trivial)); clear hC2 hI2 HN3))
  obtain ⟨f, g, hOn, hOff, hMf, hMg, _⟩ := HI2.out
  have hMf' : Msk f (l1.map Int.toNat) := by simpa [onB] using hMf
  have hMg' : Msk g (l2.map Int.toNat) := by simpa [onB] using hMg
  have HMF := Lib.hid hMf'
  have HMG := Lib.hid hMg'
  have hbx2 := (HBX.out.ch HC1.out (fun h => by have : w.heap.size = w.heap.size + 1 := h; omega)).ch HC2.out (fun h => by have : w.heap.size = w.heap.size + 1 + 1 := h; omega)
  have hb1 := HB0.out.trans (HC1.out.to_below HB0.out.size (fun b hb => by rw [show b = w.heap.size + 1 from hb]; omega))
  have hb2 := hb1.trans (HC2.out.to_below hb1.size (fun b hb => by rw [show b = w.heap.size + 1 + 1 from hb]; omega))
  have HB2 := Lib.hid hb2
  have HON := Lib.hid hOn
  have HOF := Lib.hid hOff
  have HBX2 := Lib.hid hbx2
  obtain ⟨gb, hgb⟩ : ∃ gb, w.heap.size = gb := ⟨_, rfl⟩
  obtain ⟨gn, hgn⟩ : ∃ gn, w.heap.size + 1 = gn := ⟨_, rfl⟩
  obtain ⟨gf, hgf⟩ : ∃ gf, w.heap.size + 1 + 1 = gf := ⟨_, rfl⟩
  have hw2 : w.heap.size ≤ w2.heap.size := hb2.size
  rw [hgf] at HOF
  rw [hgn] at HON
  rw [hgb] at HBX2
  rw [hgf, hgn, hgb]
  clear hMf hMg hMf' hMg' hOn hOff hbx2 hb1 hb2 HI2 HC1 HC2 HB0 HB0' HBX hgf hgn hgb
  have b0 := HBX2.out.cell 0
  have b1 := HBX2.out.cell 1
  have b2 := HBX2.out.cell 2
  have bl := HBX2.out.lt
  have HER2 := Lib.hid (HE.out w2 HB2.out)
  go_upto_region 13 with (first
    | (go_at_call 17; refine HER2.out.mono ?_; rintro e w' ⟨rfl, rfl⟩)
    | (go_at_call 39; refine (HWD.out _).mono ?_; rintro e w' ⟨rfl, hb⟩; obtain ⟨x, rfl⟩ := bx_of hb; clear hb))
  have hB3 : Below w.heap.size w x.w := HB2.out.trans (x.below.mono hw2)
  have hon3 := HON.out.bx x
  have hof3 := HOF.out.bx x
  have hbx3 := HBX2.out.bx x
  obtain ⟨W3, hW3⟩ : ∃ W3, x.w = W3 := ⟨_, rfl⟩
  rw [hW3] at hB3 hon3 hof3 hbx3
  rw [hW3]
  have HB3 := Lib.hid hB3
  have HON3 := Lib.hid hon3
  have HOF3 := Lib.hid hof3
  have HBX3 := Lib.hid hbx3
  clear hW3 hB3 hon3 hof3 hbx3 HON HOF HBX2 b0 b1 b2 bl HER2 HWD HB2
  go_loopw [39, 12, 13, 14, 15, 40, 41, 42, 43, 44, 45, 46, 47, 48, 49, 50, 51, 52, 53, 54, 55, 56, 57, 58, 59, 60, 61, 62, 63, 64, 65, 66, 67, 68, 69, 70, 71, 72, 73, 74, 75, 76, 77, 78, 79, 80, 81, 82, 83, 84, 85, 86, 87, 88, 89] (fun i s b _ _ _ _ _ _ _ _ _ _ _ _ _ _ _ _ _ _ _ _ _ _ _ _ _ _ _ _ _ _ _ _ _ _ _ _ _ _ _ _ _ _ _ _ _ _ _ _ _ _ _ _ wr => ∃ (k : Nat) (A : Option Addr) (c : Nat), k ≤ m ∧ i = .int .i64 k ∧ s = .slice A (chL (xs.drop a) a f g k).length c ∧ b = .bool (chF (xs.drop a) f g k) ∧ Sl 47 2 wr A (chL (xs.drop a) a f g k).length c (wcells (chL (xs.drop a) a f g k)) ∧ (∀ b, OwnB A b → W3.heap.size ≤ b) ∧ Below W3.heap.size W3 wr) (fun i _ _ _ _ _ _ _ _ _ _ _ _ _ _ _ _ _ _ _ _ _ _ _ _ _ _ _ _ _ _ _ _ _ _ _ _ _ _ _ _ _ _ _ _ _ _ _ _ _ _ _ _ _ _ _ => m - (intOf i).toNat)
  case atStart => exact ⟨0, none, 0, by omega, rfl, rfl, rfl, Sl.nil, fun b hb => by simp [OwnB] at hb, Below.refl _ _⟩
  case round =>
    obtain ⟨k, A, c, hk, rfl, rfl, rfl, hS, hO, hB⟩ := hrel
    have HS := Lib.hid hS
    have HO := Lib.hid hO
    have HB := Lib.hid hB
    have hbw : Below w.heap.size w wr := HB3.out.trans (hB.mono HB3.out.size)
    have hon := HON3.out.below hB
    have hof := HOF3.out.below hB
    have hbx := HBX3.out.below hB
    have b0 := hbx.cell 0
    have b1 := hbx.cell 1
    have b2 := hbx.cell 2
    have bl := hbx.lt
    have onl := hon.lt
    have ofl := hof.lt
    clear hS hO hB
    by_cases hlt : k < m
    · have hk8 : k < 8 := by omega
      have hkn : 64 * k < n := by omega
      have hlt' : (k : Int) < (m : Int) := by omega
      have con : wr.cell? ⟨gn, k, none⟩ = some (.int .u64 (f k)) := (hon.cell _).trans (a8_get f hk8)
      have cof : wr.cell? ⟨gf, k, none⟩ = some (.int .u64 (g k)) := (hof.cell _).trans (a8_get g hk8)
      have HLD := Lib.hid (bmLd (k := k) (HL.out.below hbw) (by rw [HMM.out]; exact ha) hkn)
      have HAT := Lib.hid (fun W => bmAt W T a k n (by omega))
      unfold bmv at HAT
      have hvr : 0 ≤ (xs.drop a)[k]?.getD 0 ∧ (xs.drop a)[k]?.getD 0 < 18446744073709551616 := by
        rw [List.getElem?_drop]
        exact HF.out.getD _
      have hll := chL_le (xs.drop a) a f g k
      have HLS := Lib.hid (chL_step (xs.drop a) a f g k)
      have HFS := Lib.hid (chF_step (xs.drop a) f g k)
      have hu64 : ∀ z, 0 ≤ z → z < 1000 → True := fun _ _ _ => trivial
      clear hon hof hbx hu64
      cases ht : touB f g k with
      | false =>
        rw [ht] at HFS
        have H1 := Lib.hid (chOne_no (ws := xs.drop a) (a := a) ht)
        have htt : (bits .or .u64 (f k) (g k) == 0) = true := by unfold touB at ht; simpa using ht
        clear ht hvr
        go_upto_region 15 with (fail)
        refine wp_region_quiet_lit (by kernel_rfl) (by kernel_rfl) ?_
        repeat (go_big_quiet_step (fail))
        refine wpQuiet_nil ?_
        rintro _ ⟨nq, rfl⟩
        go_wp2
        refine ⟨⟨k + 1, A, c, by omega, by go_num, ?_, ?_, ?_, HO.out, below_drewN HB.out nq⟩, by simp [intOf]; omega⟩
        · rw [HLS.out, H1.out, List.append_nil]
        · rw [HFS.out]; simp
        · rw [HLS.out, H1.out, List.append_nil]; exact HS.out.keep (fun _ _ => rfl)
      | true =>
        rw [ht] at HFS
        have H1 := Lib.hid (chOne_yes (ws := xs.drop a) (a := a) ht)
        have htt : (bits .or .u64 (f k) (g k) == 0) = false := by unfold touB at ht; simpa using ht
        obtain ⟨v, hv⟩ := Int.eq_ofNat_of_zero_le hvr.1
        rw [hv] at hvr HLD H1 HFS
        have hxor := xor_all v (by omega)
        have HFIT : Hid (fitB (v : Int) f g k = (!(bits .and .u64 (v : Int) (f k) != 0) && !(bits .and .u64 ((18446744073709551615 - v : Nat) : Int) (g k) != 0))) := by show _ = _; unfold fitB; rw [Int.toNat_natCast]
        have hnv : Hid (newV (v : Int) f g k = bits .or .u64 (bits .andNot .u64 (v : Int) (g k)) (f k)) := rfl
        clear ht hv hvr
        go_upto_region 15 with (fail)
        refine wp_region_quiet_lit (by kernel_rfl) (by kernel_rfl) ?_
        repeat (go_big_quiet_step (fail))
        refine wpQuiet_nil ?_
        rintro _ ⟨nq, rfl⟩
        go_upto_region 16 with (fail)
        refine wp_region_bx (by kernel_rfl) (by kernel_rfl) ?_
        repeat (go_big_quiet_step (first | (go_at_call 40; exact bx_call (HAT.out _)) | (go_at_call 32; exact bx_calle (HLD.out _ (by (repeat (first | with_reducible exact Below.refl _ _ | with_reducible refine bl_alloc ?_ _ | with_reducible refine bl_drew ?_ | with_reducible refine bl_drewN ?_ _ | with_reducible refine bl_bx ?_ _ | with_reducible exact BX.below _ | with_reducible refine bl_set ?_ (by first | (exact Nat.le_refl _) | (simp; done) | (simp; omega)) _ | assumption)))))))
        refine wpQuiet_nil ?_
        rintro _ ⟨x, rfl⟩
        have hbx4 : Below wr.heap.size wr x.w := by (repeat (first | with_reducible exact Below.refl _ _ | with_reducible refine bl_alloc ?_ _ | with_reducible refine bl_drew ?_ | with_reducible refine bl_drewN ?_ _ | with_reducible refine bl_bx ?_ _ | with_reducible exact BX.below _ | with_reducible refine bl_set ?_ (by first | (exact Nat.le_refl _) | (simp; done) | (simp; omega)) _ | assumption))
        obtain ⟨W4, hW4⟩ : ∃ W4, x.w = W4 := ⟨_, rfl⟩
        rw [hW4] at hbx4
        rw [hW4]
        have hB4 := HB.out.trans (hbx4.mono HB.out.size)
        have hon := HON3.out.below hB4
        have hof := HOF3.out.below hB4
        have hbx := HBX3.out.below hB4
        have HB4 := Lib.hid hB4
        have HX4 := Lib.hid hbx4
        clear hW4 b0 b1 b2 bl onl ofl con cof hbx4 hB4
        have b0 := hbx.cell 0
        have b1 := hbx.cell 1
        have b2 := hbx.cell 2
        have bl := hbx.lt
        have onl := hon.lt
        have ofl := hof.lt
        have con : W4.cell? ⟨gn, k, none⟩ = some (.int .u64 (f k)) := (hon.cell _).trans (a8_get f hk8)
        have cof : W4.cell? ⟨gf, k, none⟩ = some (.int .u64 (g k)) := (hof.cell _).trans (a8_get g hk8)
        clear hon hof hbx
        obtain ⟨of, hof⟩ : ∃ z, 8 * ((a + k : Nat) : Int) = z := ⟨_, rfl⟩
        rw [hof] at HAT H1
        clear hof
        obtain ⟨cl, hcl⟩ : ∃ cl, (chL (xs.drop a) a f g k).length = cl := ⟨_, rfl⟩
        have HCL := Lib.hid hcl
        rw [hcl] at hll
        have HS4 : Hid (∀ W5, Below W4.heap.size W4 W5 → Sl 47 2 W5 A cl c (wcells (chL (xs.drop a) a f g k))) := by
          intro W5 hW5
          have h5 := HX4.out.trans (hW5.mono HX4.out.size)
          have := HS.out.keep (fun b hb => h5.block b (HS.out.lt hb))
          rwa [hcl] at this
        rw [hcl]
        have HEND : Hid (∀ (A2 : Option Addr) (c2 : Nat) (W5 W6 : World) (bb : Bool), Below W4.heap.size W4 W5 → bb = chF (xs.drop a) f g (k + 1) → Sl 47 2 W6 A2 (cl + 1) c2 (wcells (chL (xs.drop a) a f g k) ++ [.int .u64 of, .int .u64 (bits .or .u64 (bits .andNot .u64 (v : Int) (g k)) (f k))]) → Ch (OwnB A) W5 W6 → (∀ b, OwnB A2 b → OwnB A b ∨ b = W5.heap.size) →
            (Value.slice A2 (cl + 1) c2 = .slice A2 (chL (xs.drop a) a f g (k + 1)).length c2 ∧ Value.bool bb = .bool (chF (xs.drop a) f g (k + 1)) ∧ Sl 47 2 W6 A2 (chL (xs.drop a) a f g (k + 1)).length c2 (wcells (chL (xs.drop a) a f g (k + 1))) ∧ (∀ b, OwnB A2 b → W3.heap.size ≤ b) ∧ Below W3.heap.size W3 W6)) := by
          intro A2 c2 W5 W6 bb hW5 hbb hS6 hC6 hO6
          have e1 : (chL (xs.drop a) a f g (k + 1)).length = cl + 1 := by rw [HLS.out, H1.out, List.length_append, HCL.out]; rfl
          have hb5 := HB4.out.trans (hW5.mono HB4.out.size)
          rw [e1, hbb]
          refine ⟨rfl, rfl, ?_, fun b hb => ?_, bl_ch hb5 hC6 (fun b hb => HO.out b hb)⟩
          · rw [HLS.out, H1.out, wcells_snoc, hnv.out]; exact hS6
          · rcases hO6 b hb with h | h
            · exact HO.out b h
            · have := hb5.size; omega
        have HWR := Lib.hid (fun (W : World) => cells_two W 47 (.int .u64 of) (.int .u64 (bits .or .u64 (bits .andNot .u64 (v : Int) (g k)) (f k))))
        clear hcl
        have hsplit : (bits .and .u64 (v : Int) (f k) != 0) = true ∨ ((bits .and .u64 (v : Int) (f k) != 0) = false ∧ (bits .and .u64 ((18446744073709551615 - v : Nat) : Int) (g k) != 0) = true) ∨ ((bits .and .u64 (v : Int) (f k) != 0) = false ∧ (bits .and .u64 ((18446744073709551615 - v : Nat) : Int) (g k) != 0) = false) := by
          cases (bits .and .u64 (v : Int) (f k) != 0) <;> cases (bits .and .u64 ((18446744073709551615 - v : Nat) : Int) (g k) != 0) <;> simp
        obtain ⟨nv, hnvv⟩ : ∃ z, 18446744073709551615 - v = z := ⟨_, rfl⟩
        rw [hnvv] at hsplit hxor HFIT
        clear hnvv
        rcases hsplit with hc1 | ⟨hc1, hc2⟩ | ⟨hc1, hc2⟩
        · obtain ⟨bb, hbb⟩ : ∃ bb, chF (xs.drop a) f g (k + 1) = bb := ⟨_, rfl⟩
          have HFV : Hid (chF (xs.drop a) f g (k + 1) = (chF (xs.drop a) f g k && (!true || fitB (v : Int) f g k))) := HFS.out
          first | rw [HFIT.out, hc1, hc2] at HFV | rw [HFIT.out, hc1] at HFV
          have HFV2 := Lib.hid (show _ = _ from by simpa using HFV.out)
          obtain ⟨fk, hfk⟩ : ∃ fk, chF (xs.drop a) f g k = fk := ⟨_, rfl⟩
          try rw [hfk] at HFV2
          rw [hfk]
          clear hbb hfk HFV
          go_upto_region 19 with (fail)
          refine ord_makes [] [.p [0, 2, 4, 5, 9], .q [1, 3, 6, 7, 8, 10, 11, 12, 13], .h [14, 15, 16]] (by kernel_rfl) (fun _ _ d _ _ h => by cases d <;> exact h) (by kernel_rfl) ?_
          dsimp only [pick, List.filterMap, List.getElem?_cons_zero, List.getElem?_cons_succ]
          refine wpQuiet_nil ?_
          rintro _ ⟨x0, rfl⟩
          have hbx5 : Below W4.heap.size W4 x0.w := x0.below
          obtain ⟨W5, hW5⟩ : ∃ W5, x0.w = W5 := ⟨_, rfl⟩
          rw [hW5] at hbx5
          rw [hW5]
          have hB5 := HB4.out.trans (hbx5.mono HB4.out.size)
          have hon := HON3.out.below hB5
          have hof := HOF3.out.below hB5
          have hbx := HBX3.out.below hB5
          have HX5 := Lib.hid hbx5
          clear hW5 b0 b1 b2 bl onl ofl con cof hbx5 hB5
          have b0 := hbx.cell 0
          have b1 := hbx.cell 1
          have b2 := hbx.cell 2
          have bl := hbx.lt
          have onl := hon.lt
          have ofl := hof.lt
          have con : W5.cell? ⟨gn, k, none⟩ = some (.int .u64 (f k)) := (hon.cell _).trans (a8_get f hk8)
          have cof : W5.cell? ⟨gf, k, none⟩ = some (.int .u64 (g k)) := (hof.cell _).trans (a8_get g hk8)
          clear hon hof hbx
          with_reducible refine part_pure ?_
          dsimp only [pick, List.filterMap, List.getElem?_cons_zero, List.getElem?_cons_succ]
          (repeat (first | (refine pure_ex rfl ?_; apply Exists.intro; apply And.intro; (intro w; go_simp; rfl); simp only [Act.put, List.setIfInBounds_toArray, List.set_cons_succ, List.set_cons_zero]) | (refine pure_skip rfl ?_; simp only [Act.put, List.setIfInBounds_toArray, List.set_cons_succ, List.set_cons_zero]))); refine pure_nil ?_
          with_reducible refine part_makes ?_
          dsimp only [pick, List.filterMap, List.getElem?_cons_zero, List.getElem?_cons_succ]
          (repeat (go_big_quiet_step ((go_at_call 40; exact bx_call (HAT.out _)))))
          refine wpQuiet_nil ?_
          rintro _ ⟨x, rfl⟩
          with_reducible refine part_hard ?_
          dsimp only [pick, List.filterMap, List.getElem?_cons_zero, List.getElem?_cons_succ]
          go_wp2_with (at_builtin; refine wpList_append_sl rfl (.tmp 73) (.tmp 87) 41 rfl 47 (.agg #[.int .u64 0, .int .u64 0]) 2 16 rfl (by omega) Tryd.underlying41 info_write (by omega) A cl c (wcells (chL (xs.drop a) a f g k)) ⟨x.w.heap.size, 0, none⟩ 1 1 [.int .u64 of, .int .u64 (bits .or .u64 (bits .andNot .u64 (v : Int) (g k)) (f k))] rfl rfl (HS4.out _ (HX5.out.trans ((show Below W5.heap.size W5 _ by (repeat (first | with_reducible exact Below.refl _ _ | with_reducible refine bl_alloc ?_ _ | with_reducible refine bl_drew ?_ | with_reducible refine bl_drewN ?_ _ | with_reducible refine bl_bx ?_ _ | with_reducible exact BX.below _ | with_reducible refine bl_set ?_ (by first | (exact Nat.le_refl _) | (simp; done) | (simp; omega)) _ | assumption))).mono HX5.out.size))) rfl (by omega) (HWR.out _) (two_one _ _) (by omega) ?_; intro A3 c3 w3 HO3 HC3 HW3 HG3)
          with_reducible refine segs_end ?_
          with_reducible refine part_nil ?_
          go_wp2
          obtain ⟨y1, y2, y3, y4, y5⟩ := HEND.out A3 c3 _ w3 _ (HX5.out.trans ((show Below W5.heap.size W5 _ by (repeat (first | with_reducible exact Below.refl _ _ | with_reducible refine bl_alloc ?_ _ | with_reducible refine bl_drew ?_ | with_reducible refine bl_drewN ?_ _ | with_reducible refine bl_bx ?_ _ | with_reducible exact BX.below _ | with_reducible refine bl_set ?_ (by first | (exact Nat.le_refl _) | (simp; done) | (simp; omega)) _ | assumption))).mono HX5.out.size)) HFV2.out.symm HO3.out HC3.out (fun b hb => by rcases HW3.out b hb with h | h; exact .inl h; right; simpa using h)
          exact ⟨⟨k + 1, A3, c3, by omega, by go_num, y1, y2, y3, y4, y5⟩, by simp [intOf]; omega⟩
        · obtain ⟨bb, hbb⟩ : ∃ bb, chF (xs.drop a) f g (k + 1) = bb := ⟨_, rfl⟩
          have HFV : Hid (chF (xs.drop a) f g (k + 1) = (chF (xs.drop a) f g k && (!true || fitB (v : Int) f g k))) := HFS.out
          first | rw [HFIT.out, hc1, hc2] at HFV | rw [HFIT.out, hc1] at HFV
          have HFV2 := Lib.hid (show _ = _ from by simpa using HFV.out)
          obtain ⟨fk, hfk⟩ : ∃ fk, chF (xs.drop a) f g k = fk := ⟨_, rfl⟩
          try rw [hfk] at HFV2
          rw [hfk]
          clear hbb hfk HFV
          go_upto_region 19 with (fail)
          refine ord_makes [] [.p [0, 2, 4, 5, 9], .q [1, 3, 6, 7, 8, 10, 11, 12, 13], .h [14, 15, 16]] (by kernel_rfl) (fun _ _ d _ _ h => by cases d <;> exact h) (by kernel_rfl) ?_
          dsimp only [pick, List.filterMap, List.getElem?_cons_zero, List.getElem?_cons_succ]
          refine wpQuiet_nil ?_
          rintro _ ⟨x0, rfl⟩
          have hbx5 : Below W4.heap.size W4 x0.w := x0.below
          obtain ⟨W5, hW5⟩ : ∃ W5, x0.w = W5 := ⟨_, rfl⟩
          rw [hW5] at hbx5
          rw [hW5]
          have hB5 := HB4.out.trans (hbx5.mono HB4.out.size)
          have hon := HON3.out.below hB5
          have hof := HOF3.out.below hB5
          have hbx := HBX3.out.below hB5
          have HX5 := Lib.hid hbx5
          clear hW5 b0 b1 b2 bl onl ofl con cof hbx5 hB5
          have b0 := hbx.cell 0
          have b1 := hbx.cell 1
          have b2 := hbx.cell 2
          have bl := hbx.lt
          have onl := hon.lt
          have ofl := hof.lt
          have con : W5.cell? ⟨gn, k, none⟩ = some (.int .u64 (f k)) := (hon.cell _).trans (a8_get f hk8)
          have cof : W5.cell? ⟨gf, k, none⟩ = some (.int .u64 (g k)) := (hof.cell _).trans (a8_get g hk8)
          clear hon hof hbx
          with_reducible refine part_pure ?_
          dsimp only [pick, List.filterMap, List.getElem?_cons_zero, List.getElem?_cons_succ]
          (repeat (first | (refine pure_ex rfl ?_; apply Exists.intro; apply And.intro; (intro w; go_simp; rfl); simp only [Act.put, List.setIfInBounds_toArray, List.set_cons_succ, List.set_cons_zero]) | (refine pure_skip rfl ?_; simp only [Act.put, List.setIfInBounds_toArray, List.set_cons_succ, List.set_cons_zero]))); refine pure_nil ?_
          with_reducible refine part_makes ?_
          dsimp only [pick, List.filterMap, List.getElem?_cons_zero, List.getElem?_cons_succ]
          (repeat (go_big_quiet_step ((go_at_call 40; exact bx_call (HAT.out _)))))
          refine wpQuiet_nil ?_
          rintro _ ⟨x, rfl⟩
          with_reducible refine part_hard ?_
          dsimp only [pick, List.filterMap, List.getElem?_cons_zero, List.getElem?_cons_succ]
          go_wp2_with (at_builtin; refine wpList_append_sl rfl (.tmp 73) (.tmp 87) 41 rfl 47 (.agg #[.int .u64 0, .int .u64 0]) 2 16 rfl (by omega) Tryd.underlying41 info_write (by omega) A cl c (wcells (chL (xs.drop a) a f g k)) ⟨x.w.heap.size, 0, none⟩ 1 1 [.int .u64 of, .int .u64 (bits .or .u64 (bits .andNot .u64 (v : Int) (g k)) (f k))] rfl rfl (HS4.out _ (HX5.out.trans ((show Below W5.heap.size W5 _ by (repeat (first | with_reducible exact Below.refl _ _ | with_reducible refine bl_alloc ?_ _ | with_reducible refine bl_drew ?_ | with_reducible refine bl_drewN ?_ _ | with_reducible refine bl_bx ?_ _ | with_reducible exact BX.below _ | with_reducible refine bl_set ?_ (by first | (exact Nat.le_refl _) | (simp; done) | (simp; omega)) _ | assumption))).mono HX5.out.size))) rfl (by omega) (HWR.out _) (two_one _ _) (by omega) ?_; intro A3 c3 w3 HO3 HC3 HW3 HG3)
          with_reducible refine segs_end ?_
          with_reducible refine part_nil ?_
          go_wp2
          obtain ⟨y1, y2, y3, y4, y5⟩ := HEND.out A3 c3 _ w3 _ (HX5.out.trans ((show Below W5.heap.size W5 _ by (repeat (first | with_reducible exact Below.refl _ _ | with_reducible refine bl_alloc ?_ _ | with_reducible refine bl_drew ?_ | with_reducible refine bl_drewN ?_ _ | with_reducible refine bl_bx ?_ _ | with_reducible exact BX.below _ | with_reducible refine bl_set ?_ (by first | (exact Nat.le_refl _) | (simp; done) | (simp; omega)) _ | assumption))).mono HX5.out.size)) HFV2.out.symm HO3.out HC3.out (fun b hb => by rcases HW3.out b hb with h | h; exact .inl h; right; simpa using h)
          exact ⟨⟨k + 1, A3, c3, by omega, by go_num, y1, y2, y3, y4, y5⟩, by simp [intOf]; omega⟩
        · obtain ⟨bb, hbb⟩ : ∃ bb, chF (xs.drop a) f g (k + 1) = bb := ⟨_, rfl⟩
          have HFV : Hid (chF (xs.drop a) f g (k + 1) = (chF (xs.drop a) f g k && (!true || fitB (v : Int) f g k))) := HFS.out
          first | rw [HFIT.out, hc1, hc2] at HFV | rw [HFIT.out, hc1] at HFV
          have HFV2 := Lib.hid (show _ = _ from by simpa using HFV.out)
          obtain ⟨fk, hfk⟩ : ∃ fk, chF (xs.drop a) f g k = fk := ⟨_, rfl⟩
          try rw [hfk] at HFV2
          rw [hfk]
          clear hbb hfk HFV
          go_upto_region 19 with (fail)
          refine ord_makes [] [.p [0, 2, 4, 5, 9], .q [1, 3, 6, 7, 8, 10, 11, 12, 13], .h [14, 15, 16]] (by kernel_rfl) (fun _ _ d _ _ h => by cases d <;> exact h) (by kernel_rfl) ?_
          dsimp only [pick, List.filterMap, List.getElem?_cons_zero, List.getElem?_cons_succ]
          refine wpQuiet_nil ?_
          rintro _ ⟨x0, rfl⟩
          have hbx5 : Below W4.heap.size W4 x0.w := x0.below
          obtain ⟨W5, hW5⟩ : ∃ W5, x0.w = W5 := ⟨_, rfl⟩
          rw [hW5] at hbx5
          rw [hW5]
          have hB5 := HB4.out.trans (hbx5.mono HB4.out.size)
          have hon := HON3.out.below hB5
          have hof := HOF3.out.below hB5
          have hbx := HBX3.out.below hB5
          have HX5 := Lib.hid hbx5
          clear hW5 b0 b1 b2 bl onl ofl con cof hbx5 hB5
          have b0 := hbx.cell 0
          have b1 := hbx.cell 1
          have b2 := hbx.cell 2
          have bl := hbx.lt
          have onl := hon.lt
          have ofl := hof.lt
          have con : W5.cell? ⟨gn, k, none⟩ = some (.int .u64 (f k)) := (hon.cell _).trans (a8_get f hk8)
          have cof : W5.cell? ⟨gf, k, none⟩ = some (.int .u64 (g k)) := (hof.cell _).trans (a8_get g hk8)
          clear hon hof hbx
          with_reducible refine part_pure ?_
          dsimp only [pick, List.filterMap, List.getElem?_cons_zero, List.getElem?_cons_succ]
          (repeat (first | (refine pure_ex rfl ?_; apply Exists.intro; apply And.intro; (intro w; go_simp; rfl); simp only [Act.put, List.setIfInBounds_toArray, List.set_cons_succ, List.set_cons_zero]) | (refine pure_skip rfl ?_; simp only [Act.put, List.setIfInBounds_toArray, List.set_cons_succ, List.set_cons_zero]))); refine pure_nil ?_
          with_reducible refine part_makes ?_
          dsimp only [pick, List.filterMap, List.getElem?_cons_zero, List.getElem?_cons_succ]
          (repeat (go_big_quiet_step ((go_at_call 40; exact bx_call (HAT.out _)))))
          refine wpQuiet_nil ?_
          rintro _ ⟨x, rfl⟩
          with_reducible refine part_hard ?_
          dsimp only [pick, List.filterMap, List.getElem?_cons_zero, List.getElem?_cons_succ]
          go_wp2_with (at_builtin; refine wpList_append_sl rfl (.tmp 73) (.tmp 87) 41 rfl 47 (.agg #[.int .u64 0, .int .u64 0]) 2 16 rfl (by omega) Tryd.underlying41 info_write (by omega) A cl c (wcells (chL (xs.drop a) a f g k)) ⟨x.w.heap.size, 0, none⟩ 1 1 [.int .u64 of, .int .u64 (bits .or .u64 (bits .andNot .u64 (v : Int) (g k)) (f k))] rfl rfl (HS4.out _ (HX5.out.trans ((show Below W5.heap.size W5 _ by (repeat (first | with_reducible exact Below.refl _ _ | with_reducible refine bl_alloc ?_ _ | with_reducible refine bl_drew ?_ | with_reducible refine bl_drewN ?_ _ | with_reducible refine bl_bx ?_ _ | with_reducible exact BX.below _ | with_reducible refine bl_set ?_ (by first | (exact Nat.le_refl _) | (simp; done) | (simp; omega)) _ | assumption))).mono HX5.out.size))) rfl (by omega) (HWR.out _) (two_one _ _) (by omega) ?_; intro A3 c3 w3 HO3 HC3 HW3 HG3)
          with_reducible refine segs_end ?_
          with_reducible refine part_nil ?_
          go_wp2
          obtain ⟨y1, y2, y3, y4, y5⟩ := HEND.out A3 c3 _ w3 _ (HX5.out.trans ((show Below W5.heap.size W5 _ by (repeat (first | with_reducible exact Below.refl _ _ | with_reducible refine bl_alloc ?_ _ | with_reducible refine bl_drew ?_ | with_reducible refine bl_drewN ?_ _ | with_reducible refine bl_bx ?_ _ | with_reducible exact BX.below _ | with_reducible refine bl_set ?_ (by first | (exact Nat.le_refl _) | (simp; done) | (simp; omega)) _ | assumption))).mono HX5.out.size)) HFV2.out.symm HO3.out HC3.out (fun b hb => by rcases HW3.out b hb with h | h; exact .inl h; right; simpa using h)
          exact ⟨⟨k + 1, A3, c3, by omega, by go_num, y1, y2, y3, y4, y5⟩, by simp [intOf]; omega⟩
    · obtain rfl : k = m := by omega
      have HERR := Lib.hid (HE.out wr hbw)
      cases hfin : chF (xs.drop a) f g k with
      | false =>
        have HFIN := Lib.hid hfin
        clear hfin hon hof hbx
        go_wp2_with (go_at_call 17; refine HERR.out.mono ?_; rintro e w' ⟨rfl, rfl⟩)
        go_ret2
        refine ⟨f, g, HMF.out, HMG.out, HB3.out.trans (HB.out.mono HB3.out.size), .inl ?_⟩
        rw [HMM.out]
        exact ⟨HFIN.out, rfl⟩
      | true =>
        have HFIN := Lib.hid hfin
        clear hfin hon hof hbx
        go_wp2_with (go_at_call 17; refine HERR.out.mono ?_; rintro e w' ⟨rfl, rfl⟩)
        go_ret2
        refine ⟨f, g, HMF.out, HMG.out, HB3.out.trans (HB.out.mono HB3.out.size), .inr ?_⟩
        rw [HMM.out]
        exact ⟨HFIN.out, A, c, rfl, HS.out, fun b hb => Nat.le_trans HB3.out.size (HO.out b hb)⟩
end Go.Proofs.YtbhkdngbgokilaaDoor
