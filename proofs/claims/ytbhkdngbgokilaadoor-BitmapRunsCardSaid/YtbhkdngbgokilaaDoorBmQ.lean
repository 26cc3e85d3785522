/- Contract of the reference's Change. -/
import Derived.Test.YtbhkdngbgokilaaDoorBmP
import Derived.Test.YtbhkdngbgokilaaDoorBmJ
namespace Go.Proofs.YtbhkdngbgokilaaDoor
open Go.RowKit
set_option linter.unusedVariables false

theorem info_int20 : (Tryd.prog.info? 3).map (fun i => (i.zero, i.size, i.bytes)) = some (some (.int .i64 0), 1, 8) := by kernel_rfl
def fitAll (ws : List Int) (l : List Int) (s : Nat) : Bool := (List.range l.length).all (fitR ws (l.map Int.toNat) s)
/-- What the reference's Change leaves. -/
def RefChPost (w : World) (ws : List Int) (m n : Nat) (l : List Int) (s : Nat) (e : Ending) (w' : World) : Prop :=
  Below w.heap.size w w' ∧
  ((okL n [] l = false ∧ e = .returned (.tuple #[.slice none 0 0, .int .i64 1])) ∨
   (okL n [] l = true ∧ fitAll ws l s = false ∧ e = .returned (.tuple #[.slice none 0 0, .int .i64 8])) ∨
   (okL n [] l = true ∧ fitAll ws l s = true ∧ ∃ A c, e = .returned (.tuple #[.slice A m c, .int .i64 0]) ∧ Sl 34 1 w' A m c (uints (flips ws (l.map Int.toNat))) ∧ ∀ b, OwnB A b → w.heap.size ≤ b))
theorem rd_cells {w : World} {A : Option Addr} {ws : List Int} (h : Rd .u64 w A ws) (h1 : 0 < ws.length) : ∃ b o, A = some ⟨b, o, none⟩ ∧ b < w.heap.size ∧ ∀ (j : Nat) (u : Value), (uints ws)[j]? = some u → w.cell? ((⟨b, o, none⟩ : Addr).add j) = some u := by
  rcases h with rfl | ⟨b, o, hA, hl, hc⟩
  · simp at h1
  · refine ⟨b, o, hA, hl, fun j u hu => ?_⟩
    have h1 : (⟨b, o, none⟩ : Addr).add j = ⟨b, o + j, none⟩ := by unfold Addr.add; split <;> simp_all
    have hj : j < ws.length := by have := (List.getElem?_eq_some_iff.1 hu).1; rwa [length_uints] at this
    rw [h1, hc j hj, ← hu]
    simp [uints, hj]
theorem flipsT_step (ws : List Int) (L : List Int) (k : Nat) (hk : k < L.length) : flips ws ((L.take (k + 1)).map Int.toNat) = flipW (flips ws ((L.take k).map Int.toNat)) (L[k]).toNat := by
  rw [List.take_succ_eq_append_getElem hk, List.map_append, List.map_singleton, flips_snoc]
set_option maxRecDepth 100000 in
set_option maxHeartbeats 4000000 in
theorem refChange20 (w : World) (A0 : Option Addr) (m c0 : Nat) (ws : List Int) (hm : ws.length = m) (hR0 : Rd .u64 w A0 ws) (hf : FitsB ws) (n : Nat) (hn : n ≤ 64 * m) (hn2 : n ≤ 512) (hm1 : 1 ≤ m) (hm8 : m ≤ 8)
    (A1 : Option Addr) (n1 c1 : Nat) (l1 : List Int) (hl1 : l1.length = n1) (hn1 : n1 ≤ 100) (hR1 : Rd .i64 w A1 l1) (A2 : Option Addr) (n2 c2 : Nat) (l2 : List Int) (hl2 : l2.length = n2) (hb2 : n2 ≤ 100) (hR2 : Rd .i64 w A2 l2) :
    Calls Tryd.prog 16 #[.slice A0 m c0, .int .i64 n, .slice A1 n1 c1, .slice A2 n2 c2] w (RefChPost w ws m n (l1 ++ l2) n1) := by
  have HM := Lib.hid hm
  have HR0 := Lib.hid hR0
  have HF := Lib.hid hf
  have HL1 := Lib.hid hl1
  have HL2 := Lib.hid hl2
  have HR1 := Lib.hid hR1
  have HR2 := Lib.hid hR2
  have hLL : (l1 ++ l2).length = n1 + n2 := by rw [List.length_append, hl1, hl2]
  obtain ⟨L, hL⟩ : ∃ L, l1 ++ l2 = L := ⟨_, rfl⟩
  rw [hL] at hLL ⊢
  have HLE := Lib.hid hL
  have HLL := Lib.hid hLL
  clear hm hR0 hf hl1 hl2 hR1 hR2 hL hLL
  go_enter Tryd.func16, Tryd.ntmps16
  go_upto_region 4 with (at_builtin; first
    | (refine wpList_append_ints rfl (.tmp 15) (.tmp 16) 25 rfl 3 .i64 8 Tryd.underlying25 info_int20 (by omega) w.heap.size none 0 [] 0 A1 n1 c1 l1 rfl rfl rfl OwnI.nil HL1.out HR1.out (by simp; rw [HL1.out]; omega) (Nat.le_refl _) ?_; intro B1 d1 w1 HO1 HC1 HW1; have HB1 := Lib.hid (HC1.out.to_below (Nat.le_refl _) (fun b hb => by simp [OwnB] at hb)))
    | (refine wpList_append_ints rfl (.tmp 18) (.tmp 19) 25 rfl 3 .i64 8 Tryd.underlying25 info_int20 (by omega) w.heap.size B1 d1 ([] ++ l1) _ A2 n2 c2 l2 rfl rfl (by simp [HL1.out]) HO1.out HL2.out (HR2.out.below HB1.out) (by simp; rw [HL1.out, HL2.out]; omega) HB1.out.size ?_; intro B2 d2 w2 HO2 HC2 HW2; have HB2 := Lib.hid (bl_ch HB1.out HC2.out (fun b hb => (HO1.out.lt hb).1))))
  have hRL : Rd .i64 w2 B2 L := by have := HO2.out.rd; rw [← HLE.out]; simpa using this
  have HRL := Lib.hid hRL
  obtain ⟨N, hN⟩ : ∃ N, n1 + n2 = N := ⟨_, rfl⟩
  have hNb : N ≤ 200 := by omega
  have hNn : n1 ≤ N := by omega
  rw [hN] at HLL ⊢
  clear hRL hN HO1 HC1 HW1 HB1 HO2 HC2 HW2 HL1 HL2 HR1 HR2 hb2
  go_wp2
  go_loopw [11, 8, 9, 12, 21, 22, 23, 24, 25, 26, 27, 28, 29, 30, 31, 32, 33, 34, 35, 36, 37, 38, 39, 40, 41, 42, 43, 44, 45, 46, 47, 48, 49, 50, 51, 52, 53] (fun i _ _ _ _ _ _ _ _ _ _ _ _ _ _ _ _ _ _ _ _ _ _ _ _ _ _ _ _ _ _ _ _ _ _ _ _ wr => ∃ k : Nat, k ≤ N ∧ i = .int .i64 k ∧ (List.range k).all (okP n [] L) = true ∧ Below w2.heap.size w2 wr) (fun i _ _ _ _ _ _ _ _ _ _ _ _ _ _ _ _ _ _ _ _ _ _ _ _ _ _ _ _ _ _ _ _ _ _ _ _ _ => N - (intOf i).toNat)
  case atStart => exact ⟨0, by omega, rfl, rfl, Below.refl _ _⟩
  case round =>
    obtain ⟨k, hk, rfl, hall, hB⟩ := hrel
    have HAL := Lib.hid hall
    have HB := Lib.hid hB
    clear hall hB
    by_cases hlt : k < N
    · have hkl : k < L.length := by rw [HLL.out]; exact hlt
      have hlt' : (k : Int) < (N : Int) := by omega
      obtain ⟨b, o, hA, hb, hc⟩ := (HRL.out.below HB.out).at_ hkl
      subst hA
      obtain ⟨i, hi⟩ : ∃ i, L[k] = i := ⟨_, rfl⟩
      rw [hi] at hc
      have HI := Lib.hid hi
      clear hi
      by_cases h0 : i < 0
      · have HF1 : Hid (okL n [] L = false) := range_all_false hkl (okP_neg n [] L k hkl (by rw [HI.out]; omega))
        go_wp2
        go_ret2
        exact ⟨HB2.out.trans (HB.out.mono HB2.out.size), .inl ⟨HF1.out, rfl⟩⟩
      · by_cases h1 : i ≥ (n : Int)
        · have HF1 : Hid (okL n [] L = false) := range_all_false hkl (okP_neg n [] L k hkl (by rw [HI.out]; omega))
          go_wp2
          go_ret2
          exact ⟨HB2.out.trans (HB.out.mono HB2.out.size), .inl ⟨HF1.out, rfl⟩⟩
        · obtain ⟨wk, rfl⟩ : ∃ wk, wk = wr := ⟨_, rfl⟩
          go_wp2
          go_loopw [12, 8, 9, 40, 41, 42, 43, 44, 45, 46, 47, 48, 49, 50, 51, 52, 53] (fun j _ _ _ _ _ _ _ _ _ _ _ _ _ _ _ _ wr => ∃ q : Nat, q ≤ k ∧ j = .int .i64 q ∧ (∀ p, (hp : p < q) → p < k → L[p]?.getD 0 ≠ i) ∧ Below wk.heap.size wk wr) (fun j _ _ _ _ _ _ _ _ _ _ _ _ _ _ _ _ _ => k - (intOf j).toNat)
          case atStart => exact ⟨0, by omega, rfl, fun p hp => by omega, Below.refl _ _⟩
          case round =>
            obtain ⟨q, hq, rfl, hne, hBq⟩ := hrel
            have HNE := Lib.hid hne
            have HBQ := Lib.hid hBq
            have hbq : Below w2.heap.size w2 wr := HB.out.trans (hBq.mono HB.out.size)
            clear hne hBq
            by_cases hqk : q < k
            · have hql : q < L.length := by omega
              have hqk' : (q : Int) < (k : Int) := by omega
              obtain ⟨b', o', hA', hb', hc'⟩ := (HRL.out.below hbq).at_ hql
              injection hA' with hA'
              injection hA' with e1 e2
              subst e1 e2
              obtain ⟨b', o', hA', _, hc2⟩ := (HRL.out.below hbq).at_ hkl
              injection hA' with hA'
              injection hA' with e1 e2
              subst e1 e2
              rw [HI.out] at hc2
              obtain ⟨x, hx⟩ : ∃ x, L[q] = x := ⟨_, rfl⟩
              rw [hx] at hc'
              have HX := Lib.hid hx
              have HBW := Lib.hid hbq
              clear hx hbq hc hb
              by_cases he : x = i
              · have HF1 : Hid (okL n [] L = false) := range_all_false hkl (okP_dup n [] L k q hkl hqk (by rw [HI.out, HX.out]; exact he))
                have he' : (x == i) = true := by simpa using he
                clear he
                go_upto_region 12 with (fail)
                refine wp_region_quiet_lit (by kernel_rfl) (by kernel_rfl) ?_
                repeat (go_big_quiet_step (fail))
                refine wpQuiet_nil ?_
                rintro _ ⟨nq, rfl⟩
                go_wp2
                go_ret2
                exact ⟨HB2.out.trans ((below_drewN HBW.out nq).mono HB2.out.size), .inl ⟨HF1.out, rfl⟩⟩
              · have he' : (x == i) = false := by simpa using he
                have HE := Lib.hid he
                clear he
                go_upto_region 12 with (fail)
                refine wp_region_quiet_lit (by kernel_rfl) (by kernel_rfl) ?_
                repeat (go_big_quiet_step (fail))
                refine wpQuiet_nil ?_
                rintro _ ⟨nq, rfl⟩
                go_wp2
                refine ⟨⟨q + 1, by omega, by go_num, fun p hp hpk => ?_, below_drewN HBQ.out nq⟩, by simp [intOf]; omega⟩
                by_cases hpq : p = q
                · subst hpq
                  rw [List.getElem?_eq_getElem hql, HX.out]
                  exact HE.out
                · exact HNE.out p (by omega) hpk
            · obtain rfl : q = k := by omega
              have HBW := Lib.hid hbq
              clear hbq
              have HOK : Hid ((List.range (q + 1)).all (okP n [] L) = true) := by
                show _ = _
                rw [range_all_step, HAL.out, Bool.true_and]
                refine okP_nil n L q hkl (by rw [HI.out]; omega) (by rw [HI.out]; omega) fun j hj => ?_
                have h3 := HNE.out j hj hj
                rw [List.getElem?_eq_getElem (by omega)] at h3
                refine ⟨?_, by rw [HI.out]; exact h3⟩
                have h4 := (List.all_eq_true.1 HAL.out) j (by simpa using hj)
                refine Decidable.byContradiction fun hneg => ?_
                rw [okP_neg n [] L j (by omega) (fun h5 => hneg h5.1)] at h4
                cases h4
              go_wp2
              exact ⟨⟨q + 1, by omega, by go_num, HOK.out, HBW.out⟩, by simp [intOf]; omega⟩
    · obtain rfl : N = k := by omega
      have hlt' : ¬ (N : Int) < (N : Int) := by omega
      have HOKL : Hid (okL n [] L = true) := by show _ = _; unfold okL; rw [HLL.out]; exact HAL.out
      obtain ⟨b0, o0, hA0, hb0, hcs⟩ := rd_cells (HR0.out.below (HB2.out.trans (HB.out.mono HB2.out.size))) (by rw [HM.out]; omega)
      subst hA0
      have HCS := Lib.hid hcs
      clear hcs
      go_upto_region 16 with (at_builtin; refine wpList_append_sl rfl (.tmp 54) (.tmp 55) 22 rfl 34 (.int .u64 0) 1 8 rfl (by omega) Tryd.underlying22 info_u64 (by omega) none 0 0 [] ⟨b0, o0, none⟩ m c0 (uints ws) rfl rfl Sl.nil (by rw [length_uints, HM.out]; omega) (by omega) HCS.out (uints_one _) (by omega) ?_; intro A3 c3 w3 HO3 HC3 HW3 HG3)
      obtain rfl := HG3.out (by omega)
      have hbW : Below w.heap.size w wr := HB2.out.trans (HB.out.mono HB2.out.size)
      have HS0 : Hid (Sl 34 1 w3 (some ⟨wr.heap.size, 0, none⟩) m c3 (uints ws)) := by have := HO3.out; show Sl _ _ _ _ _ _ _; simpa using this
      have HB3 : Hid (Below wr.heap.size wr w3) := HC3.out.to_below (Nat.le_refl _) (fun b hb => by simp [OwnB] at hb)
      have HW : Hid (Below w.heap.size w wr) := hbW
      have HR2 : Hid (Rd .i64 wr B2 L) := HRL.out.below HB.out
      have HR0' : Hid (Rd .u64 wr (some ⟨b0, o0, none⟩) ws) := HR0.out.below hbW
      obtain ⟨go, hgo⟩ : ∃ go, wr.heap.size = go := ⟨_, rfl⟩
      rw [hgo] at HS0
      rw [hgo]
      have HGO := Lib.hid hgo
      obtain ⟨hel, hnd⟩ := okL_spec HOKL.out
      have HEL := Lib.hid hel
      clear hbW hgo HO3 HC3 HW3 HG3 HCS hlt hlt' hk hel hnd
      obtain ⟨wk, rfl⟩ : ∃ wk, wk = wr := ⟨_, rfl⟩
      go_wp2
      go_loopw [14, 8, 9, 57, 58, 59, 60, 61, 62, 63, 64, 65, 66, 67, 68, 69, 70, 71, 72, 73, 74, 75, 76, 77, 78, 79, 80, 81, 82, 83, 84, 85, 86, 87, 88, 89, 90, 91, 92, 93, 94, 95, 96] (fun i _ _ _ _ _ _ _ _ _ _ _ _ _ _ _ _ _ _ _ _ _ _ _ _ _ _ _ _ _ _ _ _ _ _ _ _ _ _ _ _ _ _ wr => ∃ k : Nat, k ≤ N ∧ i = .int .i64 k ∧ (List.range k).all (fitR ws (L.map Int.toNat) n1) = true ∧ Sl 34 1 wr (some ⟨go, 0, none⟩) m c3 (uints (flips ws ((L.take k).map Int.toNat))) ∧ Below wk.heap.size wk wr) (fun i _ _ _ _ _ _ _ _ _ _ _ _ _ _ _ _ _ _ _ _ _ _ _ _ _ _ _ _ _ _ _ _ _ _ _ _ _ _ _ _ _ _ _ => N - (intOf i).toNat)
      case atStart => exact ⟨0, by omega, rfl, rfl, HS0.out, HB3.out⟩
      case round =>
        obtain ⟨k, hk, rfl, hall, hS, hBk⟩ := hrel
        have HAL2 := Lib.hid hall
        have HS := Lib.hid hS
        have HBK := Lib.hid hBk
        clear hall
        by_cases hlt : k < N
        · have hkl : k < L.length := by rw [HLL.out]; exact hlt
          have hlt' : (k : Int) < (N : Int) := by omega
          obtain ⟨b, o, hA, hb, hc⟩ := (HR2.out.below hBk).at_ hkl
          obtain ⟨x1, x2⟩ := HEL.out _ (List.getElem_mem hkl)
          obtain ⟨j, hj⟩ := Int.eq_ofNat_of_zero_le x1
          rw [hj] at hc x2
          have HJ := Lib.hid hj
          have hjn : j < n := by omega
          have hjm : j / 64 < m := by omega
          have hjl : j / 64 < (uints (flips ws ((L.take k).map Int.toNat))).length := by rw [length_uints, flips_length, HM.out]; exact hjm
          obtain ⟨g2, o2, hA2, hg2, c3'⟩ := hS.at_ (j := j / 64) hjl
          injection hA2 with hA2
          injection hA2 with e1 e2
          subst e1 e2
          rw [Nat.zero_add] at c3'
          have hfz := hS.unfrozen (j / 64)
          have hbgo : b < go := by
            obtain ⟨b', o', hA', hb', _⟩ := HR2.out.at_ hkl
            rw [hA] at hA'
            injection hA' with hA'
            injection hA' with e1 e2
            rw [e1, ← HGO.out]; exact hb'
          subst hA
          have HGT := Lib.hid (refGet20 wr (some ⟨b0, o0, none⟩) m c0 ws HM.out (HR0'.out.below hBk) HF.out n hn hn2 (j : Int))
          rw [getB_in hjn] at HGT
          obtain ⟨v, hv, hvr⟩ : ∃ v : Int, (uints (flips ws ((L.take k).map Int.toNat)))[j / 64] = .int .u64 v ∧ v = (flips ws ((L.take k).map Int.toNat))[j / 64]?.getD 0 := by
            have : j / 64 < (flips ws ((L.take k).map Int.toNat)).length := by rw [flips_length, HM.out]; exact hjm
            refine ⟨_, ?_, rfl⟩
            rw [List.getElem?_eq_getElem this]
            simp [uints]
          rw [hv] at c3'
          have hvb : 0 ≤ v ∧ v < 18446744073709551616 := by rw [hvr]; exact (flips_fits _ _ HF.out).getD _
          have HXR : Hid (bits .xor .u64 v ((2 : Int) ^ (j % 64)) = flipV v (j % 64)) := by
            have := flipV_go hvb (b := j % 64) (by omega)
            rwa [show ((2 ^ (j % 64) : Nat) : Int) = (2 : Int) ^ (j % 64) from Int.natCast_pow 2 _] at this
          have hw3 : IntKind.u64.wrap (2 ^ (j % 64)) = 2 ^ (j % 64) := by
            have h64 : 2 ^ (j % 64) < 2 ^ 64 := Nat.pow_lt_pow_right (by omega) (by omega)
            rw [← show ((2 ^ (j % 64) : Nat) : Int) = (2 : Int) ^ (j % 64) from Int.natCast_pow 2 _]
            generalize 2 ^ (j % 64) = p at *
            exact IntWalk.u64_in _ (by omega)
          have HST : Hid (flips ws ((L.take (k + 1)).map Int.toNat) = (flips ws ((L.take k).map Int.toNat)).set (j / 64) (flipV v (j % 64))) := by
            show _ = _
            rw [flipsT_step ws L k hkl, HJ.out, Int.toNat_natCast, hvr]
            rfl
          have HFR : Hid (fitR ws (L.map Int.toNat) n1 k = (bitW ws j != decide (k < n1))) := by
            show _ = _
            unfold fitR
            rw [List.getElem?_map, List.getElem?_eq_getElem hkl, HJ.out]
            rfl
          have HJL := Lib.hid hjl
          clear hv hvr hS hj hjl x1
          obtain ⟨B, hB⟩ : ∃ B, bitW ws j = B := ⟨_, rfl⟩
          rw [hB] at HGT HFR
          clear hB hBk
          have hdec : decide ((k : Int) < (n1 : Int)) = decide (k < n1) := by rw [decide_eq_decide]; omega
          obtain ⟨D, hD⟩ : ∃ D, decide (k < n1) = D := ⟨_, rfl⟩
          rw [hD] at HFR hdec
          clear hD
          rcases (show (B = true ∧ D = true ∨ B = false ∧ D = false) ∨ (B = true ∧ D = false ∨ B = false ∧ D = true) by cases B <;> cases D <;> simp) with (⟨rfl, rfl⟩ | ⟨rfl, rfl⟩) | (⟨rfl, rfl⟩ | ⟨rfl, rfl⟩)
          · have hd : (k : Int) < (n1 : Int) := by simpa using hdec
            try have hd2 : decide (k < n1) = false := by rw [decide_eq_false_iff_not]; omega
            clear hdec
            have HF2 : Hid (fitAll ws L n1 = false) := by
              show fitAll ws L n1 = false
              unfold fitAll
              refine range_all_false (p := fitR ws (L.map Int.toNat) n1) hkl ?_
              rw [HFR.out]; simp
            go_wp2_with (go_at_call 20; refine HGT.out.mono ?_; rintro e w' ⟨rfl, rfl⟩)
            go_ret2
            exact ⟨HW.out.trans (HBK.out.mono HW.out.size), .inr (.inl ⟨HOKL.out, HF2.out, rfl⟩)⟩
          · have hd : ¬ (k : Int) < (n1 : Int) := by simpa using hdec
            try have hd2 : decide (k < n1) = false := by rw [decide_eq_false_iff_not]; omega
            clear hdec
            have HF2 : Hid (fitAll ws L n1 = false) := by
              show fitAll ws L n1 = false
              unfold fitAll
              refine range_all_false (p := fitR ws (L.map Int.toNat) n1) hkl ?_
              rw [HFR.out]; simp
            go_wp2_with (go_at_call 20; refine HGT.out.mono ?_; rintro e w' ⟨rfl, rfl⟩)
            go_ret2
            exact ⟨HW.out.trans (HBK.out.mono HW.out.size), .inr (.inl ⟨HOKL.out, HF2.out, rfl⟩)⟩
          · have hd : ¬ (k : Int) < (n1 : Int) := by simpa using hdec
            try have hd2 : decide (k < n1) = false := by rw [decide_eq_false_iff_not]; omega
            clear hdec
            have HOKK : Hid ((List.range (k + 1)).all (fitR ws (L.map Int.toNat) n1) = true) := by
              show _ = _
              rw [range_all_step, HAL2.out, Bool.true_and, HFR.out]
              rfl
            go_upto_region 21 with (go_at_call 20; refine HGT.out.mono ?_; rintro e w' ⟨rfl, rfl⟩)
            refine wp_region_still_n 22 (by kernel_rfl) (by kernel_rfl) ?_
            simp only [List.take_succ_cons, List.take_zero, List.drop_succ_cons, List.drop_zero]
            repeat (go_big_quiet_step (fail))
            refine wpQuiet_nil ?_
            rintro _ ⟨nq2, rfl⟩
            go_wp2
            refine ⟨⟨k + 1, by omega, by go_num, HOKK.out, ?_, ?_⟩, by simp [intOf]; omega⟩
            · rw [HST.out, uints_set]
              have := (HS.out.set HJL.out (.int .u64 (flipV v (j % 64))))
              rw [Nat.zero_add] at this
              rw [HXR.out]
              exact this
            · refine Below.setCell ?_ ?_ _
              · exact below_drewN HBK.out nq2
              · show wk.heap.size ≤ go
                rw [HGO.out]; exact Nat.le_refl _
          · have hd : (k : Int) < (n1 : Int) := by simpa using hdec
            try have hd2 : decide (k < n1) = false := by rw [decide_eq_false_iff_not]; omega
            clear hdec
            have HOKK : Hid ((List.range (k + 1)).all (fitR ws (L.map Int.toNat) n1) = true) := by
              show _ = _
              rw [range_all_step, HAL2.out, Bool.true_and, HFR.out]
              rfl
            go_upto_region 21 with (go_at_call 20; refine HGT.out.mono ?_; rintro e w' ⟨rfl, rfl⟩)
            refine wp_region_still_n 22 (by kernel_rfl) (by kernel_rfl) ?_
            simp only [List.take_succ_cons, List.take_zero, List.drop_succ_cons, List.drop_zero]
            repeat (go_big_quiet_step (fail))
            refine wpQuiet_nil ?_
            rintro _ ⟨nq2, rfl⟩
            go_wp2
            refine ⟨⟨k + 1, by omega, by go_num, HOKK.out, ?_, ?_⟩, by simp [intOf]; omega⟩
            · rw [HST.out, uints_set]
              have := (HS.out.set HJL.out (.int .u64 (flipV v (j % 64))))
              rw [Nat.zero_add] at this
              rw [HXR.out]
              exact this
            · refine Below.setCell ?_ ?_ _
              · exact below_drewN HBK.out nq2
              · show wk.heap.size ≤ go
                rw [HGO.out]; exact Nat.le_refl _
        · obtain rfl : N = k := by omega
          have HFA : Hid (fitAll ws L n1 = true) := by
            show fitAll ws L n1 = true
            unfold fitAll
            rw [HLL.out]; exact HAL2.out
          have HSE : Hid (Sl 34 1 wr (some ⟨go, 0, none⟩) m c3 (uints (flips ws (L.map Int.toNat)))) := by
            have := HS.out
            rwa [List.take_of_length_le (by rw [HLL.out]; omega)] at this
          clear hS hBk
          go_wp2
          go_ret2
          refine ⟨HW.out.trans (HBK.out.mono HW.out.size), .inr (.inr ⟨HOKL.out, HFA.out, _, _, rfl, HSE.out, fun b hb => ?_⟩)⟩
          have : b = go := by simp [OwnB] at hb; omega
          rw [this, ← HGO.out]
          exact HW.out.size
end Go.Proofs.YtbhkdngbgokilaaDoor
