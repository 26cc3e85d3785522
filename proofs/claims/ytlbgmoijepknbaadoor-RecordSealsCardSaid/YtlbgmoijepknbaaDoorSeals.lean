/- The law RecordSeals returns true. -/
import Derived.Test.YtlbgmoijepknbaaDoorCrcF
import Derived.Test.YtlbgmoijepknbaaDoorAwake
import Derived.Test.YtlbgmoijepknbaaDoorMin
import Derived.Deep.Cut
namespace Go.Proofs.YtlbgmoijepknbaaDoor
open Go.RowKit
set_option linter.unusedVariables false

theorem Fits.take {ws : List Int} (h : Fits ws) (n : Nat) : Fits (ws.take n) := fun x hx => h x (List.mem_of_mem_take hx)
theorem Fits.snoc {ws : List Int} (h : Fits ws) : Fits (ws ++ [sumI ws]) := by
  intro x hx
  rcases List.mem_append.1 hx with hx | hx
  · exact h x hx
  · rw [List.mem_singleton.1 hx]; have := sumI_range h; omega
theorem take_bytes (ws : List Int) (k : Nat) (h : k < 8 * ws.length) : (bytesL ws).take k ++ [byteAt ws k] = (bytesL ws).take (k + 1) := by
  have hk : k < (bytesL ws).length := by rw [length_bytesL]; exact h
  rw [List.take_succ_eq_append_getElem hk, bytesL_get]
theorem snoc_split (vs : List Int) (m : Nat) (h : vs.length = m + 1) : ∃ us d, vs = us ++ [d] ∧ us.length = m :=
  ⟨vs.take m, vs[m]'(by omega), by rw [List.take_append_getElem]; exact (List.take_of_length_le (by omega)).symm, by simp; omega⟩

set_option maxRecDepth 100000 in
set_option maxHeartbeats 4000000 in
theorem law_RecordSeals (w : World) (hT : Tab w) (A : Option Addr) (n c : Nat) (xs : List Int) (hx : xs.length = n) (hc : n ≤ c) (hm : c ≤ 9223372036854775807) (hA : A = none → c = 0) (hR : Rd .u64 w A xs) (hF : Fits xs)
    (bit : Int) (hbit : -9223372036854775808 ≤ bit ∧ bit ≤ 9223372036854775807) (pat : Int) (hpat : 0 ≤ pat ∧ pat < 4294967296) :
    Calls Tryd.prog 3 #[.slice A n c, .int .i64 bit, .int .u32 pat] w fun e w' => e = .returned (.bool true) ∧ Below w.heap.size w w' := by
  obtain ⟨m, hmin, hm40, hmn⟩ : ∃ m : Nat, imin (n : Int) 40 = (m : Int) ∧ m ≤ 40 ∧ m ≤ n := by
    rcases imin_cases (n : Int) 40 with ⟨h, h2⟩ | ⟨h, h2⟩
    · exact ⟨n, h, by omega, Nat.le_refl _⟩
    · exact ⟨40, h, by omega, by omega⟩
  have HR : Hid (Rd .u64 w A (xs.take m)) := hR.take m
  have HX : Hid ((xs.take m).length = m) := by show _ = _; rw [List.length_take, hx]; omega
  have HF : Hid (Fits (xs.take m)) := hF.take m
  have HT := Lib.hid hT
  have HA := Lib.hid hA
  have hmc : m ≤ c := by omega
  generalize xs.take m = ys at *
  clear hR hx hF hT hA
  go_enter Tryd.func3, Tryd.ntmps3
  go_upto_region 5 with (first
    | (go_at_call 4; refine (awake_any _).mono ?_; rintro e w' ⟨rfl, hb⟩; obtain ⟨x, rfl⟩ := bx_of hb; clear hb)
    | (go_at_call 5; refine (rcSeal _ (HT.out.bx x) A m c ys HX.out (by omega) HA.out (HR.out.below x.below) HF.out).mono ?_; rintro e w1 ⟨g, c1, rfl, hR1, hg1, hgl1, hc1, hb1⟩; obtain ⟨y, rfl⟩ := bx_of hb1; have HR1 := Lib.hid hR1; have HG1 := Lib.hid hg1; clear hR1 hg1 hb1))
  have HB0 : Hid (Below w.heap.size w y.w) := bl_bx x.below y
  have HT0 : Hid (Tab y.w) := (HT.out.bx x).bx y
  have HR0 : Hid (Rd .u64 y.w A ys) := (HR.out.below x.below).below y.below
  have hL1 : (ys ++ [sumI ys]).length = m + 1 := by rw [List.length_append, HX.out]; rfl
  have hcell : y.w.cell? ⟨g, m, none⟩ = some (.int .u64 (sumI ys)) := by
    obtain ⟨b, o, h1, _, h2⟩ := HR1.out.at_ (i := m) (by omega)
    injection h1 with h1
    injection h1 with h1 h1'
    subst h1 h1'
    rw [Nat.zero_add] at h2
    rw [h2, List.getElem_append_right (by rw [HX.out]; exact Nat.le_refl _)]
    simp [HX.out]
  have hs := sumI_range HF.out
  have hsw : IntKind.u64.wrap (sumI ys) = sumI ys := IntWalk.u64_in _ (by omega)
  have HL1 := Lib.hid hL1
  generalize y.w = W0 at *
  have HRy : Hid (Rd .u64 W0 (some ⟨g, 0, none⟩) ys) := by
    have := HR1.out.take m
    rwa [List.take_left' HX.out] at this
  have hmc1 : m ≤ c1 := by omega
  have HEQ : Hid (∀ W c', Below W0.heap.size W0 W → Calls Tryd.prog 6 #[.slice (some ⟨g, 0, none⟩) m c', .slice A m c] W fun e w' => e = .returned (.bool true) ∧ ∃ k, w' = W.drewN k) := by
    show ∀ W c', _ → _
    intro W c' hb
    have := equalU_n W (some ⟨g, 0, none⟩) A m m c' c ys ys HX.out HX.out (HRy.out.below hb) (HR0.out.below hb) (by omega) (by omega)
    rwa [show (ys == ys) = true by simp] at this
  have HCW : Hid (∀ W, Below W0.heap.size W0 W → Calls Tryd.prog 7 #[.slice A m c] W fun e w' => e = .returned (.int .u32 (sumI ys)) ∧ W = w') := by
    show ∀ W, _ → _
    intro W hb
    exact crcWords W (HT0.out.below hb) A m c ys HX.out (by omega) (HR0.out.below hb) HF.out
  clear hL1
  refine wp_region_bx (by kernel_rfl) (by kernel_rfl) ?_
  repeat (go_big_quiet_step (first | (go_at_call 6; exact bx_callq (HEQ.out _ _ (by (repeat (first | with_reducible exact Below.refl _ _ | with_reducible refine bl_alloc ?_ _ | with_reducible refine bl_drew ?_ | with_reducible refine bl_drewN ?_ _ | with_reducible refine bl_bx ?_ _ | with_reducible exact BX.below _ | with_reducible refine bl_set ?_ (by first | (exact Nat.le_refl _) | (simp; done) | (simp; omega)) _ | assumption))))) | (go_at_call 7; exact bx_calle (HCW.out _ (by (repeat (first | with_reducible exact Below.refl _ _ | with_reducible refine bl_alloc ?_ _ | with_reducible refine bl_drew ?_ | with_reducible refine bl_drewN ?_ _ | with_reducible refine bl_bx ?_ _ | with_reducible exact BX.below _ | with_reducible refine bl_set ?_ (by first | (exact Nat.le_refl _) | (simp; done) | (simp; omega)) _ | assumption)))))))
  refine wpQuiet_nil ?_
  rintro _ ⟨z, rfl⟩
  go_upto_region 10 with (first
    | (go_at_call 8; refine (rcOpen_ok _ (HT0.out.bx z) g m (m + 1) c1 ys (sumI ys) HX.out rfl (by omega) hc1 (HR1.out.below z.below) HF.out rfl).mono ?_; rintro e w2 ⟨⟨A2, c2, rfl, hR2⟩, hb2⟩; obtain ⟨v, rfl⟩ := bx_of hb2; have HR2 := Lib.hid hR2; clear hR2 hb2)
    | (go_at_call 6; refine (equalU_n _ A2 A m m c2 c ys ys HX.out HX.out HR2.out ((HR0.out.below z.below).below v.below) (by omega) (by omega)).mono ?_; rw [show (ys == ys) = true by simp]; rintro e w' ⟨rfl, k1, rfl⟩))
  have HB1 : Hid (Below W0.heap.size W0 (v.w.drewN k1)) := bl_drewN (bl_bx z.below v) k1
  generalize v.w.drewN k1 = W1 at *
  have HRL : Hid (Rd .u64 W1 (some ⟨g, 0, none⟩) (ys ++ [sumI ys])) := HR1.out.below HB1.out
  have HFL : Hid (Fits (ys ++ [sumI ys])) := HF.out.snoc
  have hgl : g < W1.heap.size := by have := HB1.out.size; omega
  obtain ⟨L, hL⟩ : ∃ L, ys ++ [sumI ys] = L := ⟨_, rfl⟩
  have HL := Lib.hid hL
  rw [hL] at HRL HFL HL1 HR1
  clear hL hcell HEQ HCW HR2 hmc1 HRy HR1
  have hbl : (bytesL L).length = 8 * (m + 1) := by rw [length_bytesL, HL1.out]
  have HBL := Lib.hid hbl
  clear hbl
  go_wp2
  go_loopw [70, 10, 12, 13, 71, 72, 73, 74, 75, 76, 77, 78, 79, 80, 81, 82, 83, 84, 85, 86] (fun i p _ _ _ _ _ _ _ _ _ _ _ _ _ _ _ _ _ _ wr => ∃ (k : Nat) (A' : Option Addr) (c' : Nat), k ≤ m + 1 ∧ i = .int .i64 k ∧ p = .slice A' (8 * k) c' ∧ OwnI .u8 5 wr W1.heap.size A' c' ((bytesL L).take (8 * k)) ∧ Below W1.heap.size W1 wr) (fun i _ _ _ _ _ _ _ _ _ _ _ _ _ _ _ _ _ _ _ _ => m + 1 - (intOf i).toNat)
  case atStart => exact ⟨0, none, 0, by omega, rfl, rfl, OwnI.nil, Below.refl _ _⟩
  case round =>
    obtain ⟨k, A', c', hk, rfl, rfl, hO, hB⟩ := hrel
    have HO := Lib.hid hO
    have HB := Lib.hid hB
    clear hO hB
    by_cases hlt : k < m + 1
    · have hlt' : (k : Int) < (m : Int) + 1 := by omega
      have hkL : k < L.length := by rw [HL1.out]; exact hlt
      have hc1' : wr.cell? ⟨g, k, none⟩ = some (.int .u64 L[k]) := by
        obtain ⟨b, o, h1, _, h2⟩ := (HRL.out.below HB.out).at_ hkL
        injection h1 with h1
        injection h1 with h1 h1'
        subst h1 h1'
        rw [Nat.zero_add] at h2
        exact h2
      have hvr := HFL.out _ (List.getElem_mem hkL)
      obtain ⟨vv, hvv⟩ : ∃ vv, L[k] = vv := ⟨_, rfl⟩
      rw [hvv] at hc1' hvr
      have HV : Hid (∀ j : Nat, j < 8 → byteAt L (8 * k + j) = vv / 2 ^ (8 * j) % 256) := by
        show ∀ j : Nat, _ → _
        intro j hj
        unfold byteAt
        rw [show (8 * k + j) / 8 = k by omega, show (8 * k + j) % 8 * 8 = 8 * j by omega, List.getElem?_eq_getElem hkL, hvv]; rfl
      clear hvv
      go_wp2
      go_loopw [74, 10, 13, 75, 76, 77, 78, 79, 80, 81, 82, 83, 84, 85] (fun i p _ _ _ _ _ _ _ _ _ _ _ _ wr => ∃ (j : Nat) (A' : Option Addr) (c' : Nat), j ≤ 8 ∧ i = .int .i64 j ∧ p = .slice A' (8 * k + j) c' ∧ OwnI .u8 5 wr W1.heap.size A' c' ((bytesL L).take (8 * k + j)) ∧ Below W1.heap.size W1 wr) (fun i _ _ _ _ _ _ _ _ _ _ _ _ _ _ => 8 - (intOf i).toNat)
      case atStart => exact ⟨0, A', c', by omega, rfl, rfl, HO.out, HB.out⟩
      case round =>
        clear HO HB hc1'
        obtain ⟨j, A3, c3, hj, rfl, rfl, hO, hB⟩ := hrel
        have HO := Lib.hid hO
        have HB := Lib.hid hB
        clear hO hB
        by_cases hj8 : j < 8
        · have hj8' : (j : Int) < 8 := by omega
          have e1 : IntKind.i64.wrap (8 * (j : Int)) = 8 * (j : Int) := IntWalk.i64_in _ (by omega)
          have hlen : ((bytesL L).take (8 * k + j)).length = 8 * k + j := by rw [List.length_take, HBL.out]; omega
          have HLN := Lib.hid hlen
          have HBs : Hid (W1.heap.size ≤ (wr.alloc (.cells #[.int .u8 (vv / 2 ^ (8 * j) % 256)] 5)).heap.size) := (by show _ ≤ _; have := HB.out.size; simp; omega)
          clear hlen
          go_wp2_with (at_builtin; refine wpList_append_ints rfl (.tmp 77) (.tmp 83) 32 rfl 5 .u8 1 Tryd.underlying32 info_u8 (by omega) W1.heap.size A3 c3 ((bytesL L).take (8 * k + j)) (8 * k + j) _ _ _ [vv / 2 ^ (8 * j) % 256] rfl rfl HLN.out (HO.out.alloc _) rfl (rd_one _ _ _ _) (by rw [HLN.out]; simp only [List.length_cons, List.length_nil]; omega) HBs.out ?_; intro A4 c4 w4 HO4 HC4 HW4)
          have h6 := HO4.out
          rw [← HV.out j hj8, take_bytes L (8 * k + j) (by rw [HL1.out]; omega)] at h6
          have h7 := bl_ch (bl_alloc HB.out _) HC4.out (fun b hb => (HO.out.lt hb).1)
          go_roundw
          case rel => exact ⟨j + 1, A4, c4, by omega, by go_num, rfl, h6, h7⟩
          case measure => simp [intOf]; omega
        · obtain rfl : j = 8 := by omega
          go_wp2
          go_roundw
          case rel => exact ⟨k + 1, A3, c3, by omega, by go_num, by rw [show 8 * (k + 1) = 8 * k + 8 by omega], by rw [show 8 * (k + 1) = 8 * k + 8 by omega]; exact HO.out, HB.out⟩
          case measure => simp [intOf]; omega
    · obtain rfl : k = m + 1 := by omega
      rw [List.take_of_length_le (by rw [HBL.out]; exact Nat.le_refl _)] at HO
      have hmk := fun W => run_make_z (P := Tryd.prog) 22 27 .u64 .i64 .i64 ((m : Int) + 1) (m + 1) (by omega) Tryd.underlying22 8 info_u64 (by omega) (by omega) W
      go_upto_region 21 with (go_at_call 9; refine (crcBurst _ A' (8 * (m + 1)) c' L (by rw [HL1.out]) (by omega) (by omega) HO.out.rd HFL.out bit hbit pat hpat).mono ?_; rintro e w2 ⟨g2, vs, rfl, hBu, hI2, hg2, hb2⟩; have HBu := Lib.hid hBu; have HI2 := Lib.hid hI2; have HB2 := Lib.hid (HB.out.trans (hb2.mono HB.out.size)); have hg2l := hI2.lt; clear hBu hI2 hb2)
      have HG2 := Lib.hid hg2
      clear hg2
      have hvl : vs.length = m + 1 := by rw [HBu.out.len, HL1.out]
      have HVL := Lib.hid hvl
      have HI0 : Hid (IB .u64 27 (w2.alloc (.cells (ia .u64 (List.replicate (m + 1) 0)) 27)) w2.heap.size (partW vs 0)) := by
        show IB _ _ _ _ _
        rw [partW_zero, hvl]; exact IB.new _ _
      have HB0' : Hid (Below w2.heap.size w2 (w2.alloc (.cells (ia .u64 (List.replicate (m + 1) 0)) 27))) := bl_alloc (Below.refl _ _) _
      clear hvl
      go_upto_region 22 with (fail)
      obtain ⟨g3, hg3⟩ : ∃ g3, w2.heap.size = g3 := ⟨_, rfl⟩
      have HG3 := Lib.hid hg3
      rw [hg3] at HI0
      rw [hg3]
      obtain ⟨W3, hW3⟩ : ∃ W3, w2.alloc (.cells (ia .u64 (List.replicate (m + 1) 0)) 27) = W3 := ⟨_, rfl⟩
      rw [hW3] at HI0 HB0' ⊢
      clear hW3 hmk hg3 HO
      go_wp2
      go_loopw [96, 16, 17, 97, 98, 99, 100, 101, 102, 103, 104, 105, 106, 107, 108, 109, 110, 111, 112, 113, 114] (fun i _ _ _ _ _ _ _ _ _ _ _ _ _ _ _ _ _ _ _ _ wr => ∃ k : Nat, k ≤ 8 * (m + 1) ∧ i = .int .i64 k ∧ IB .u64 27 wr g3 (partW vs k) ∧ Below w2.heap.size w2 wr) (fun i _ _ _ _ _ _ _ _ _ _ _ _ _ _ _ _ _ _ _ _ _ => 8 * (m + 1) - (intOf i).toNat)
      case atStart => exact ⟨0, by omega, rfl, HI0.out, HB0'.out⟩
      case round =>
        clear HI0 HB0'
        obtain ⟨k, hk, rfl, hI, hB⟩ := hrel
        by_cases hlt : k < 8 * (m + 1)
        · have hlt' : (k : Int) < 8 * ((m : Int) + 1) := by omega
          have hk8 : k / 8 < vs.length := by rw [HVL.out]; omega
          have hkb : k < (bytesL vs).length := by rw [length_bytesL, HVL.out]; exact hlt
          have hc := HI2.out.cell hkb
          rw [bytesL_get] at hc
          have hc' : wr.cell? ⟨g2, k, none⟩ = some (.int .u8 (byteAt vs k)) := (hB.cell (p := ⟨g2, k, none⟩) hg2l).trans hc
          have hgl3 := hI.lt
          have hgl2 : g2 < wr.heap.size := by have := hB.size; omega
          have hcg : wr.cell? ⟨g3, k / 8, none⟩ = some (.int .u64 (vs[k / 8] % 2 ^ (k % 8 * 8))) := by
            have h3 := hI.cell (i := k / 8) (by rw [length_partW]; exact hk8)
            have h4 := partW_get vs k (k / 8) hk8
            rw [partAt_now, List.getElem?_eq_getElem hk8] at h4
            rw [List.getElem?_eq_getElem (by rw [length_partW]; exact hk8)] at h4
            injection h4 with h4
            rw [h4] at h3
            exact h3
          have hfz := hI.frozen (k / 8)
          have hgg : g2 ≠ g3 := by rw [← HG3.out]; omega
          have hvr := HBu.out.fits _ (List.getElem_mem hk8)
          have hor := or_byte vs[k / 8] hvr (k % 8) (by omega)
          have hbyt : byteAt vs k = vs[k / 8] / 2 ^ (k % 8 * 8) % 256 := by unfold byteAt; rw [List.getElem?_eq_getElem hk8]; rfl
          rw [← hbyt] at hor
          have hbr := byteAt_range vs k
          have HST := Lib.hid (partW_step vs k (by rw [HVL.out]; omega))
          rw [List.getElem?_eq_getElem hk8] at HST
          obtain ⟨bt, hbt⟩ : ∃ bt, byteAt vs k = bt := ⟨_, rfl⟩
          obtain ⟨od, hod⟩ : ∃ od, vs[k / 8] % 2 ^ (k % 8 * 8) = od := ⟨_, rfl⟩
          obtain ⟨nw, hnw⟩ : ∃ nw, vs[k / 8] % 2 ^ ((k % 8 + 1) * 8) = nw := ⟨_, rfl⟩
          rw [hbt] at hc' hor hbr
          rw [hod] at hcg hor
          rw [hnw] at hor
          have HST2 : Hid ((partW vs k).set (k / 8) nw = partW vs (k + 1)) := by
            show _ = _
            rw [← hnw]; exact HST.out
          have e1 : IntKind.u64.wrap bt = bt := IntWalk.u64_in _ (by omega)
          have hk8' : k / 8 < m + 1 := by omega
          have HI := Lib.hid hI
          have HB := Lib.hid hB
          clear hc hI hB hbt hod hnw hbyt hvr HST
          go_wp2
          refine wp_region_still_n 13 (by kernel_rfl) (by kernel_rfl) ?_
          simp only [List.take_succ_cons, List.take_zero, List.drop_succ_cons, List.drop_zero]
          repeat (go_big_quiet_step (fail))
          refine wpQuiet_nil ?_
          rintro _ ⟨nq, rfl⟩
          go_wp2
          have h6 := (HI.out.drewN nq).set (k / 8) nw
          rw [HST2.out] at h6
          go_roundw
          case rel => exact ⟨k + 1, by omega, by go_num, h6, bl_set (bl_drewN HB.out nq) (by show w2.heap.size ≤ g3; rw [HG3.out]; exact Nat.le_refl _) _⟩
          case measure => simp [intOf]; omega
        · obtain rfl : k = 8 * (m + 1) := by omega
          have hI' : IB .u64 27 wr g3 vs := by
            have := hI
            rwa [show 8 * (m + 1) = 8 * vs.length by rw [HVL.out], partW_all vs HBu.out.fits] at this
          have HI := Lib.hid hI'
          have HB3 := Lib.hid hB
          clear hI hB hI'
          have HBw : Hid (Below W0.heap.size W0 wr) := (HB1.out.trans (HB2.out.mono HB1.out.size)).trans (HB3.out.mono (Nat.le_trans HB1.out.size HB2.out.size))
          have HBf : Hid (Below w.heap.size w wr) := HB0.out.trans (HBw.out.mono HB0.out.size)
          have HTw : Hid (Tab wr) := HT0.out.below HBw.out
          have HRLw : Hid (Rd .u64 wr (some ⟨g, 0, none⟩) L) := (HRL.out.below HB2.out).below HB3.out
          have HRV : Hid (Rd .u64 wr (some ⟨g3, 0, none⟩) vs) := HI.out.rd0
          clear HB3 HB2 HB1 HI HRL HG3
          by_cases hvL : vs = L
          · have HVE := Lib.hid hvL
            clear hvL
            go_wp2_with (first
              | (go_at_call 8; with_reducible refine (rcOpen_nil _ none 0).mono ?_; rintro e w' ⟨rfl, rfl⟩; unfold openBad)
              | (go_at_call 8; refine (rcOpen_ok _ HTw.out g3 m (m + 1) (m + 1) ys (sumI ys) HX.out rfl (by omega) (by omega) (by have := HRV.out; rw [HVE.out, ← HL.out] at this; exact this) HF.out rfl).mono ?_; rintro e w5 ⟨⟨A5, c5, rfl, hR5⟩, hb5⟩; obtain ⟨v5, rfl⟩ := bx_of hb5; clear hR5 hb5)
              | (go_at_call 6; refine (equalU_n _ _ _ (m + 1) (m + 1) _ _ vs L HVL.out HL1.out (HRV.out.below (by (repeat (first | with_reducible exact Below.refl _ _ | with_reducible refine bl_alloc ?_ _ | with_reducible refine bl_drew ?_ | with_reducible refine bl_drewN ?_ _ | with_reducible refine bl_bx ?_ _ | with_reducible exact BX.below _ | with_reducible refine bl_set ?_ (by first | (exact Nat.le_refl _) | (simp; done) | (simp; omega)) _ | assumption)))) (HRLw.out.below (by (repeat (first | with_reducible exact Below.refl _ _ | with_reducible refine bl_alloc ?_ _ | with_reducible refine bl_drew ?_ | with_reducible refine bl_drewN ?_ _ | with_reducible refine bl_bx ?_ _ | with_reducible exact BX.below _ | with_reducible refine bl_set ?_ (by first | (exact Nat.le_refl _) | (simp; done) | (simp; omega)) _ | assumption)))) (by omega) (by omega)).mono ?_; rw [show (vs == L) = true by rw [HVE.out]; simp]; rintro e w' ⟨rfl, k6, rfl⟩))
            go_ret
            exact ⟨rfl, bl_drewN (bl_bx HBf.out v5) k6⟩
          · obtain ⟨us, d, hus, hul⟩ := snoc_split vs m HVL.out
            have hd : d ≠ sumI us := seals_law HF.out (bit := bit) (by rw [HL.out, ← hus]; exact HBu.out) (by rw [HL.out, ← hus]; exact hvL)
            have HD := Lib.hid hd
            have HUS := Lib.hid hus
            have HUL := Lib.hid hul
            have HNE := Lib.hid hvL
            clear hvL hd hus hul
            go_wp2_with (first
              | (go_at_call 8; with_reducible refine (rcOpen_nil _ none 0).mono ?_; rintro e w' ⟨rfl, rfl⟩; unfold openBad)
              | (go_at_call 8; refine (rcOpen_bad _ HTw.out g3 m (m + 1) (m + 1) us d HUL.out rfl (by omega) (by omega) (by have := HRV.out; rw [HUS.out] at this; exact this) (by have := HBu.out.fits; rw [HUS.out] at this; exact fun x hx => this x (by simp [hx])) HD.out).mono ?_; rintro e w5 ⟨rfl, hb5⟩; obtain ⟨v5, rfl⟩ := bx_of hb5; clear hb5; unfold openBad)
              | (go_at_call 6; refine (equalU_n _ _ _ (m + 1) (m + 1) _ _ vs L HVL.out HL1.out (HRV.out.below (by (repeat (first | with_reducible exact Below.refl _ _ | with_reducible refine bl_alloc ?_ _ | with_reducible refine bl_drew ?_ | with_reducible refine bl_drewN ?_ _ | with_reducible refine bl_bx ?_ _ | with_reducible exact BX.below _ | with_reducible refine bl_set ?_ (by first | (exact Nat.le_refl _) | (simp; done) | (simp; omega)) _ | assumption)))) (HRLw.out.below (by (repeat (first | with_reducible exact Below.refl _ _ | with_reducible refine bl_alloc ?_ _ | with_reducible refine bl_drew ?_ | with_reducible refine bl_drewN ?_ _ | with_reducible refine bl_bx ?_ _ | with_reducible exact BX.below _ | with_reducible refine bl_set ?_ (by first | (exact Nat.le_refl _) | (simp; done) | (simp; omega)) _ | assumption)))) (by omega) (by omega)).mono ?_; rw [show (vs == L) = false from beq_eq_false_iff_ne.2 HNE.out]; rintro e w' ⟨rfl, k6, rfl⟩))
            go_ret
            exact ⟨rfl, bl_drewN (bl_bx HBf.out v5) k6⟩
end Go.Proofs.YtlbgmoijepknbaaDoor
