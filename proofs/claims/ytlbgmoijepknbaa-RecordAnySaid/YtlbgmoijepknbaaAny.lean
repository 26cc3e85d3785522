/- The law RecordAny returns true. -/
import Derived.Test.YtlbgmoijepknbaaOwnO
import Derived.Test.YtlbgmoijepknbaaAwake
import Derived.Deep.CutRange
namespace Go.Proofs.Ytlbgmoijepknbaa
open Go.RowKit
set_option linter.unusedVariables false

def vaB (x : Int) : Bool := decide (1 ≤ x ∧ x ≤ 4096)
def paB (a b : Int) : Bool := vaB a && vaB b && decide (a + b ≤ 4096)
def arB (a n : Int) : Bool := vaB a && decide (0 ≤ n) && decide (n ≤ 4096 / a) && decide (1 + n * a ≤ 4096)
def opB (b : Int) : Bool := vaB b && decide (b < 4096)
theorem vaB_iff (x : Int) : vaB x = true ↔ 1 ≤ x ∧ x ≤ 4096 := by unfold vaB; exact decide_eq_true_iff
theorem valid1_ok (w : World) (x : Int) : Calls Try.prog 18 #[.int .i64 x] w fun e w' => e = .returned (.bool (vaB x)) ∧ w = w' := by
  by_cases h1 : 1 ≤ x
  · by_cases h2 : x ≤ 4096
    · have HE : Hid (vaB x = true) := (show _ = _ from decide_eq_true ⟨h1, h2⟩)
      go_enter Try.func18, Try.ntmps18
      go_wp2
      go_ret
      rw [HE.out]
      exact ⟨rfl, rfl⟩
    · have HE : Hid (vaB x = false) := (show _ = _ from decide_eq_false (fun h => h2 h.2))
      go_enter Try.func18, Try.ntmps18
      go_wp2
      go_ret
      rw [HE.out]
      exact ⟨rfl, rfl⟩
  · have HE : Hid (vaB x = false) := (show _ = _ from decide_eq_false (fun h => h1 h.1))
    go_enter Try.func18, Try.ntmps18
    go_wp2
    go_ret
    rw [HE.out]
    exact ⟨rfl, rfl⟩
theorem ownW_va (a : Int) : ownW a = if vaB a then a else 0 := by
  unfold ownW
  by_cases h : 1 ≤ a ∧ a ≤ 4096
  · rw [if_pos h, if_pos ((vaB_iff a).2 h)]
  · rw [if_neg h, if_neg (fun h' => h ((vaB_iff a).1 h'))]
theorem own_pair (a b : Int) : pairW (ownW a) (ownW b) = if paB a b then a + b else 0 := by
  rw [ownW_va, ownW_va]
  unfold paB pairW
  cases ha : vaB a with
  | false => simp
  | true =>
    cases hb : vaB b with
    | false => simp
    | true =>
      have h1 := (vaB_iff a).1 ha
      have h2 := (vaB_iff b).1 hb
      simp only [if_true, Bool.true_and, decide_eq_true_iff]
      split <;> split <;> omega
theorem own_arr (a N : Int) : arrUW N (ownW a) = if arB a N then 1 + N * a else 0 := by
  rw [ownW_va]
  unfold arB arrUW
  cases ha : vaB a with
  | false => simp
  | true =>
    have h1 := (vaB_iff a).1 ha
    simp only [if_true, Bool.true_and, Bool.and_eq_true, decide_eq_true_iff]
    by_cases hN : N < 0
    · rw [if_pos (.inr (.inl hN)), if_neg (by omega)]
    · by_cases hq : 4095 / a < N
      · rw [if_pos (.inr (.inr hq)), if_neg]
        rintro ⟨_, h4⟩
        have h5 := (Int.le_ediv_iff_mul_le (a := N) (b := 4095) (c := a) (by omega)).2 (by omega)
        omega
      · have h5 := (Int.le_ediv_iff_mul_le (a := N) (b := 4095) (c := a) (by omega)).1 (by omega)
        have h6 := (Int.le_ediv_iff_mul_le (a := N) (b := 4096) (c := a) (by omega)).2 (by omega)
        rw [if_neg (by omega), if_pos ⟨⟨by omega, h6⟩, by omega⟩]
theorem own_opt (b : Int) : optW (ownW b) = if opB b then b + 1 else 0 := by
  rw [ownW_va]
  unfold opB optW
  cases hb : vaB b with
  | false => simp
  | true =>
    have h2 := (vaB_iff b).1 hb
    simp only [if_true, Bool.true_and, decide_eq_true_iff]
    split <;> split <;> omega

set_option maxRecDepth 100000 in
set_option maxHeartbeats 8000000 in
theorem law_RecordAny (w : World) (a b n : Int) (hra : -9223372036854775808 ≤ a ∧ a < 9223372036854775808) (hrb : -9223372036854775808 ≤ b ∧ b < 9223372036854775808) (hrn : -9223372036854775808 ≤ n ∧ n < 9223372036854775808) :
    Calls Try.prog 4 #[.int .i64 a, .int .i64 b, .int .i64 n] w fun e w' => e = .returned (.bool true) ∧ Below w.heap.size w w' := by
  have HRA := Lib.hid hra
  have HRB := Lib.hid hrb
  have HRN := Lib.hid hrn
  have HVA := Lib.hid (fun W => valid1_ok W a)
  have HVB := Lib.hid (fun W => valid1_ok W b)
  clear hra hrb hrn
  go_enter Try.func4, Try.ntmps4
  go_upto_region 5 with (go_at_call 12; refine (awake_any _).mono ?_; rintro e w0 ⟨rfl, hb⟩; have HBw0 := Lib.hid hb; clear hb)
  obtain ⟨g1, hg1⟩ : ∃ g, w0.heap.size = g := ⟨_, rfl⟩
  obtain ⟨w1, hw1⟩ : ∃ w1, w0.alloc (.cells #[.iface 47 (.agg #[.int .i64 a]), .iface 47 (.agg #[.int .i64 b])] 51) = w1 := ⟨_, rfl⟩
  have hcg1 : CB w1 g1 51 #[.iface 47 (.agg #[.int .i64 a]), .iface 47 (.agg #[.int .i64 b])] := by rw [← hw1, ← hg1]; exact CB.new _ _ _
  have HBw1 : Hid (Below w.heap.size w w1) := by rw [← hw1]; exact bl_alloc HBw0.out _
  have Hg1w1 := Lib.hid hcg1
  rw [hw1, hg1]
  clear hw1 hg1 hcg1
  iterate 8 go_step
  go_cut [9] from 36 (fun s wx => s = .int .i64 (pairW (ownW a) (ownW b)) ∧ wx = w1)
  case first => as_aux_lemma =>
    have he := own_pair a b
    cases hA : vaB a with
    | false =>
      have HE : Hid (pairW (ownW a) (ownW b) = 0) := (show _ = _ by rw [he]; unfold paB; rw [hA]; rfl)
      rw [hA] at HVA
      clear he hA
      go_wp2_with (go_at_call 18; first | ((with_reducible refine (HVA.out _).mono ?_); rintro e w' ⟨rfl, rfl⟩) | ((with_reducible refine (HVB.out _).mono ?_); rintro e w' ⟨rfl, rfl⟩))
      go_meet
      case rel => exact ⟨by rw [HE.out], rfl⟩
    | true =>
      rw [hA] at HVA
      cases hB : vaB b with
      | false =>
        have HE : Hid (pairW (ownW a) (ownW b) = 0) := (show _ = _ by rw [he]; unfold paB; rw [hA, hB]; rfl)
        rw [hB] at HVB
        clear he hA hB
        go_wp2_with (go_at_call 18; first | ((with_reducible refine (HVA.out _).mono ?_); rintro e w' ⟨rfl, rfl⟩) | ((with_reducible refine (HVB.out _).mono ?_); rintro e w' ⟨rfl, rfl⟩))
        go_meet
        case rel => exact ⟨by rw [HE.out], rfl⟩
      | true =>
        rw [hB] at HVB
        have h1 := (vaB_iff a).1 hA
        have h2 := (vaB_iff b).1 hB
        have hw : IntKind.i64.wrap (a + b) = a + b := IntWalk.i64_in _ (by omega)
        by_cases hab : a + b ≤ 4096
        · have HE : Hid (pairW (ownW a) (ownW b) = a + b) := (show _ = _ by rw [he]; unfold paB; rw [hA, hB, decide_eq_true hab]; rfl)
          clear he hA hB
          go_wp2_with (go_at_call 18; first | ((with_reducible refine (HVA.out _).mono ?_); rintro e w' ⟨rfl, rfl⟩) | ((with_reducible refine (HVB.out _).mono ?_); rintro e w' ⟨rfl, rfl⟩))
          go_meet
          case rel => exact ⟨by rw [HE.out], rfl⟩
        · have HE : Hid (pairW (ownW a) (ownW b) = 0) := (show _ = _ by rw [he]; unfold paB; rw [hA, hB, decide_eq_false hab]; rfl)
          clear he hA hB
          go_wp2_with (go_at_call 18; first | ((with_reducible refine (HVA.out _).mono ?_); rintro e w' ⟨rfl, rfl⟩) | ((with_reducible refine (HVB.out _).mono ?_); rintro e w' ⟨rfl, rfl⟩))
          go_meet
          case rel => exact ⟨by rw [HE.out], rfl⟩
  case rest =>
    obtain ⟨hc1, hc2⟩ := hcut
    obtain ⟨W, hW⟩ : ∃ W, pairW (ownW a) (ownW b) = W := ⟨_, rfl⟩
    rw [hW] at hc1
    subst hc1 hc2
    have HW := Lib.hid hW
    clear hW
    go_upto_region 9 with (fail)
    obtain ⟨g2, hg2⟩ : ∃ g, wc.heap.size = g := ⟨_, rfl⟩
    obtain ⟨w2, hw2⟩ : ∃ w1, wc.alloc (.cells #[.int .i64 n, .iface 47 (.agg #[.int .i64 a])] 53) = w1 := ⟨_, rfl⟩
    have hcg2 : CB w2 g2 53 #[.int .i64 n, .iface 47 (.agg #[.int .i64 a])] := by rw [← hw2, ← hg2]; exact CB.new _ _ _
    have HBw2 : Hid (Below w.heap.size w w2) := by rw [← hw2]; exact bl_alloc HBw1.out _
    have Hg1w2 : Hid (CB w2 g1 51 #[.iface 47 (.agg #[.int .i64 a]), .iface 47 (.agg #[.int .i64 b])]) := by rw [← hw2]; exact Hg1w1.out.alloc _
    have Hg2w2 := Lib.hid hcg2
    rw [hw2, hg2]
    clear hw2 hg2 hcg2
    iterate 8 go_step
    go_cut [11] from 58 (fun s wx => s = .int .i64 (arrUW n (ownW a)) ∧ wx = w2)
    case first => as_aux_lemma =>
      have he := own_arr a n
      cases hA : vaB a with
      | false =>
        have HE : Hid (arrUW n (ownW a) = 0) := (show _ = _ by rw [he]; unfold arB; rw [hA]; rfl)
        rw [hA] at HVA
        clear he hA
        go_wp2_with (go_at_call 18; first | ((with_reducible refine (HVA.out _).mono ?_); rintro e w' ⟨rfl, rfl⟩) | ((with_reducible refine (HVB.out _).mono ?_); rintro e w' ⟨rfl, rfl⟩))
        go_meet
        case rel => exact ⟨by rw [HE.out], rfl⟩
      | true =>
        rw [hA] at HVA
        have h1 := (vaB_iff a).1 hA
        have hN := HRN.out
        have hd : (4096 : Int).tdiv a = 4096 / a := Int.tdiv_eq_ediv_of_nonneg (by omega)
        have hd1 : 0 ≤ (4096 : Int) / a := Int.ediv_nonneg (by omega) (by omega)
        have hd2 : (4096 : Int) / a ≤ 4096 := Int.ediv_le_self _ (by omega)
        have hw : IntKind.i64.wrap (4096 / a) = 4096 / a := IntWalk.i64_in _ (by omega)
        have ha0 : ¬ a = 0 := by omega
        by_cases h0 : 0 ≤ n
        · have k0 : decide (0 ≤ n) = true := decide_eq_true h0
          by_cases hq : n ≤ 4096 / a
          · have k1 : decide (n ≤ 4096 / a) = true := decide_eq_true hq
            have hp : n * a ≤ 4096 := by
              have h5 : n * a ≤ 4096 / a * a := Int.mul_le_mul_of_nonneg_right hq (by omega)
              have h6 : 4096 / a * a ≤ 4096 := Int.ediv_mul_le _ ha0
              omega
            have hp0 : 0 ≤ n * a := Int.mul_nonneg h0 (by omega)
            have hw1 : IntKind.i64.wrap (n * a) = n * a := IntWalk.i64_in _ (by omega)
            have hw2 : IntKind.i64.wrap (1 + n * a) = 1 + n * a := IntWalk.i64_in _ (by omega)
            by_cases hab : 1 + n * a ≤ 4096
            · have HE : Hid (arrUW n (ownW a) = 1 + n * a) := (show _ = _ by rw [he]; unfold arB; rw [hA, k0, k1, decide_eq_true hab]; rfl)
              clear hd1 hd2 hp hp0 he hA
              go_wp2_with (go_at_call 18; first | ((with_reducible refine (HVA.out _).mono ?_); rintro e w' ⟨rfl, rfl⟩) | ((with_reducible refine (HVB.out _).mono ?_); rintro e w' ⟨rfl, rfl⟩))
              go_meet
              case rel => exact ⟨by rw [HE.out], rfl⟩
            · have HE : Hid (arrUW n (ownW a) = 0) := (show _ = _ by rw [he]; unfold arB; rw [hA, k0, k1, decide_eq_false hab]; rfl)
              clear hd1 hd2 hp hp0 he hA
              go_wp2_with (go_at_call 18; first | ((with_reducible refine (HVA.out _).mono ?_); rintro e w' ⟨rfl, rfl⟩) | ((with_reducible refine (HVB.out _).mono ?_); rintro e w' ⟨rfl, rfl⟩))
              go_meet
              case rel => exact ⟨by rw [HE.out], rfl⟩
          · have k1 : decide (n ≤ 4096 / a) = false := decide_eq_false hq
            have HE : Hid (arrUW n (ownW a) = 0) := (show _ = _ by rw [he]; unfold arB; rw [hA, k0, k1]; rfl)
            clear hd1 hd2 he hA
            go_wp2_with (go_at_call 18; first | ((with_reducible refine (HVA.out _).mono ?_); rintro e w' ⟨rfl, rfl⟩) | ((with_reducible refine (HVB.out _).mono ?_); rintro e w' ⟨rfl, rfl⟩))
            go_meet
            case rel => exact ⟨by rw [HE.out], rfl⟩
        · have k0 : decide (0 ≤ n) = false := decide_eq_false h0
          have HE : Hid (arrUW n (ownW a) = 0) := (show _ = _ by rw [he]; unfold arB; rw [hA, k0]; rfl)
          clear hd1 hd2 he hA
          go_wp2_with (go_at_call 18; first | ((with_reducible refine (HVA.out _).mono ?_); rintro e w' ⟨rfl, rfl⟩) | ((with_reducible refine (HVB.out _).mono ?_); rintro e w' ⟨rfl, rfl⟩))
          go_meet
          case rel => exact ⟨by rw [HE.out], rfl⟩
    case rest =>
      obtain ⟨hc1, hc2⟩ := hcut
      obtain ⟨TT, hT⟩ : ∃ T, arrUW n (ownW a) = T := ⟨_, rfl⟩
      rw [hT] at hc1
      subst hc1 hc2
      have HT := Lib.hid hT
      clear hT
      go_upto_region 13 with (fail)
      obtain ⟨g3, hg3⟩ : ∃ g, wc.heap.size = g := ⟨_, rfl⟩
      obtain ⟨w3, hw3⟩ : ∃ w1, wc.alloc (.cells #[.iface 47 (.agg #[.int .i64 b])] 55) = w1 := ⟨_, rfl⟩
      have hcg3 : CB w3 g3 55 #[.iface 47 (.agg #[.int .i64 b])] := by rw [← hw3, ← hg3]; exact CB.new _ _ _
      have HBw3 : Hid (Below w.heap.size w w3) := by rw [← hw3]; exact bl_alloc HBw2.out _
      have Hg1w3 : Hid (CB w3 g1 51 #[.iface 47 (.agg #[.int .i64 a]), .iface 47 (.agg #[.int .i64 b])]) := by rw [← hw3]; exact Hg1w2.out.alloc _
      have Hg2w3 : Hid (CB w3 g2 53 #[.int .i64 n, .iface 47 (.agg #[.int .i64 a])]) := by rw [← hw3]; exact Hg2w2.out.alloc _
      have Hg3w3 := Lib.hid hcg3
      rw [hw3, hg3]
      clear hw3 hg3 hcg3
      iterate 8 go_step
      go_cut [13] from 86 (fun s wx => s = .int .i64 (optW (ownW b)) ∧ wx = w3)
      case first => as_aux_lemma =>
        have he := own_opt b
        cases hB : vaB b with
        | false =>
          have HE : Hid (optW (ownW b) = 0) := (show _ = _ by rw [he]; unfold opB; rw [hB]; rfl)
          rw [hB] at HVB
          clear he hB
          go_wp2_with (go_at_call 18; first | ((with_reducible refine (HVA.out _).mono ?_); rintro e w' ⟨rfl, rfl⟩) | ((with_reducible refine (HVB.out _).mono ?_); rintro e w' ⟨rfl, rfl⟩))
          go_meet
          case rel => exact ⟨by rw [HE.out], rfl⟩
        | true =>
          rw [hB] at HVB
          have h2 := (vaB_iff b).1 hB
          have hw : IntKind.i64.wrap (b + 1) = b + 1 := IntWalk.i64_in _ (by omega)
          by_cases hab : b < 4096
          · have HE : Hid (optW (ownW b) = b + 1) := (show _ = _ by rw [he]; unfold opB; rw [hB, decide_eq_true hab]; rfl)
            clear he hB
            go_wp2_with (go_at_call 18; first | ((with_reducible refine (HVA.out _).mono ?_); rintro e w' ⟨rfl, rfl⟩) | ((with_reducible refine (HVB.out _).mono ?_); rintro e w' ⟨rfl, rfl⟩))
            go_meet
            case rel => exact ⟨by rw [HE.out], rfl⟩
          · have HE : Hid (optW (ownW b) = 0) := (show _ = _ by rw [he]; unfold opB; rw [hB, decide_eq_false hab]; rfl)
            clear he hB
            go_wp2_with (go_at_call 18; first | ((with_reducible refine (HVA.out _).mono ?_); rintro e w' ⟨rfl, rfl⟩) | ((with_reducible refine (HVB.out _).mono ?_); rintro e w' ⟨rfl, rfl⟩))
            go_meet
            case rel => exact ⟨by rw [HE.out], rfl⟩
      case rest =>
        obtain ⟨hc1, hc2⟩ := hcut
        obtain ⟨O, hO⟩ : ∃ O, optW (ownW b) = O := ⟨_, rfl⟩
        rw [hO] at hc1
        subst hc1 hc2
        have HO := Lib.hid hO
        have hWW : (W != W) = false := by simp
        have hTT : (TT != TT) = false := by simp
        have hOO : (O != O) = false := by simp
        have HWP : Hid (∀ W', Calls Try.prog 19 #[.agg #[.iface 47 (.agg #[.int .i64 a]), .iface 47 (.agg #[.int .i64 b])]] W' fun e w' => e = .returned (.int .i64 W) ∧ Below W'.heap.size W' w') := fun W' => by
          have := pairUUWords W' _ _ _ _ (sizeU_own a) (sizeU_own b) (ownW_range _) (ownW_range _); rwa [HW.out] at this
        have HWA : Hid (∀ W', Calls Try.prog 20 #[.agg #[.int .i64 n, .iface 47 (.agg #[.int .i64 a])]] W' fun e w' => e = .returned (.int .i64 TT) ∧ Below W'.heap.size W' w') := fun W' => by
          have := arrUWords W' n _ _ (sizeU_own a) (ownW_range _) HRN.out; rwa [HT.out] at this
        have HWO : Hid (∀ W', Calls Try.prog 21 #[.agg #[.iface 47 (.agg #[.int .i64 b])]] W' fun e w' => e = .returned (.int .i64 O) ∧ Below W'.heap.size W' w') := fun W' => by
          have := optUWords W' _ _ (sizeU_own b) (ownW_range _); rwa [hO] at this
        clear hO HVA HVB
        have p0 := Hg1w3.out.cell 0
        have p1 := Hg1w3.out.cell 1
        have pl := Hg1w3.out.lt
        have q0 := Hg2w3.out.cell 0
        have q1 := Hg2w3.out.cell 1
        have ql := Hg2w3.out.lt
        have o0 := Hg3w3.out.cell 0
        have ol := Hg3w3.out.lt
        go_upto_region 19 with (first
          | (go_at_call 19; refine (HWP.out _).mono ?_; rintro e w' ⟨rfl, hb⟩; obtain ⟨x, rfl⟩ := bx_of hb; clear hb)
          | (go_at_call 20; refine (HWA.out _).mono ?_; rintro e w' ⟨rfl, hb⟩; obtain ⟨y, rfl⟩ := bx_of hb; clear hb)
          | (go_at_call 21; refine (HWO.out _).mono ?_; rintro e w' ⟨rfl, hb⟩; obtain ⟨z, rfl⟩ := bx_of hb; clear hb))
        obtain ⟨g4, hg4⟩ : ∃ g, z.w.heap.size = g := ⟨_, rfl⟩
        obtain ⟨w5, hw5⟩ : ∃ w5, z.w.alloc (.cells #[.int .u64 3] 26) = w5 := ⟨_, rfl⟩
        have hbz : Below wc.heap.size wc w5 := by rw [← hw5]; (repeat (first | with_reducible exact Below.refl _ _ | with_reducible refine bl_alloc ?_ _ | with_reducible refine bl_drew ?_ | with_reducible refine bl_drewN ?_ _ | with_reducible refine bl_bx ?_ _ | with_reducible exact BX.below _ | with_reducible refine bl_set ?_ (by first | (exact Nat.le_refl _) | (simp; done) | (simp; omega)) _ | assumption))
        have hc4 : CB w5 g4 26 #[.int .u64 3] := by rw [← hw5, ← hg4]; exact CB.new _ _ _
        rw [hw5, hg4]
        have HBw5 : Hid (Below w.heap.size w w5) := HBw3.out.trans (hbz.mono HBw3.out.size)
        have Hg1w5 := Lib.hid (Hg1w3.out.below hbz)
        have Hg3w5 := Lib.hid (Hg3w3.out.below hbz)
        have Hg4w5 := Lib.hid hc4
        clear hw5 hg4 hbz hc4 p0 p1 pl q0 q1 ql o0 ol hWW hTT hOO HWA
        have p0 := Hg1w5.out.cell 0
        have p1 := Hg1w5.out.cell 1
        have pl := Hg1w5.out.lt
        go_upto_if 112 with (fail)
        go_cut [15, 16, 17, 18, 19, 20, 21, 112] from 113 (fun _ _ _ _ _ _ _ _ wx => Below w5.heap.size w5 wx)
        case first => as_aux_lemma =>
          have ho := own_pair a b
          rw [HW.out] at ho
          cases hP : paB a b with
          | false =>
            rw [hP] at ho
            have h0 : W = 0 := ho
            subst h0
            have HDB := Lib.hid (fun W' A l cp => pairUUDecode_bad W' (.iface 47 (.agg #[.int .i64 a])) (.iface 47 (.agg #[.int .i64 b])) A l cp HWP.out)
            have HEB := Lib.hid (fun W' A l cp => pairUUEncode_bad W' (.iface 47 (.agg #[.int .i64 a])) (.iface 47 (.agg #[.int .i64 b])) (.int .u64 0) A l cp 3 4 HWP.out)
            have HPL := Lib.hid (fun W' => planUU_bad W' 0 (.iface 51 (.agg #[.iface 47 (.agg #[.int .i64 a]), .iface 47 (.agg #[.int .i64 b])])) 0 0 (fun W'' => sizeUU_any W'' _ 0 HWP.out (by omega)))
            clear ho hP
            go_wp2_with (first
              | (go_at_call 22; refine (HDB.out _ _ _ _).mono ?_; rintro e w' ⟨rfl, hb⟩; obtain ⟨u, rfl⟩ := bx_of hb; clear hb; have hpu := Hg1w5.out.below (show Below w5.heap.size w5 u.w by (repeat (first | with_reducible exact Below.refl _ _ | with_reducible refine bl_alloc ?_ _ | with_reducible refine bl_drew ?_ | with_reducible refine bl_drewN ?_ _ | with_reducible refine bl_bx ?_ _ | with_reducible exact BX.below _ | with_reducible refine bl_set ?_ (by first | (exact Nat.le_refl _) | (simp; done) | (simp; omega)) _ | assumption))); have pu0 := hpu.cell 0; have pu1 := hpu.cell 1; have pul := hpu.lt; clear hpu)
              | (go_at_call 23; refine (HPL.out _).mono ?_; rintro e w' ⟨rfl, hb⟩; obtain ⟨v, rfl⟩ := bx_of hb; clear hb; have hpv := Hg1w5.out.below (show Below w5.heap.size w5 v.w by (repeat (first | with_reducible exact Below.refl _ _ | with_reducible refine bl_alloc ?_ _ | with_reducible refine bl_drew ?_ | with_reducible refine bl_drewN ?_ _ | with_reducible refine bl_bx ?_ _ | with_reducible exact BX.below _ | with_reducible refine bl_set ?_ (by first | (exact Nat.le_refl _) | (simp; done) | (simp; omega)) _ | assumption))); have pv0 := hpv.cell 0; have pv1 := hpv.cell 1; have pvl := hpv.lt; clear hpv)
              | (go_at_call 24; refine (HEB.out _ _ _ _).mono ?_; rintro e w' ⟨rfl, hb⟩; obtain ⟨s, rfl⟩ := bx_of hb; clear hb))
            go_meet
            case rel => exact (by (repeat (first | with_reducible exact Below.refl _ _ | with_reducible refine bl_alloc ?_ _ | with_reducible refine bl_drew ?_ | with_reducible refine bl_drewN ?_ _ | with_reducible refine bl_bx ?_ _ | with_reducible exact BX.below _ | with_reducible refine bl_set ?_ (by first | (exact Nat.le_refl _) | (simp; done) | (simp; omega)) _ | assumption)))
          | true =>
            rw [hP] at ho
            unfold paB at hP
            simp only [Bool.and_eq_true, decide_eq_true_iff] at hP
            obtain ⟨⟨k1, k2⟩, k3⟩ := hP
            have k1 := (vaB_iff a).1 k1
            have k2 := (vaB_iff b).1 k2
            have ho' : W = a + b := ho
            obtain ⟨na, hna⟩ : ∃ na : Nat, a = (na : Int) := ⟨a.toNat, by omega⟩
            obtain ⟨nb, hnb⟩ : ∃ nb : Nat, b = (nb : Int) := ⟨b.toNat, by omega⟩
            subst hna hnb
            obtain ⟨m, hm⟩ : ∃ m : Nat, m = na + nb := ⟨_, rfl⟩
            have hWm : W = (m : Int) := by omega
            subst hWm
            have hm4 : m ≤ 4096 := by omega
            have hna1 : 1 ≤ na := by omega
            have hnb1 : 1 ≤ nb := by omega
            have HM := Lib.hid hm
            have hmk := fun W => run_make_z (P := Try.prog) 31 26 .u64 .i64 .i64 (m : Int) m (by omega) Try.underlying31 8 info_u64 (by omega) (by omega) W
            have hm0 : ((m : Int) == 0) = false := by simp; omega
            have hm1 : ¬ m = 0 := by omega
            have hm3 : 0 < m := by omega
            have hm3' : (0 : Int) < (m : Int) := by omega
            have hna2 : na < m := by omega
            have hna2' : (na : Int) < (m : Int) := by omega
            clear k1 k2 k3 ho ho' hm
            go_upto_region 26 with (fail)
            obtain ⟨gt, hgt⟩ : ∃ g, w5.heap.size = g := ⟨_, rfl⟩
            obtain ⟨w6, hw6⟩ : ∃ w6, (w5.alloc (.cells (ia .u64 (List.replicate m 0)) 26)).alloc (.cells #[.int .u64 0, .int .u64 0] 58) = w6 := ⟨_, rfl⟩
            have hI6 : IB .u64 26 w6 gt (List.replicate m 0) := by rw [← hw6, ← hgt]; exact (IB.new w5 _).alloc _
            have hv6 : CB w6 (gt + 1) 58 #[.int .u64 0, .int .u64 0] := by rw [← hw6, ← hgt]; exact CB.new_at _ _ _ (by simp)
            have hb6 : Below w5.heap.size w5 w6 := by rw [← hw6]; (repeat (first | with_reducible exact Below.refl _ _ | with_reducible refine bl_alloc ?_ _ | with_reducible refine bl_drew ?_ | with_reducible refine bl_drewN ?_ _ | with_reducible refine bl_bx ?_ _ | with_reducible exact BX.below _ | with_reducible refine bl_set ?_ (by first | (exact Nat.le_refl _) | (simp; done) | (simp; omega)) _ | assumption))
            have hg1t : g1 < gt := by have := Hg1w5.out.lt; omega
            have hp6 := Hg1w5.out.below hb6
            rw [hw6, hgt]
            have HBgt : Hid (w5.heap.size = gt) := hgt
            clear hw6 p0 p1 pl hgt
            have HV6 := Lib.hid hv6
            have HP6 := Lib.hid hp6
            have HB56 := Lib.hid hb6
            obtain ⟨L, hL⟩ : ∃ L, ownE 3 na ++ ownE 4 nb = L := ⟨_, rfl⟩
            have hLl : L.length = m := by rw [← hL, List.length_append, length_ownE, length_ownE, HM.out]
            have hL0 : L[0]? = some 3 := by
              obtain ⟨k, rfl⟩ : ∃ k, na = k + 1 := ⟨na - 1, by omega⟩
              rw [← hL]; simp [ownE, List.replicate_succ]
            have hLa : L[na]? = some 4 := by
              obtain ⟨k, rfl⟩ : ∃ k, nb = k + 1 := ⟨nb - 1, by omega⟩
              rw [← hL, List.getElem?_append_right (by rw [length_ownE]; omega), length_ownE, Nat.sub_self]; simp [ownE, List.replicate_succ]
            have HL := Lib.hid (And.intro hL (And.intro hLl (And.intro hL0 hLa)))
            have HEN1 : Hid (Calls Try.prog 24 #[.agg #[.iface 47 (.agg #[.int .i64 (na : Int)]), .iface 47 (.agg #[.int .i64 (nb : Int)])], .agg #[.int .u64 3, .int .u64 4], .slice (some ⟨gt, 0, none⟩) m m] w6 (EncPost w6 (some L) gt 0 (List.replicate m 0))) := by
              have := pairUUEncode w6 na nb m hna1 hnb1 HM.out hm4 3 4 (by omega) gt 0 m (List.replicate m 0) hI6 (by simp) (Nat.le_refl _)
              rwa [show pairE 3 4 na nb = some L from by rw [← hL]; exact if_pos (by omega)] at this
            have HEN2 : Hid (∀ W, IB .u64 26 W gt L → Calls Try.prog 24 #[.agg #[.iface 47 (.agg #[.int .i64 (na : Int)]), .iface 47 (.agg #[.int .i64 (nb : Int)])], .agg #[.int .u64 3, .int .u64 10], .slice (some ⟨gt, 0, none⟩) m m] W (fun e w' => e = .returned (.bool false) ∧ Below W.heap.size W w')) := fun W hW => by
              have := pairUUEncode W na nb m hna1 hnb1 HM.out hm4 3 10 (by omega) gt 0 m L hW (by rw [hLl]; omega) (Nat.le_refl _)
              rwa [show pairE 3 10 na nb = none from if_neg (by omega)] at this
            have HDEC : Hid (∀ W, IB .u64 26 W gt L → Calls Try.prog 22 #[.agg #[.iface 47 (.agg #[.int .i64 (na : Int)]), .iface 47 (.agg #[.int .i64 (nb : Int)])], .slice (some ⟨gt, 0, none⟩) m m] W fun e w' => e = .returned (.tuple #[.agg #[.int .u64 3, .int .u64 4], .bool true]) ∧ Below W.heap.size W w') := fun W hW =>
              pairUUDecode_own W na nb m hna1 hnb1 HM.out hm4 3 4 (by omega) (by omega) gt 0 m (by rw [hL]; exact hW.rd0) hW.lt (Nat.le_refl _)
            have p0 := hp6.cell 0
            have p1 := hp6.cell 1
            have pl := hp6.lt
            clear hL hLl hL0 hLa hI6 hv6 hp6 hb6
            go_upto_region 27 with (go_at_call 24; (with_reducible refine HEN1.out.mono ?_); rintro e w7 ⟨rfl, hI, hC⟩; rw [show splice (List.replicate m 0) 0 L = L by simp [splice, HL.out.2.1]] at hI; have HI7 := Lib.hid hI; have HC7 := Lib.hid hC; clear hI hC)
            clear p0 p1 pl HEN1
            have hp7 := HP6.out.ch HC7.out (fun h => by unfold At at h; omega)
            have hv7 := HV6.out.ch HC7.out (fun h => by unfold At at h; omega)
            have HB7 : Hid (Below w5.heap.size w5 w7) := bl_ch HB56.out HC7.out (fun b hb => by unfold At at hb; have := HBgt.out; omega)
            have p0 := hp7.cell 0
            have p1 := hp7.cell 1
            have pl := hp7.lt
            have HP7 := Lib.hid hp7
            have HV7 := Lib.hid hv7
            clear hp7 hv7 HP6 HV6 HC7 HB56
            have HD7 := Lib.hid (HDEC.out w7 HI7.out)
            go_upto_region 28 with (go_at_call 22; (with_reducible refine HD7.out.mono ?_); rintro e w8 ⟨rfl, hb⟩; have HB8 := Lib.hid hb; have hv8 := HV7.out.below hb; have f0 := hv8.frozen 0; have f1 := hv8.frozen 1; have vl := hv8.lt; have v0 := hv8.cell 0; have v1 := hv8.cell 1; clear hb hv8)
            obtain ⟨w9, hw9⟩ : ∃ w9, (w8.setCell ⟨gt + 1, 0, none⟩ (.int .u64 3)).setCell ⟨gt + 1, 1, none⟩ (.int .u64 4) = w9 := ⟨_, rfl⟩
            have hblk : ∀ b, b ≠ gt + 1 → w9.heap[b]? = w8.heap[b]? := fun b hb => by rw [← hw9]; exact (Below.heap_setCell _ ⟨gt + 1, 1, none⟩ _ b hb).trans (Below.heap_setCell w8 ⟨gt + 1, 0, none⟩ _ b hb)
            have hv9 : CB w9 (gt + 1) 58 #[.int .u64 3, .int .u64 4] := by rw [← hw9]; exact ((HV7.out.below HB8.out).set 0 (.int .u64 3)).set 1 (.int .u64 4)
            have hI9 : IB .u64 26 w9 gt L := (hblk gt (by omega)).trans (HI7.out.below HB8.out HI7.out.lt)
            have hp9 := (HP7.out.below HB8.out).keep (hblk g1 (by omega))
            have HB9 : Hid (Below w5.heap.size w5 w9) := by
              show Below _ _ _
              rw [← hw9]
              have hg := HBgt.out
              exact bl_set (bl_set (HB7.out.trans (HB8.out.mono HB7.out.size)) (by show _ ≤ gt + 1; omega) _) (by show _ ≤ gt + 1; omega) _
            rw [hw9]
            clear hw9 f0 f1 vl v0 v1 p0 p1 pl hblk HV7
            have p0 := hp9.cell 0
            have p1 := hp9.cell 1
            have pl := hp9.lt
            have v0 := hv9.cell 0
            have v1 := hv9.cell 1
            have vl := hv9.lt
            have il := hI9.lt
            have i0 : w9.cell? ⟨gt, 0, none⟩ = some (.int .u64 3) := by
              rw [hI9.cell (i := 0) (by rw [HL.out.2.1]; exact hm3)]
              have := HL.out.2.2.1
              rw [List.getElem?_eq_getElem (by rw [HL.out.2.1]; exact hm3)] at this
              injection this with this
              rw [this]
            have ia : w9.cell? ⟨gt, na, none⟩ = some (.int .u64 4) := by
              rw [hI9.cell (i := na) (by rw [HL.out.2.1]; exact hna2)]
              have := HL.out.2.2.2
              rw [List.getElem?_eq_getElem (by rw [HL.out.2.1]; exact hna2)] at this
              injection this with this
              rw [this]
            have HE9 := Lib.hid (HEN2.out w9 hI9)
            clear hp9 hv9 hI9
            go_wp2_with (go_at_call 24; (with_reducible refine HE9.out.mono ?_); rintro e w10 ⟨rfl, hb⟩; have HB10 := Lib.hid (HB9.out.trans (hb.mono HB9.out.size)); clear hb)
            go_meet
            case rel => exact HB10.out
        case rest =>
          clear p0 p1 pl
          have HB6 := Lib.hid hcut
          have HBw6 : Hid (Below w.heap.size w wc) := HBw5.out.trans (hcut.mono HBw5.out.size)
          have hc3 := Hg3w5.out.below hcut
          have hc4 := Hg4w5.out.below hcut
          clear hcut
          have o0 := hc3.cell 0
          have ol := hc3.lt
          have t0 := hc4.cell 0
          have tl := hc4.lt
          have Hg3w6 := Lib.hid hc3
          have Hg4w6 := Lib.hid hc4
          clear hc3 hc4 HWP
          have ho := own_opt b
          rw [HO.out] at ho
          cases hB : opB b with
          | false =>
            rw [hB] at ho
            have h0 : O = 0 := ho
            subst h0
            have HDB := Lib.hid (fun W' A l cp => optUDecode_bad W' (.iface 47 (.agg #[.int .i64 b])) A l cp HWO.out)
            have HEB := Lib.hid (fun W' p A l cp => optUEncode_bad W' (.iface 47 (.agg #[.int .i64 b])) p A l cp HWO.out)
            clear ho hB
            go_wp2_with (first
              | (go_at_call 25; refine (HDB.out _ _ _ _).mono ?_; rintro e w' ⟨rfl, hb⟩; obtain ⟨u, rfl⟩ := bx_of hb; clear hb)
              | (go_at_call 26; refine (HEB.out _ _ _ _ _).mono ?_; rintro e w' ⟨rfl, hb⟩; obtain ⟨v, rfl⟩ := bx_of hb; clear hb))
            go_ret
            exact ⟨rfl, HBw6.out.trans (Below.mono (by (repeat (first | with_reducible exact Below.refl _ _ | with_reducible refine bl_alloc ?_ _ | with_reducible refine bl_drew ?_ | with_reducible refine bl_drewN ?_ _ | with_reducible refine bl_bx ?_ _ | with_reducible exact BX.below _ | with_reducible refine bl_set ?_ (by first | (exact Nat.le_refl _) | (simp; done) | (simp; omega)) _ | assumption))) HBw6.out.size)⟩
          | true =>
            rw [hB] at ho
            unfold opB at hB
            simp only [Bool.and_eq_true, decide_eq_true_iff] at hB
            obtain ⟨k2, k3⟩ := hB
            have k2 := (vaB_iff b).1 k2
            have ho' : O = b + 1 := ho
            obtain ⟨nb, hnb⟩ : ∃ nb : Nat, b = (nb : Int) := ⟨b.toNat, by omega⟩
            subst hnb
            obtain ⟨m, hm⟩ : ∃ m : Nat, m = nb + 1 := ⟨_, rfl⟩
            have hOm : O = (m : Int) := by omega
            subst hOm
            have hm4 : m ≤ 4096 := by omega
            have hnb1 : 1 ≤ nb := by omega
            have HM := Lib.hid hm
            have hmk := fun W => run_make_z (P := Try.prog) 31 26 .u64 .i64 .i64 (m : Int) m (by omega) Try.underlying31 8 info_u64 (by omega) (by omega) W
            have hm0 : ((m : Int) == 0) = false := by simp; omega
            have hm1 : ¬ m = 0 := by omega
            have hm2 : 1 < m := by omega
            have hm2' : (1 : Int) < (m : Int) := by omega
            have hm3 : 0 < m := by omega
            have hm3' : (0 : Int) < (m : Int) := by omega
            clear k2 k3 ho ho' hm
            go_upto_region 34 with (fail)
            obtain ⟨gt, hgt⟩ : ∃ g, wc.heap.size = g := ⟨_, rfl⟩
            obtain ⟨w7, hw7⟩ : ∃ w7, wc.alloc (.cells (ia .u64 (List.replicate m 0)) 26) = w7 := ⟨_, rfl⟩
            have hI7 : IB .u64 26 w7 gt (List.replicate m 0) := by rw [← hw7, ← hgt]; exact IB.new wc _
            have hb7 : Below wc.heap.size wc w7 := by rw [← hw7]; (repeat (first | with_reducible exact Below.refl _ _ | with_reducible refine bl_alloc ?_ _ | with_reducible refine bl_drew ?_ | with_reducible refine bl_drewN ?_ _ | with_reducible refine bl_bx ?_ _ | with_reducible exact BX.below _ | with_reducible refine bl_set ?_ (by first | (exact Nat.le_refl _) | (simp; done) | (simp; omega)) _ | assumption))
            have hg3t : g3 < gt := by omega
            have hg4t : g4 < gt := by omega
            have HBt : Hid (wc.heap.size = gt) := hgt
            have ho7 := Hg3w6.out.below hb7
            have ht7 := Hg4w6.out.below hb7
            rw [hw7, hgt]
            have HB7 := Lib.hid hb7
            have HO7 := Lib.hid ho7
            clear hw7 hgt o0 ol t0 tl hb7
            have o0 := ho7.cell 0
            have ol := ho7.lt
            have HES : Hid (Calls Try.prog 26 #[.agg #[.iface 47 (.agg #[.int .i64 (nb : Int)])], .pointer (some ⟨g4, 0, none⟩), .slice (some ⟨gt, 0, none⟩) m m] w7 (EncPost w7 (some (1 :: ownE 3 nb)) gt 0 (List.replicate m 0))) :=
              optUEncode_some w7 nb m hnb1 HM.out hm4 g4 0 3 (by omega) (ht7.cell 0) ht7.lt gt 0 m (List.replicate m 0) hI7 (by simp) (Nat.le_refl _)
            have HOL : Hid ((1 :: ownE 3 nb).length = m) := (show _ = _ by rw [List.length_cons, length_ownE, HM.out])
            have HDEC : Hid (∀ W, IB .u64 26 W gt (1 :: ownE 3 nb) → Calls Try.prog 25 #[.agg #[.iface 47 (.agg #[.int .i64 (nb : Int)])], .slice (some ⟨gt, 0, none⟩) m m] W fun e w' => ∃ q, e = .returned (.tuple #[.pointer (some ⟨q, 0, none⟩), .bool true]) ∧ W.heap.size ≤ q ∧ q < w'.heap.size ∧ w'.cell? ⟨q, 0, none⟩ = some (.int .u64 3) ∧ Below W.heap.size W w') := fun W hW =>
              optUDecode_some W nb m hnb1 HM.out hm4 3 (by omega) gt 0 m hW.rd0 hW.lt (Nat.le_refl _)
            have HEN : Hid (∀ W, IB .u64 26 W gt (1 :: ownE 3 nb) → Calls Try.prog 26 #[.agg #[.iface 47 (.agg #[.int .i64 (nb : Int)])], .pointer none, .slice (some ⟨gt, 0, none⟩) m m] W (EncPost W (some (List.replicate m 0)) gt 0 (1 :: ownE 3 nb))) := fun W hW =>
              optUEncode_nil W nb m hnb1 HM.out hm4 gt 0 m (1 :: ownE 3 nb) hW (by rw [HOL.out]; omega) (Nat.le_refl _)
            clear hI7 ho7 ht7
            have HONE : Hid (∀ W, IB .u64 26 W gt (1 :: ownE 3 nb) → W.cell? ⟨gt, 0, none⟩ = some (.int .u64 1) ∧ W.cell? ⟨gt, 1, none⟩ = some (.int .u64 3)) := fun W hW => by
              obtain ⟨k, hk⟩ : ∃ k, nb = k + 1 := ⟨nb - 1, by omega⟩
              have h0 := hW.cell (i := 0) (by rw [HOL.out]; exact hm3)
              have h1 := hW.cell (i := 1) (by rw [HOL.out]; exact hm2)
              subst hk
              exact ⟨by rw [h0]; rfl, by rw [h1]; simp [ownE, List.replicate_succ]⟩
            have HZER : Hid (∀ W, IB .u64 26 W gt (List.replicate m 0) → W.cell? ⟨gt, 0, none⟩ = some (.int .u64 0) ∧ W.cell? ⟨gt, 1, none⟩ = some (.int .u64 0)) := fun W hW => by
              have h0 := hW.cell (i := 0) (by simpa using hm3)
              have h1 := hW.cell (i := 1) (by simpa using hm2)
              exact ⟨by rw [h0]; simp, by rw [h1]; simp⟩
            go_upto_region 36 with (go_at_call 26; (with_reducible refine HES.out.mono ?_); rintro e w8 ⟨rfl, hI, hC⟩; rw [show splice (List.replicate m 0) 0 (1 :: ownE 3 nb) = 1 :: ownE 3 nb by simp [splice, length_ownE, HM.out]] at hI; have HI8 := Lib.hid hI; have HC8 := Lib.hid hC; have il := hI.lt; obtain ⟨i0, i1⟩ := HONE.out w8 hI; clear hI hC)
            clear i0 i1 il o0 ol HES
            have ho8 := HO7.out.ch HC8.out (fun h => by unfold At at h; omega)
            have HB8 : Hid (Below wc.heap.size wc w8) := bl_ch HB7.out HC8.out (fun b hb => by unfold At at hb; have := HBt.out; omega)
            have o0 := ho8.cell 0
            have ol := ho8.lt
            have HO8 := Lib.hid ho8
            have HD8 := Lib.hid (HDEC.out w8 HI8.out)
            clear ho8
            go_upto_region 37 with (go_at_call 25; (with_reducible refine HD8.out.mono ?_); rintro e w9 ⟨q, rfl, hq1, hq2, hq3, hb⟩; have HB9 := Lib.hid hb; clear hb)
            have hI9 := HI8.out.below HB9.out HI8.out.lt
            have ho9 := HO8.out.below HB9.out
            have HBB9 : Hid (Below wc.heap.size wc w9) := HB8.out.trans (HB9.out.mono HB8.out.size)
            clear o0 ol
            have o0 := ho9.cell 0
            have ol := ho9.lt
            have HE9 := Lib.hid (HEN.out w9 hI9)
            clear hI9 ho9
            go_wp2_with (go_at_call 26; (with_reducible refine HE9.out.mono ?_); rintro e w10 ⟨rfl, hI, hC⟩; rw [show splice (1 :: ownE 3 nb) 0 (List.replicate m 0) = List.replicate m 0 by simp [splice, length_ownE, HM.out]] at hI; have HC10 := Lib.hid hC; have il := hI.lt; obtain ⟨i0, i1⟩ := HZER.out w10 hI; clear hI hC)
            go_ret
            refine ⟨rfl, HBw6.out.trans (Below.mono (bl_ch HBB9.out HC10.out (fun b hb => by unfold At at hb; have := HBt.out; omega)) HBw6.out.size)⟩
end Go.Proofs.Ytlbgmoijepknbaa
