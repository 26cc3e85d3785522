/- The law EpochHolds returns true. -/
import Derived.Test.YtljolgcmkejlnaaEpInv
import Derived.Test.YtljolgcmkejlnaaRow
import Derived.Deep.Cut
namespace Go.Proofs.Ytljolgcmkejlnaa
open Go.RowKit
set_option linter.unusedVariables false

theorem freeB_zero {e : Int} {an : Nat → Int} (h : ∀ j, j < 8 → an j = 0) : freeB e an = true := by
  unfold freeB
  rw [List.all_eq_true]
  intro j hj
  simp [busyB, h j (by simpa using hj)]
theorem safeB_zero {e : Int} {an : Nat → Int} {r : Int} (h : ∀ j, j < 8 → an j = 0) (hr : r < e) : safeB e an r = true := by
  unfold safeB
  rw [decide_eq_true hr, Bool.true_and, List.all_eq_true]
  intro j hj
  simp [holdB, h j (by simpa using hj)]
/-- A clock of which the first k threads announce nothing. -/
def ZInv (w : World) (d : Nat) (t : Nat → Nat) (c k : Nat) (e : Int) (N : Nat) (wr : World) : Prop :=
  ∃ F S an, Ep F d t c wr S 4 2 (wE 4 2 e) e an N ∧ (∀ j, j < k → an j = 0) ∧ (∀ b, F b → w.heap.size ≤ b) ∧ w.heap.size ≤ c ∧ Below w.heap.size w wr
section
variable {w : World} {d : Nat} {t : Nat → Nat} {c k : Nat} {e : Int} {N : Nat} {wr : World}
theorem zInv_exit (h : ZInv w d t c k e N wr) (hk : k < 8) : Calls Try.prog 19 #[.pointer (some ⟨c, 0, none⟩), .int .i64 (k : Int)] wr fun r w' => (∃ y, r = .returned (.int .i64 y)) ∧ ZInv w d t c (k + 1) e N w' := by
  obtain ⟨F, S, an, hE, hz, hF, hc, hB⟩ := h
  refine (ckExit_any hE (k : Int)).mono ?_
  rintro r w' ⟨rfl, S2, hE2, hC2⟩
  refine ⟨⟨_, rfl⟩, F, S2, _, hE2, fun j hj => ?_, hF, hc, bl_ch hB hC2 (fun b hb => by
    rcases hb with h | h
    · exact hF b h
    · omega)⟩
  unfold exitF
  rw [if_neg (by omega), Int.toNat_natCast]
  by_cases ha : an k = 0
  · rw [if_pos ha]
    by_cases hjk : j = k
    · rw [hjk]; exact ha
    · exact hz j (by omega)
  · rw [if_neg ha]
    simp only [setAn]
    by_cases hjk : j = k
    · rw [if_pos hjk]
    · rw [if_neg hjk]; exact hz j (by omega)
theorem hoInv_exit {r : Int} {an : Nat → Int} (h : HoInv w d t c r 0 e an N wr) : Calls Try.prog 19 #[.pointer (some ⟨c, 0, none⟩), .int .i64 0] wr fun x w' => x = .returned (.int .i64 0) ∧ ZInv w d t c 1 e N w' := by
  obtain ⟨F, S, hE, ha, hr1, hr2, hF, hc, hB⟩ := h
  refine (ckExit_ok hE 0 (by omega) (by rw [ha]; omega)).mono ?_
  rintro x w' ⟨rfl, S2, hE2, hC2⟩
  refine ⟨rfl, F, S2, _, hE2, fun j hj => ?_, hF, hc, bl_ch hB hC2 (fun b hb => by
    rcases hb with h | h
    · exact hF b h
    · omega)⟩
  obtain rfl : j = 0 := by omega
  simp [setAn]
/-- A clock that announces nothing advances, and what was removed before is safe. -/
theorem zInv_adv (h : ZInv w d t c 8 e N wr) (he : e < 2147483647) (hN : N + 3 < 1000000) : Calls Try.prog 15 #[.pointer (some ⟨c, 0, none⟩), .int .i64 3] wr fun r w' => r = .returned (.tuple #[.int .u64 (e + 1), .int .i64 0]) ∧ ZInv w d t c 8 (e + 1) (N + 3) w' := by
  obtain ⟨F, S, an, hE, hz, hF, hc, hB⟩ := h
  refine (ckAdvance_ok hE (wE_length 4 2 e) he hN 3 (by omega) (freeB_zero hz)).mono ?_
  rintro r w' ⟨rfl, S2, hE2, hC2⟩
  rw [wE_set] at hE2
  exact ⟨rfl, F, S2, an, hE2, hz, hF, hc, bl_ch hB hC2 (fun b hb => by
    rcases hb with h | h
    · exact hF b h
    · omega)⟩
theorem zInv_now (h : ZInv w d t c k e N wr) : Calls Try.prog 16 #[.pointer (some ⟨c, 0, none⟩)] wr fun r w' => r = .returned (.int .u64 e) ∧ wr = w' := by
  obtain ⟨F, S, an, hE, _⟩ := h
  exact ckNow hE
theorem zInv_safe (h : ZInv w d t c 8 e N wr) (x : Int) : Calls Try.prog 18 #[.pointer (some ⟨c, 0, none⟩), .int .u64 x] wr fun r w' => r = .returned (.bool (decide (x < e))) ∧ wr = w' := by
  obtain ⟨F, S, an, hE, hz, _⟩ := h
  have h1 := ckSafe hE x
  by_cases hx : x < e
  · rw [safeB_zero hz hx] at h1
    rwa [decide_eq_true hx]
  · rw [show safeB e an x = false by unfold safeB; rw [decide_eq_false hx]; rfl] at h1
    rwa [decide_eq_false hx]
end
/-- What do leaves beside a thread that stays inside. -/
def HoPost (w : World) (d : Nat) (t : Nat → Nat) (c : Nat) (r : Int) (e : Int) (N : Nat) (x : Ending) (w' : World) : Prop :=
  ∃ e1 an1 b e' an', x = .returned (.tuple #[.pointer (some ⟨c, 0, none⟩), rcv e1 an1, .bool b]) ∧ HoInv w d t c r 0 e' an' (N + 3) w' ∧ e ≤ e' ∧ e' ≤ e + 1
theorem hoInv_do {w : World} {d : Nat} {t : Nat → Nat} {c : Nat} {r e : Int} {an : Nat → Int} {N : Nat} {wr w1 : World} (h : HoInv w d t c r 0 e an N wr) (hb : Below wr.heap.size wr w1) (k z : Int) (hk : -9223372036854775808 ≤ k ∧ k < 9223372036854775808) (hk3 : k % 4 ≠ 3) (hz : z ≠ 0) (he : e < 1000000) (hN : N + 3 < 1000000) :
    Calls Try.prog 11 #[.pointer (some ⟨d, 0, none⟩), .pointer (some ⟨c, 0, none⟩), rcv 0 (fun _ => 0), .agg #[.int .i64 k, .int .i64 z]] w1 (HoPost w d t c r e N) := by
  obtain ⟨F, S, hE, ha, hr1, hr2, hF, hc, hB⟩ := h
  have hs := hB.size
  refine (do18 (hE.below hb) 0 (fun _ => 0) k z hk (by omega) (by omega) hN).mono ?_
  rintro x w' ⟨F3, c3, S3, b3, rfl, _, hE3, hF3, _, hcc, hC3⟩
  obtain rfl := hcc hk3
  obtain ⟨d1, d2, d3⟩ := doS_keep (e := e) (an := an) 0 hk3 hz
  refine ⟨_, _, _, _, _, rfl, ⟨F3, S3, hE3, d1.trans ha, hr1, by omega, fun b hb => hF b (hF3 b hb), hc, ?_⟩, d2, d3⟩
  refine bl_ch (hB.trans (hb.mono hs)) hC3 (fun b hb => ?_)
  rcases hb with h | h
  · exact hF b h
  · omega
theorem hoInv_safe {w : World} {d : Nat} {t : Nat → Nat} {c : Nat} {r e : Int} {an : Nat → Int} {N : Nat} {wr : World} (h : HoInv w d t c r 0 e an N wr) : Calls Try.prog 18 #[.pointer (some ⟨c, 0, none⟩), .int .u64 r] wr fun x w' => x = .returned (.bool false) ∧ wr = w' := by
  obtain ⟨F, S, hE, ha, hr1, hr2, hF, hc, hB⟩ := h
  have := ckSafe hE r
  rwa [safeB_held (by omega) ha hr1] at this
theorem hoInv_keep {w : World} {d : Nat} {t : Nat → Nat} {c : Nat} {r e : Int} {i : Nat} {an : Nat → Int} {N : Nat} {wr w1 : World} (h : HoInv w d t c r i e an N wr) (hb : Below wr.heap.size wr w1) : HoInv w d t c r i e an N w1 := by
  obtain ⟨F, S, hE, ha, hr1, hr2, hF, hc, hB⟩ := h
  exact ⟨F, S, hE.below hb, ha, hr1, hr2, hF, hc, hB.trans (hb.mono hB.size)⟩
theorem hoInv_below {w : World} {d : Nat} {t : Nat → Nat} {c : Nat} {r e : Int} {i : Nat} {an : Nat → Int} {N : Nat} {wr : World} (h : HoInv w d t c r i e an N wr) : Below w.heap.size w wr := by
  obtain ⟨F, S, hE, ha, hr1, hr2, hF, hc, hB⟩ := h
  exact hB
theorem zInv_below {w : World} {d : Nat} {t : Nat → Nat} {c k : Nat} {e : Int} {N : Nat} {wr : World} (h : ZInv w d t c k e N wr) : Below w.heap.size w wr := by
  obtain ⟨F, S, an, hE, hz, hF, hc, hB⟩ := h
  exact hB
/-- Somewhere in the first two loops. -/
def HolA (w : World) (d : Nat) (t : Nat → Nat) (c o : Nat) (b : Bool) (M : Nat) (wr : World) : Prop := ∃ (e : Int) (N : Nat), 2 ≤ e ∧ e ≤ 2 + (M : Int) ∧ N ≤ 13 + 3 * M ∧ OpInv w d t c o 0 b e N wr
/-- Somewhere in the third loop. -/
def HolB (w : World) (d : Nat) (t : Nat → Nat) (c : Nat) (r : Int) (M : Nat) (wr : World) : Prop := ∃ (e : Int) (an : Nat → Int) (N : Nat), e ≤ 2 + (M : Int) ∧ N ≤ 13 + 3 * M ∧ HoInv w d t c r 0 e an N wr

set_option maxRecDepth 100000 in
set_option maxHeartbeats 4000000 in
theorem law_EpochHolds (w : World) (A : Option Addr) (n cp : Nat) (xs : List Int) (hx : xs.length = n) (hnc : n ≤ cp) (hcm : cp ≤ 9223372036854775807) (hR : Rd .i64 w A xs) (A2 : Option Addr) (n2 cp2 : Nat) (acts : List (Int × Int)) (hA : IsActs w A2 n2 cp2 acts) :
    Calls Try.prog 4 #[.slice A n cp, .slice A2 n2 cp2] w fun r w' => r = .returned (.bool true) ∧ Below w.heap.size w w' := by
  have hnc2 := hA.2.1
  have hcm2 := hA.2.2.1
  have HA := Lib.hid hA
  have HR := Lib.hid hR
  have HX := Lib.hid hx
  clear hA hR hx
  go_enter Try.func4, Try.ntmps4
  go_upto_region 8 with (first
    | (go_at_call 9; refine (begin18 _).mono ?_; rintro r w1 ⟨d, t, c, S, rfl, hE, hc, hb⟩; have HE := Lib.hid hE; have HB := Lib.hid hb; clear hE hb; unfold rcv)
    | (go_at_call 10; refine (awake18 _).mono ?_; rintro r w2 ⟨rfl, hb2⟩; obtain ⟨x, rfl⟩ := bx_of hb2; clear hb2)
    | (go_at_call 13; refine (ckEntering (HE.out.below (by (repeat (first | with_reducible exact Below.refl _ _ | with_reducible refine bl_alloc ?_ _ | with_reducible refine bl_drew ?_ | with_reducible refine bl_drewN ?_ _ | with_reducible refine bl_bx ?_ _ | with_reducible exact BX.below _ | with_reducible refine bl_set ?_ (by first | (exact Nat.le_refl _) | (simp; done) | (simp; omega)) _ | assumption)))) 0 (by omega) rfl).mono ?_; rintro r w3 ⟨rfl, rfl⟩))
  have HI0 : Hid (HolA w d t c x.w.heap.size false 0 (x.w.alloc (.cells (opC c 0 false 0) 78))) := ⟨2, 13, by omega, by omega, by omega, opInv_new HE.out rfl (fun b hb => hb.1) hc HB.out (by (repeat (first | with_reducible exact Below.refl _ _ | with_reducible refine bl_alloc ?_ _ | with_reducible refine bl_drew ?_ | with_reducible refine bl_drewN ?_ _ | with_reducible refine bl_bx ?_ _ | with_reducible exact BX.below _ | with_reducible refine bl_set ?_ (by first | (exact Nat.le_refl _) | (simp; done) | (simp; omega)) _ | assumption)))⟩
  obtain ⟨o, ho⟩ : ∃ o, x.w.heap.size = o := ⟨_, rfl⟩
  obtain ⟨W, hW⟩ : ∃ W, x.w.alloc (.cells (opC c 0 false 0) 78) = W := ⟨_, rfl⟩
  rw [ho, hW] at HI0
  rw [ho, hW]
  clear ho hW HB HE
  iterate 7 go_step
  go_cut [10, 11] from 35 (fun s _ wx => ∃ b, s = .bool b ∧ HolA w d t c o b 30 wx)
  case first =>
    refine wp_block ?_
    go_loopw [11, 10, 35, 36, 37, 38, 39, 40, 41, 42, 43, 44, 45, 46, 47, 48, 49, 50, 51, 52, 53, 54, 55, 56, 57] (fun i s _ _ _ _ _ _ _ _ _ _ _ _ _ _ _ _ _ _ _ _ _ _ _ wr => ∃ (k : Nat) (b : Bool), k ≤ 30 ∧ i = .int .i64 k ∧ s = .bool b ∧ HolA w d t c o b k wr) (fun i _ _ _ _ _ _ _ _ _ _ _ _ _ _ _ _ _ _ _ _ _ _ _ _ _ => 30 - (intOf i).toNat)
    case atStart => exact ⟨0, false, by omega, rfl, rfl, HI0.out⟩
    case round =>
      clear HI0
      obtain ⟨k, b, hk, rfl, rfl, e, N, he1, he2, hN, hI⟩ := hrel
      have HI := Lib.hid hI
      have hBl := opInv_below hI
      have HBl := Lib.hid hBl
      have HEND : Hid (HolA w d t c o b 30 wr) := ⟨e, N, he1, by omega, by omega, hI⟩
      clear hI
      by_cases hi1 : (k : Int) < (n : Int)
      · by_cases hi2 : (k : Int) < 30
        · cases b with
          | true =>
            clear hBl
            go_wp2
            go_meet
            case rel => exact ⟨true, rfl, HEND.out⟩
          | false =>
            have hkl : k < xs.length := by rw [HX.out]; omega
            obtain ⟨b1, o1, rfl, hb1, hc1⟩ := HR.out.at_ hkl
            have hbs := hBl.size
            have hc1' : wr.cell? ⟨b1, o1 + k, none⟩ = some (.int .i64 xs[k]) := (hBl.cell (p := ⟨b1, o1 + k, none⟩) hb1).trans hc1
            have hb1' : b1 < wr.heap.size := by omega
            obtain ⟨v, hv⟩ : ∃ v, xs[k] = v := ⟨_, rfl⟩
            rw [hv] at hc1'
            clear hv hc1 hBl
            by_cases hv0 : v ≥ 0
            · go_wp2_with (go_at_call 14; refine (opInv_step HI.out (by omega)).mono ?_; rintro r w4 ⟨rfl, hI4⟩; have HI4 := Lib.hid hI4; clear hI4)
              exact ⟨⟨k + 1, true, by omega, by go_num, rfl, e, N, he1, by omega, by omega, HI4.out⟩, by simp [intOf]; omega⟩
            · go_wp2_with (go_at_call 15; refine (opInv_adv HI.out (by omega) (by omega) 1 (by omega)).mono ?_; rintro r w4 ⟨a1, a2, e', rfl, _, hI4, he3, he4⟩; have HI4 := Lib.hid hI4; clear hI4)
              exact ⟨⟨k + 1, false, by omega, by go_num, rfl, e', N + 3, by omega, by omega, by omega, HI4.out⟩, by simp [intOf]; omega⟩
        · clear hBl
          go_wp2
          go_meet
          case rel => exact ⟨b, rfl, HEND.out⟩
      · clear hBl
        go_wp2
        go_meet
        case rel => exact ⟨b, rfl, HEND.out⟩
  case rest =>
    clear HI0
    obtain ⟨b, rfl, hA0⟩ := hcut
    have HI1 := Lib.hid hA0
    clear hA0
    go_upto_region 14 with (fail)
    iterate 7 go_step
    go_cut [10, 12] from 58 (fun s _ wx => s = .bool true ∧ HolA w d t c o true 30 wx)
    case first =>
      refine wp_block ?_
      go_loopw [12, 10, 58, 59, 60, 61, 62, 63, 64, 65, 66, 67] (fun i s _ _ _ _ _ _ _ _ _ _ wr => ∃ (k : Nat) (b : Bool), k ≤ 20000 ∧ i = .int .i64 k ∧ s = .bool b ∧ (b = true ∨ k = 0) ∧ HolA w d t c o b 30 wr) (fun i _ _ _ _ _ _ _ _ _ _ _ _ => 20000 - (intOf i).toNat)
      case atStart => exact ⟨0, b, by omega, rfl, rfl, .inr rfl, HI1.out⟩
      case round =>
        clear HI1
        obtain ⟨k, b, hk, rfl, rfl, hbk, hI⟩ := hrel
        have HI := Lib.hid hI
        clear hI
        cases b with
        | true =>
          by_cases hi2 : (k : Int) < 20000
          · go_wp2
            go_meet
            case rel => exact ⟨rfl, HI.out⟩
          · go_wp2
            go_meet
            case rel => exact ⟨rfl, HI.out⟩
        | false =>
          obtain rfl : k = 0 := by
            rcases hbk with h | h
            · cases h
            · exact h
          obtain ⟨e, N, he1, he2, hN, hI⟩ := HI.out
          have HI := Lib.hid hI
          clear hI
          go_wp2_with (go_at_call 14; refine (opInv_step HI.out (by omega)).mono ?_; rintro r w4 ⟨rfl, hI4⟩; have HI4 := Lib.hid hI4; clear hI4)
          exact ⟨⟨1, true, by omega, rfl, rfl, .inl rfl, e, N, he1, he2, hN, HI4.out⟩, by simp [intOf]⟩
    case rest =>
      clear HI1
      obtain ⟨rfl, e, N, he1, he2, hN, hI⟩ := hcut
      have HI := Lib.hid hI
      obtain ⟨an, hH⟩ := opInv_ho hI
      have HH0 : Hid (HolB w d t c e 30 wc) := ⟨e, an, N, he2, hN, hH⟩
      clear hI hH
      go_upto_region 19 with (go_at_call 16; refine (opInv_now HI.out).mono ?_; rintro r w' ⟨rfl, rfl⟩)
      clear HI
      iterate 7 go_step
      go_cut [4, 14, 15] from 70 (fun _ _ _ wx => HolB w d t c e 50 wx)
      case first =>
        refine wp_block ?_
        go_loopw [14, 4, 15, 70, 71, 72, 73, 74, 75, 76, 77, 78, 79, 80, 81, 82, 83, 84, 85, 86, 87, 88, 89, 90, 91, 92, 93, 94, 95, 96, 97, 98, 99, 100] (fun i _ _ _ _ _ _ _ _ _ _ _ _ _ _ _ _ _ _ _ _ _ _ _ _ _ _ _ _ _ _ _ _ _ wr => ∃ k : Nat, k ≤ 12 ∧ i = .int .i64 k ∧ HolB w d t c e (30 + k) wr) (fun i _ _ _ _ _ _ _ _ _ _ _ _ _ _ _ _ _ _ _ _ _ _ _ _ _ _ _ _ _ _ _ _ _ _ => 12 - (intOf i).toNat)
        case atStart => exact ⟨0, by omega, rfl, HH0.out⟩
        case round =>
          clear HH0
          obtain ⟨k, hk, rfl, e1, an1, N1, he3, hN1, hH⟩ := hrel
          have HEND : Hid (HolB w d t c e 50 wr) := ⟨e1, an1, N1, by omega, by omega, hH⟩
          have hBl := hoInv_below hH
          have HH := Lib.hid hH
          clear hH
          by_cases hi1 : (k : Int) < (n2 : Int)
          · by_cases hi2 : (k : Int) < 12
            · have hkl : k < acts.length := by rw [HA.out.1]; omega
              obtain ⟨b, off, hA', hbl, a0, a1, ra0, ra1⟩ := HA.out.2.2.2 k hkl
              obtain ⟨⟨kd, th⟩, hact⟩ : ∃ p, acts[k] = p := ⟨_, rfl⟩
              rw [hact] at a0 a1 ra0 ra1
              have hbs := hBl.size
              have a0' : wr.cell? ⟨b, off + k * 2, none⟩ = some (.int .i64 kd) := (hBl.cell (p := ⟨b, off + k * 2, none⟩) hbl).trans a0
              have a1' : wr.cell? ⟨b, off + k * 2 + 1, none⟩ = some (.int .i64 th) := (hBl.cell (p := ⟨b, off + k * 2 + 1, none⟩) hbl).trans a1
              have hbl' : b < wr.heap.size := by omega
              have HM : Hid (∀ W, Calls Try.prog 17 #[.int .i64 kd, .int .i64 4] W fun r w' => r = .returned (.int .i64 (kd % 4)) ∧ W = w') := fun W => mod18 W kd ra0 4 (by omega)
              have HDO : Hid (kd % 4 ≠ 3 → th ≠ 0 → ∀ W, Below wr.heap.size wr W → Calls Try.prog 11 #[.pointer (some ⟨d, 0, none⟩), .pointer (some ⟨c, 0, none⟩), .agg #[.int .u64 0, .int .u64 0, .int .u64 0, .int .u64 0, .int .u64 0, .int .u64 0, .int .u64 0, .int .u64 0, .int .u64 0], .agg #[.int .i64 kd, .int .i64 th]] W (HoPost w d t c e e1 N1)) := fun h3 h0 W hW => hoInv_do HH.out hW kd th ra0 h3 h0 (by omega) (by omega)
              have hkn : k < n2 := by omega
              subst hA'
              clear hBl hact a0 a1 HEND
              obtain ⟨km, hkm⟩ : ∃ m, kd % 4 = m := ⟨_, rfl⟩
              rw [hkm] at HM HDO
              clear hkm
              by_cases hth : th = 0
              · subst hth
                go_wp2
                exact ⟨⟨k + 1, by omega, by go_num, e1, an1, N1, by omega, by omega, hoInv_keep HH.out (by (repeat (first | with_reducible exact Below.refl _ _ | with_reducible refine bl_alloc ?_ _ | with_reducible refine bl_drew ?_ | with_reducible refine bl_drewN ?_ _ | with_reducible refine bl_bx ?_ _ | with_reducible exact BX.below _ | with_reducible refine bl_set ?_ (by first | (exact Nat.le_refl _) | (simp; done) | (simp; omega)) _ | assumption)))⟩, by simp [intOf]; omega⟩
              · have hthb : (th == 0) = false := by simpa using hth
                by_cases hk3 : km = 3
                · subst hk3
                  go_wp2_with (go_at_call 17; refine (HM.out _).mono ?_; rintro r w' ⟨rfl, rfl⟩)
                  exact ⟨⟨k + 1, by omega, by go_num, e1, an1, N1, by omega, by omega, hoInv_keep HH.out (by (repeat (first | with_reducible exact Below.refl _ _ | with_reducible refine bl_alloc ?_ _ | with_reducible refine bl_drew ?_ | with_reducible refine bl_drewN ?_ _ | with_reducible refine bl_bx ?_ _ | with_reducible exact BX.below _ | with_reducible refine bl_set ?_ (by first | (exact Nat.le_refl _) | (simp; done) | (simp; omega)) _ | assumption)))⟩, by simp [intOf]; omega⟩
                · have hk3b : (km == 3) = false := by simpa using hk3
                  go_wp2_with (first
                    | (go_at_call 17; refine (HM.out _).mono ?_; rintro r w' ⟨rfl, rfl⟩)
                    | (go_at_call 11; refine (HDO.out hk3 hth _ (by (repeat (first | with_reducible exact Below.refl _ _ | with_reducible refine bl_alloc ?_ _ | with_reducible refine bl_drew ?_ | with_reducible refine bl_drewN ?_ _ | with_reducible refine bl_bx ?_ _ | with_reducible exact BX.below _ | with_reducible refine bl_set ?_ (by first | (exact Nat.le_refl _) | (simp; done) | (simp; omega)) _ | assumption)))).mono ?_; rintro r w4 ⟨e5, an5, b5, e6, an6, rfl, hH6, he6, he7⟩; have HH6 := Lib.hid hH6; clear hH6; unfold rcv)
                    | (go_at_call 18; refine (hoInv_safe HH6.out).mono ?_; rintro r w' ⟨rfl, rfl⟩))
                  exact ⟨⟨k + 1, by omega, by go_num, e6, an6, N1 + 3, by omega, by omega, HH6.out⟩, by simp [intOf]; omega⟩
            · clear hBl
              go_wp2
              go_meet
              case rel => exact HEND.out
          · clear hBl
            go_wp2
            go_meet
            case rel => exact HEND.out
      case rest =>
        clear HH0
        obtain ⟨e1, an1, N1, he3, hN1, hH⟩ := hcut
        have HH := Lib.hid hH
        have hre : e ≤ e1 := by
          obtain ⟨F, S, _, _, _, hr2, _⟩ := hH
          exact hr2
        clear hH
        go_upto_region 29 with (go_at_call 19; refine (hoInv_exit HH.out).mono ?_; rintro r w4 ⟨rfl, hZ⟩; have HZ := Lib.hid hZ; clear hZ)
        iterate 7 go_step
        go_cut [16] from 104 (fun _ wx => ZInv w d t c 8 e1 N1 wx)
        case first =>
          refine wp_block ?_
          go_loopw [16, 104, 105, 106, 107, 108, 109, 110] (fun i _ _ _ _ _ _ _ wr => ∃ k : Nat, 1 ≤ k ∧ k ≤ 8 ∧ i = .int .i64 k ∧ ZInv w d t c k e1 N1 wr) (fun i _ _ _ _ _ _ _ _ => 8 - (intOf i).toNat)
          case atStart => exact ⟨1, by omega, by omega, rfl, HZ.out⟩
          case round =>
            clear HZ
            obtain ⟨k, hk1, hk, rfl, hZ⟩ := hrel
            have HZ := Lib.hid hZ
            clear hZ
            by_cases hlt : k < 8
            · have hlt' : (k : Int) < 8 := by omega
              go_wp2_with (go_at_call 19; refine (zInv_exit HZ.out hlt).mono ?_; rintro r w5 ⟨⟨y, rfl⟩, hZ5⟩; have HZ5 := Lib.hid hZ5; clear hZ5)
              exact ⟨⟨k + 1, by omega, by omega, by go_num, HZ5.out⟩, by simp [intOf]; omega⟩
            · obtain rfl : k = 8 := by omega
              go_wp2
              go_meet
              case rel => exact HZ.out
        case rest =>
          clear HZ HH
          have HZ := Lib.hid hcut
          clear hcut
          have q1 : decide (e < e1 + 1) = true := decide_eq_true (by omega)
          have q2 : decide (e1 + 1 < e1 + 1) = false := decide_eq_false (by omega)
          go_wp2_with (first
            | (go_at_call 15; refine (zInv_adv HZ.out (by omega) (by omega)).mono ?_; rintro r w5 ⟨rfl, hZ5⟩; have HZ5 := Lib.hid hZ5; clear hZ5)
            | (go_at_call 16; refine (zInv_now HZ5.out).mono ?_; rintro r w' ⟨rfl, rfl⟩)
            | (go_at_call 18; refine (zInv_safe HZ5.out _).mono ?_; (first | rw [q1] | rw [q2]); rintro r w' ⟨rfl, rfl⟩))
          go_ret
          exact ⟨rfl, zInv_below HZ5.out⟩
end Go.Proofs.Ytljolgcmkejlnaa
