/- The law EpochEnters returns true. -/
import Derived.Test.YtljolgcmkejlnaaEpInv
import Derived.Test.YtljolgcmkejlnaaRow
import Derived.Deep.Cut
namespace Go.Proofs.Ytljolgcmkejlnaa
open Go.RowKit
set_option linter.unusedVariables false

/-- A clock of which thread i announces nothing, and the reference beside it. -/
def EnInv (w : World) (d : Nat) (t : Nat → Nat) (B i M c : Nat) (wr : World) : Prop :=
  ∃ F S e an N, Ep F d t c wr S 4 2 (wE 4 2 e) e an N ∧ 2 ≤ e ∧ e ≤ 2 + (M : Int) ∧ N ≤ 13 + 3 * M ∧ an i = 0 ∧ CB wr B 28 (rcC e an) ∧ (∀ b, F b → w.heap.size ≤ b ∧ b ≠ B) ∧ w.heap.size ≤ c ∧ c ≠ B ∧ w.heap.size ≤ B ∧ Below w.heap.size w wr
theorem enInv_below {w : World} {d : Nat} {t : Nat → Nat} {B i M c : Nat} {wr : World} (h : EnInv w d t B i M c wr) : Below w.heap.size w wr := by
  obtain ⟨F, S, e, an, N, hE, he1, he2, hN, ha, hR, hF, hc, hcB, hB, hBl⟩ := h
  exact hBl
theorem enInv_keep {w : World} {d : Nat} {t : Nat → Nat} {B i M c : Nat} {wr w' : World} (h : EnInv w d t B i M c wr) {M' : Nat} (hM : M ≤ M') (hb : Below wr.heap.size wr w') : EnInv w d t B i M' c w' := by
  obtain ⟨F, S, e, an, N, hE, he1, he2, hN, ha, hR, hF, hc, hcB, hB, hBl⟩ := h
  exact ⟨F, S, e, an, N, hE.below hb, he1, by omega, by omega, ha, CB.below hR hb, hF, hc, hcB, hB, hBl.trans (hb.mono hBl.size)⟩
/-- In the second and third loop. -/
def EntA (w : World) (d : Nat) (t : Nat → Nat) (c o i : Nat) (low : Int) (b : Bool) (M : Nat) (wr : World) : Prop := ∃ (e : Int) (N : Nat), 2 ≤ e ∧ low ≤ e ∧ e ≤ 8 + (M : Int) ∧ N ≤ 40 + 3 * M ∧ OpInv w d t c o i b e N wr

set_option maxRecDepth 100000 in
set_option maxHeartbeats 4000000 in
theorem law_EpochEnters (w : World) (A2 : Option Addr) (n2 cp2 : Nat) (acts : List (Int × Int)) (hA : IsActs w A2 n2 cp2 acts) (A : Option Addr) (n cp : Nat) (xs : List Int) (hx : xs.length = n) (hnc : n ≤ cp) (hcm : cp ≤ 9223372036854775807) (hR : Rd .i64 w A xs) (th0 : Int) (hth : -9223372036854775808 ≤ th0 ∧ th0 < 9223372036854775808) :
    Calls Try.prog 5 #[.slice A2 n2 cp2, .slice A n cp, .int .i64 th0] w fun r w' => r = .returned (.bool true) ∧ Below w.heap.size w w' := by
  have hnc2 := hA.2.1
  have hcm2 := hA.2.2.1
  have HA := Lib.hid hA
  have HR := Lib.hid hR
  have HX := Lib.hid hx
  obtain ⟨i, hi8⟩ : ∃ i : Nat, th0 % 8 = (i : Int) := ⟨(th0 % 8).toNat, by omega⟩
  have hi : i < 8 := by omega
  have HM0 : Hid (∀ W, Calls Try.prog 17 #[.int .i64 th0, .int .i64 8] W fun r w' => r = .returned (.int .i64 (i : Int)) ∧ W = w') := fun W => by
    have := mod18 W th0 hth 8 (by omega)
    rwa [hi8] at this
  clear hA hR hx hth hi8
  go_enter Try.func5, Try.ntmps5
  go_upto_region 5 with (first
    | (go_at_call 9; refine (begin18 _).mono ?_; rintro r w1 ⟨d, t, c, S, rfl, hE, hc, hb⟩; have HE := Lib.hid hE; have HB := Lib.hid hb; clear hE hb; unfold rcv)
    | (go_at_call 10; refine (awake18 _).mono ?_; rintro r w2 ⟨rfl, hb2⟩; obtain ⟨x, rfl⟩ := bx_of hb2; clear hb2)
    | (go_at_call 17; refine (HM0.out _).mono ?_; rintro r w' ⟨rfl, rfl⟩))
  have HI0 : Hid (EnInv w d t w1.heap.size i 0 c x.w) := by
    have hb1 := HB.out.size
    have hcl := HE.out.ck.lt
    refine ⟨_, S, 2, _, 13, (HE.out.less (bl_alloc (a := w1) (Below.refl _ _) (.cells #[.int .u64 2, .int .u64 0, .int .u64 0, .int .u64 0, .int .u64 0, .int .u64 0, .int .u64 0, .int .u64 0, .int .u64 0] 28)) (fun b => b = w1.heap.size) (fun b hb => ⟨by omega, by rw [hb]; simp⟩)).below x.below, by omega, by omega, by omega, rfl, ?_, fun b hb => ⟨hb.1.1, hb.2⟩, hc, by omega, by omega, ?_⟩
    · exact (CB.new w1 28 (rcC 2 (fun _ => 0))).bx x
    · exact bl_bx (bl_alloc HB.out _) x
  obtain ⟨B, hBB⟩ : ∃ B, w1.heap.size = B := ⟨_, rfl⟩
  obtain ⟨W, hW⟩ : ∃ W, x.w = W := ⟨_, rfl⟩
  rw [hBB, hW] at HI0
  rw [hBB, hW]
  clear hBB hW HB HE HM0
  iterate 7 go_step
  go_cut [6, 8, 10, 11, 12] from 39 (fun _ p _ _ _ wx => ∃ c2 : Nat, p = .pointer (some ⟨c2, 0, none⟩) ∧ EnInv w d t B i 6 c2 wx)
  case first =>
    refine wp_block ?_
    go_loopw [10, 8, 12, 6, 11, 39, 40, 41, 42, 43, 44, 45, 46, 47, 48, 49, 50, 51, 52, 53, 54, 55, 56, 57, 58, 59, 60, 61, 62, 63, 64, 65, 66, 67, 68, 69, 70, 71, 72, 73] (fun j p _ _ _ _ _ _ _ _ _ _ _ _ _ _ _ _ _ _ _ _ _ _ _ _ _ _ _ _ _ _ _ _ _ _ _ _ _ _ wr => ∃ k c : Nat, k ≤ 6 ∧ j = .int .i64 k ∧ p = .pointer (some ⟨c, 0, none⟩) ∧ EnInv w d t B i k c wr) (fun j _ _ _ _ _ _ _ _ _ _ _ _ _ _ _ _ _ _ _ _ _ _ _ _ _ _ _ _ _ _ _ _ _ _ _ _ _ _ _ _ => 6 - (intOf j).toNat)
    case atStart => exact ⟨0, c, by omega, rfl, rfl, HI0.out⟩
    case round =>
      clear HI0
      obtain ⟨k, c1, hk, rfl, rfl, hI⟩ := hrel
      have HI := Lib.hid hI
      obtain ⟨F, S1, e, an, N, hE, he1, he2, hN, ha, hR, hF, hc1, hcB, hB, hBl⟩ := hI
      have HEND : Hid (EnInv w d t B i 6 c1 wr) := enInv_keep HI.out hk (Below.refl _ _)
      by_cases hi1 : (k : Int) < (n2 : Int)
      · by_cases hi2 : (k : Int) < 6
        · have hkl : k < acts.length := by rw [HA.out.1]; omega
          obtain ⟨b, off, hA', hbl, a0, a1, ra0, ra1⟩ := HA.out.2.2.2 k hkl
          obtain ⟨⟨kd, th⟩, hact⟩ : ∃ p, acts[k] = p := ⟨_, rfl⟩
          rw [hact] at a0 a1 ra0 ra1
          have hbs := hBl.size
          have a0' : wr.cell? ⟨b, off + k * 2, none⟩ = some (.int .i64 kd) := (hBl.cell (p := ⟨b, off + k * 2, none⟩) hbl).trans a0
          have a1' : wr.cell? ⟨b, off + k * 2 + 1, none⟩ = some (.int .i64 th) := (hBl.cell (p := ⟨b, off + k * 2 + 1, none⟩) hbl).trans a1
          have hbl' : b < wr.heap.size := by omega
          have HM : Hid (∀ W, Calls Try.prog 17 #[.int .i64 kd, .int .i64 4] W fun r w' => r = .returned (.int .i64 (kd % 4)) ∧ W = w') := fun W => mod18 W kd ra0 4 (by omega)
          have HDO : Hid (∀ W, Below wr.heap.size wr W → Calls Try.prog 11 #[.pointer (some ⟨d, 0, none⟩), .pointer (some ⟨c1, 0, none⟩), rcv e an, .agg #[.int .i64 kd, .int .i64 th]] W (DoPost F d t c1 e an N e an kd th W)) := fun W hW => do18 (hE.below hW) e an kd th ra0 (by omega) (by omega) (by omega)
          have hkn : k < n2 := by omega
          have hRl := hR.lt
          have HE := Lib.hid hE
          have HR := Lib.hid hR
          have HF := Lib.hid hF
          have HBl := Lib.hid hBl
          have HAN := Lib.hid ha
          obtain ⟨r0, r1, r2, r3, r4, r5, r6, r7, r8, rl⟩ := hR.rc
          unfold rcv at HDO
          subst hA'
          clear hBl hact a0 a1 HEND hE hR hF ha
          by_cases hthi : th = (i : Int)
          · have hthb : (th != (i : Int)) = false := by simpa using hthi
            have HT := Lib.hid hthi
            clear hthi
            go_wp2
            exact ⟨⟨k + 1, c1, by omega, by go_num, rfl, enInv_keep HI.out (by omega) (by (repeat (first | with_reducible exact Below.refl _ _ | with_reducible refine bl_alloc ?_ _ | with_reducible refine bl_drew ?_ | with_reducible refine bl_drewN ?_ _ | with_reducible refine bl_bx ?_ _ | with_reducible exact BX.below _ | with_reducible refine bl_set ?_ (by first | (exact Nat.le_refl _) | (simp; done) | (simp; omega)) _ | assumption)))⟩, by simp [intOf]; omega⟩
          · have hthb : (th != (i : Int)) = true := by simpa using hthi
            by_cases hk3 : kd % 4 = 3
            · rw [hk3] at HM
              go_wp2_with (go_at_call 17; refine (HM.out _).mono ?_; rintro r w' ⟨rfl, rfl⟩)
              exact ⟨⟨k + 1, c1, by omega, by go_num, rfl, enInv_keep HI.out (by omega) (by (repeat (first | with_reducible exact Below.refl _ _ | with_reducible refine bl_alloc ?_ _ | with_reducible refine bl_drew ?_ | with_reducible refine bl_drewN ?_ _ | with_reducible refine bl_bx ?_ _ | with_reducible exact BX.below _ | with_reducible refine bl_set ?_ (by first | (exact Nat.le_refl _) | (simp; done) | (simp; omega)) _ | assumption)))⟩, by simp [intOf]; omega⟩
            · obtain ⟨km, hkm⟩ : ∃ m, kd % 4 = m := ⟨_, rfl⟩
              have hk3b : (km != 3) = true := by rw [← hkm]; simpa using hk3
              rw [hkm] at HM
              have HK3 := Lib.hid hk3
              clear hkm hk3
              go_wp2_with (first
                | (go_at_call 17; refine (HM.out _).mono ?_; rintro r w' ⟨rfl, rfl⟩)
                | (go_at_call 11; refine (HDO.out _ (by (repeat (first | with_reducible exact Below.refl _ _ | with_reducible refine bl_alloc ?_ _ | with_reducible refine bl_drew ?_ | with_reducible refine bl_drewN ?_ _ | with_reducible refine bl_bx ?_ _ | with_reducible exact BX.below _ | with_reducible refine bl_set ?_ (by first | (exact Nat.le_refl _) | (simp; done) | (simp; omega)) _ | assumption)))).mono ?_; rintro r w3 ⟨F3, c3, S3, b3, rfl, hb3, hE3, hF3, hc3, hcc, hC3⟩; obtain rfl := hb3 rfl rfl; obtain rfl := hcc HK3.out; have hR3 : CB w3 B 28 (rcC e an) := (HR.out.alloc _).ch hC3 (fun h => by rcases h with h | h; exact (HF.out B h).2 rfl; exact hcB h.symm); obtain ⟨q0, q1, q2, q3, q4, q5, q6, q7, q8, ql⟩ := hR3.rc; obtain ⟨f0, f1, f2, f3, f4, f5, f6, f7, f8⟩ := hR3.rcf; have HR3 := Lib.hid hR3; have HE3 := Lib.hid hE3; have HC3 := Lib.hid hC3; have HF3 := Lib.hid hF3; clear hb3 hE3 hC3 hF3 hc3 hcc hR3 r0 r1 r2 r3 r4 r5 r6 r7 r8 rl a0' a1'; unfold rcv; obtain ⟨d1, d2, d3⟩ := doS_keep (e := e) (an := an) i HK3.out hthi; obtain ⟨e', he'⟩ : ∃ e', (doS e an kd th).1 = e' := ⟨_, rfl⟩; obtain ⟨an', han'⟩ : ∃ an', (doS e an kd th).2 = an' := ⟨_, rfl⟩; rw [he'] at HE3 d2 d3; rw [han'] at HE3 d1; rw [he', han']; clear he' han'))
              have hend : ∀ W4, Ch (At B) w3 W4 → CB W4 B 28 (rcC e' an') → EnInv w d t B i (k + 1) c3 W4 := by
                intro W4 hC4 hR4
                refine ⟨F3, S3, e', an', N + 3, ?_, by omega, by omega, by omega, d1.trans HAN.out, hR4, fun b hb => HF.out b (HF3.out b hb), hc1, hcB, hB, ?_⟩
                · exact HE3.out.set hC4 (fun b hb hF h => by
                    have hb' : b = B := h
                    subst hb'
                    rcases hF with hf | hf
                    · exact (HF.out b (HF3.out b hf)).2 rfl
                    · exact hcB hf.symm)
                · refine bl_ch (bl_ch (bl_alloc HBl.out _) HC3.out (fun b hb => ?_)) hC4 (fun b hb => by rw [show b = B from hb]; exact hB)
                  rcases hb with h | h
                  · exact (HF.out b h).1
                  · rw [h]; exact hc1
              refine ⟨⟨k + 1, c3, by omega, by go_num, rfl, hend _ (by repeat (first | with_reducible exact Ch.refl _ _ | with_reducible refine Ch.drew ?_ | with_reducible refine Ch.set1 ?_ _ _)) ?_⟩, by simp [intOf]; omega⟩
              with_reducible exact HR3.out.set9 e' an'
        · clear hE hR hF hBl
          go_wp2
          go_meet
          case rel => exact ⟨c1, rfl, HEND.out⟩
      · clear hE hR hF hBl
        go_wp2
        go_meet
        case rel => exact ⟨c1, rfl, HEND.out⟩
  case rest =>
    clear HI0
    obtain ⟨c, rfl, F, S, e, an, N, hE, he1, he2, hN, ha, hR, hF, hc1, hcB, hB, hBl⟩ := hcut
    have HE := Lib.hid hE
    have HF := Lib.hid hF
    have HBl := Lib.hid hBl
    have HAN := Lib.hid ha
    have hi8 : (i : Int) < 8 := by omega
    have HOE : Hid (OpInv w d t c wc.heap.size i false e N (wc.alloc (.cells (opC c i false 0) 78))) := opInv_new HE.out HAN.out (fun b hb => (HF.out b hb).1) hc1 HBl.out (Below.refl _ _)
    clear hE hR hF hBl ha
    go_upto_region 22 with (first
      | (go_at_call 13; refine (ckEntering HE.out i hi HAN.out).mono ?_; rintro r w3 ⟨rfl, rfl⟩)
      | (go_at_call 20; refine (opInv_epoch_not HOE.out).mono ?_; rintro r w' ⟨rfl, rfl⟩)
      | (go_at_call 16; refine (opInv_now HOE.out).mono ?_; rintro r w' ⟨rfl, rfl⟩))
    have HI1 : Hid (EntA w d t c wc.heap.size i e false 0 (wc.alloc (.cells (opC c i false 0) 78))) := ⟨e, N, he1, Int.le_refl _, by omega, by omega, HOE.out⟩
    obtain ⟨o, ho⟩ : ∃ o, wc.heap.size = o := ⟨_, rfl⟩
    obtain ⟨W, hW⟩ : ∃ W, wc.alloc (.cells (opC c i false 0) 78) = W := ⟨_, rfl⟩
    rw [ho, hW] at HI1
    rw [ho, hW]
    clear ho hW HBl HE HF HOE
    have HM1 : Hid (∀ W, Calls Try.prog 17 #[.int .i64 ((i : Int) + 1), .int .i64 8] W fun r w' => r = .returned (.int .i64 (((i : Int) + 1) % 8)) ∧ W = w') := fun W => mod18 W _ (by omega) 8 (by omega)
    iterate 7 go_step
    go_cut [6, 18, 19, 20, 21] from 99 (fun _ s _ _ _ wx => ∃ b, s = .bool b ∧ EntA w d t c o i e b 40 wx)
    case first =>
      refine wp_block ?_
      go_loopw [19, 18, 6, 20, 21, 99, 100, 101, 102, 103, 104, 105, 106, 107, 108, 109, 110, 111, 112, 113, 114, 115, 116, 117, 118, 119, 120, 121, 122, 123, 124, 125, 126, 127, 128, 129, 130, 131, 132, 133] (fun j s _ _ _ _ _ _ _ _ _ _ _ _ _ _ _ _ _ _ _ _ _ _ _ _ _ _ _ _ _ _ _ _ _ _ _ _ _ _ wr => ∃ (k : Nat) (b : Bool), k ≤ 40 ∧ j = .int .i64 k ∧ s = .bool b ∧ EntA w d t c o i e b k wr) (fun j _ _ _ _ _ _ _ _ _ _ _ _ _ _ _ _ _ _ _ _ _ _ _ _ _ _ _ _ _ _ _ _ _ _ _ _ _ _ _ _ => 40 - (intOf j).toNat)
      case atStart => exact ⟨0, false, by omega, rfl, rfl, HI1.out⟩
      case round =>
        clear HI1
        obtain ⟨k, b, hk, rfl, rfl, e1, N1, h1, h2, h3, hN1, hI⟩ := hrel
        have HI := Lib.hid hI
        have hBl := opInv_below hI
        have HEND : Hid (EntA w d t c o i e b 40 wr) := ⟨e1, N1, h1, h2, by omega, by omega, hI⟩
        clear hI
        by_cases hi1 : (k : Int) < (n : Int)
        · by_cases hi2 : (k : Int) < 40
          · cases b with
            | true =>
              clear hBl
              go_wp2
              go_meet
              case rel => exact ⟨true, rfl, HEND.out⟩
            | false =>
              have hkl : k < xs.length := by rw [HX.out]; omega
              obtain ⟨b1, o1, rfl, hb1, hc1⟩ := HR.out.at_ hkl
              have hbs := hBl.size
              have hc1' : wr.cell? ⟨b1, o1 + k, none⟩ = some (.int .i64 xs[k]) := (hBl.cell (p := ⟨b1, o1 + k, none⟩) hb1).trans hc1
              have hb1' : b1 < wr.heap.size := by omega
              obtain ⟨v, hv⟩ : ∃ v, xs[k] = v := ⟨_, rfl⟩
              rw [hv] at hc1'
              clear hv hc1 hBl
              by_cases hv0 : v ≥ 0
              · go_wp2_with (go_at_call 14; refine (opInv_step HI.out hi).mono ?_; rintro r w4 ⟨rfl, hI4⟩; have HI4 := Lib.hid hI4; clear hI4)
                exact ⟨⟨k + 1, true, by omega, by go_num, rfl, e1, N1, h1, h2, by omega, by omega, HI4.out⟩, by simp [intOf]; omega⟩
              · go_wp2_with (first
                  | (go_at_call 17; refine (HM1.out _).mono ?_; rintro r w' ⟨rfl, rfl⟩)
                  | (go_at_call 15; refine (opInv_adv HI.out (by omega) (by omega) _ (by omega)).mono ?_; rintro r w4 ⟨a1, a2, e', rfl, ha2, hI4, he3, he4⟩; have HI4 := Lib.hid hI4; clear hI4; rcases ha2 with rfl | rfl))
                · exact ⟨⟨k + 1, false, by omega, by go_num, rfl, e', N1 + 3, by omega, by omega, by omega, by omega, HI4.out⟩, by simp [intOf]; omega⟩
                · exact ⟨⟨k + 1, false, by omega, by go_num, rfl, e', N1 + 3, by omega, by omega, by omega, by omega, HI4.out⟩, by simp [intOf]; omega⟩
          · clear hBl
            go_wp2
            go_meet
            case rel => exact ⟨b, rfl, HEND.out⟩
        · clear hBl
          go_wp2
          go_meet
          case rel => exact ⟨b, rfl, HEND.out⟩
    case rest =>
      clear HI1
      obtain ⟨b, rfl, hA0⟩ := hcut
      have HI1 := Lib.hid hA0
      clear hA0
      go_upto_region 30 with (fail)
      iterate 7 go_step
      go_cut [18, 22] from 134 (fun s _ wx => s = .bool true ∧ EntA w d t c o i e true 40 wx)
      case first =>
        refine wp_block ?_
        go_loopw [22, 18, 134, 135, 136, 137, 138, 139, 140, 141, 142, 143] (fun j s _ _ _ _ _ _ _ _ _ _ wr => ∃ (k : Nat) (b : Bool), k ≤ 20000 ∧ j = .int .i64 k ∧ s = .bool b ∧ (b = true ∨ k = 0) ∧ EntA w d t c o i e b 40 wr) (fun j _ _ _ _ _ _ _ _ _ _ _ _ => 20000 - (intOf j).toNat)
        case atStart => exact ⟨0, b, by omega, rfl, rfl, .inr rfl, HI1.out⟩
        case round =>
          clear HI1
          obtain ⟨k, b, hk, rfl, rfl, hbk, hI⟩ := hrel
          have HI := Lib.hid hI
          clear hI
          cases b with
          | true =>
            by_cases hi2 : (k : Int) < 20000
            · go_wp2
              go_meet
              case rel => exact ⟨rfl, HI.out⟩
            · go_wp2
              go_meet
              case rel => exact ⟨rfl, HI.out⟩
          | false =>
            obtain rfl : k = 0 := by
              rcases hbk with h | h
              · cases h
              · exact h
            obtain ⟨e1, N1, h1, h2, h3, hN1, hI⟩ := HI.out
            have HI := Lib.hid hI
            clear hI
            go_wp2_with (go_at_call 14; refine (opInv_step HI.out hi).mono ?_; rintro r w4 ⟨rfl, hI4⟩; have HI4 := Lib.hid hI4; clear hI4)
            exact ⟨⟨1, true, by omega, rfl, rfl, .inl rfl, e1, N1, h1, h2, h3, hN1, HI4.out⟩, by simp [intOf]⟩
      case rest =>
        clear HI1
        obtain ⟨rfl, e1, N1, h1, h2, h3, hN1, hI⟩ := hcut
        have HI := Lib.hid hI
        clear hI
        have q0 : e1 ≥ e := h2
        have q1 : IntKind.u64.wrap (e1 - e1) = 0 := by rw [Int.sub_self]; exact IntWalk.u64_in _ (by omega)
        go_wp2_with (first
          | (go_at_call 20; refine (opInv_epoch HI.out).mono ?_; rintro r w5 ⟨rfl, hb5⟩; have HI5 := Lib.hid (opInv_keep HI.out hb5); clear hb5)
          | (go_at_call 21; refine (opInv_ann HI5.out hi).mono ?_; rintro r w' ⟨rfl, rfl⟩)
          | (go_at_call 16; refine (opInv_now HI5.out).mono ?_; rintro r w' ⟨rfl, rfl⟩)
          | (go_at_call 14; refine (opInv_step_done HI5.out).mono ?_; rintro r w' ⟨rfl, rfl⟩)
          | (go_at_call 18; refine (opInv_safe HI5.out hi).mono ?_; rintro r w' ⟨rfl, rfl⟩))
        go_ret
        exact ⟨rfl, opInv_below HI5.out⟩
end Go.Proofs.Ytljolgcmkejlnaa
