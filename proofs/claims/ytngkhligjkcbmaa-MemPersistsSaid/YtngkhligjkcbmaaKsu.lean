/- Sorting words: pdqsort (merged). -/
import Derived.Test.YtngkhligjkcbmaaKsr
import Derived.Deep.CutRange
import Derived.Test.YtngkhligjkcbmaaKo
import Derived.Test.YtngkhligjkcbmaaKd
namespace Go.Proofs.Ytngkhligjkcbmaa
open Go.RowKit
set_option linter.unusedVariables false
set_option linter.unusedSimpArgs false

def PaP (w : World) (g off n c : Nat) (r : Nat × Bool × Array Int) (e : Ending) (w' : World) : Prop := e = .returned (.tuple #[.int .i64 (r.1 : Int), .bool r.2.1]) ∧ SoA w g off n c r.2.2 w'
def partFin (a : Nat) (r : Nat × Array Int) : Nat × Bool × Array Int := (r.1, false, Sort.swp r.2 r.1 a)
/-- What comes behind the two first scans. -/
def partTail (a b1 a1 : Nat) (d : Array Int) : Nat × Bool × Array Int :=
  let i := Sort.scanUp (fun x => Sort.ltInt x d[a]!) d b1 a1
  let j := Sort.scanDown (fun x => !Sort.ltInt x d[a]!) d i b1
  if i > j then (j, true, Sort.swp d j a) else partFin a (Sort.partLoop Sort.ltInt a (i + 1) (j - 1) (Sort.swp d i j))
theorem part_split (d : Array Int) (a b pv : Nat) : Sort.partition Sort.ltInt d a b pv = partTail a (b - 1) (a + 1) (Sort.swp d a pv) := rfl
theorem part_eq {a i j b1 a1 : Nat} {d : Array Int} (h1 : Sort.scanUp (fun x => Sort.ltInt x d[a]!) d b1 a1 = i) (h2 : Sort.scanDown (fun x => !Sort.ltInt x d[a]!) d i b1 = j) : partTail a b1 a1 d = if i > j then (j, true, Sort.swp d j a) else partFin a (Sort.partLoop Sort.ltInt a (i + 1) (j - 1) (Sort.swp d i j)) := by
  unfold partTail
  simp only [h1, h2]
set_option maxRecDepth 100000 in
set_option maxHeartbeats 16000000 in
theorem partU (w0 w : World) (g off n c a b pv : Nat) (d0 : Array Int) (hab : a + 1 < b) (hp1 : a ≤ pv) (hp2 : pv < b) (hbn : b ≤ n) (hm : n ≤ 1000000) (hS : SoA w0 g off n c d0 w) :
    Calls Try.prog 128 #[.slice (some ⟨g, off, none⟩) n c, .int .i64 (a : Int), .int .i64 (b : Int), .int .i64 (pv : Int)] w (PaP w0 g off n c (Sort.partition Sort.ltInt d0 a b pv)) := by
  have HI := Lib.hid hS
  obtain ⟨D, hD⟩ : ∃ D, Sort.partition Sort.ltInt d0 a b pv = D := ⟨_, rfl⟩
  rw [hD]
  rw [part_split] at hD
  have HD := Lib.hid hD
  have hgl := hS.lt
  have fz := hS.1.unfrozen
  obtain ⟨k, ha1⟩ : ∃ z, a + 1 = z := ⟨_, rfl⟩
  obtain ⟨l, hb1⟩ : ∃ z, b - 1 = z := ⟨_, rfl⟩
  rw [ha1, hb1] at HD
  have e1 : IntKind.i64.wrap ((a : Int) + 1) = (k : Int) := by rw [IntWalk.i64_in _ (by omega)]; omega
  have e2 : IntKind.i64.wrap ((b : Int) - 1) = (l : Int) := by rw [IntWalk.i64_in _ (by omega)]; omega
  have k1 : a < k := by omega
  have k2 : k ≤ a + 1 := by omega
  have k3 : l < b := by omega
  have k4 : b ≤ l + 1 := by omega
  clear hS hD ha1 hb1
  go_enter Try.func128, Try.ntmps128
  go_upto_region 1 with (fail)
  go_cut [] from 12 (fun wx => SoA w0 g off n c (Sort.swp d0 a pv) wx)
  case first =>
    have u0 := HI.out.word (i := a) (by omega)
    have u1 := HI.out.word (i := pv) (by omega)
    obtain ⟨y0, hy0⟩ : ∃ z, d0[a]! = z := ⟨_, rfl⟩
    obtain ⟨y1, hy1⟩ : ∃ z, d0[pv]! = z := ⟨_, rfl⟩
    have HSW : Hid (∀ m, SoA w0 g off n c (Sort.swp d0 a pv) (((w.drewN m).setCell ⟨g, off + a, none⟩ (.int .u64 y1)).setCell ⟨g, off + pv, none⟩ (.int .u64 y0))) := by
      intro m
      have h2 := (HI.out.drewN m).swap (i := a) (j := pv) (by omega) (by omega)
      rwa [hy0, hy1] at h2
    rw [hy0] at u0
    rw [hy1] at u1
    have i0 : (a : Int) < (n : Int) := by omega
    have i1 : (pv : Int) < (n : Int) := by omega
    have z0 : (0 : Int) ≤ (a : Int) := by omega
    have z1 : (0 : Int) ≤ (pv : Int) := by omega
    have HEQ : Hid (a = pv → y0 = y1) := fun he => by rw [← hy0, ← hy1, he]
    clear hy0 hy1
    by_cases hpe : a = pv
    · obtain rfl : y0 = y1 := HEQ.out hpe
      clear u1
      subst hpe
      refine ord_reads [] [.p [0, 1, 2, 3, 4, 5, 6, 8, 9, 10], .q [7, 11, 12], .h [13, 14, 15]] (by kernel_rfl) (fun _ _ d _ _ h => by cases d <;> exact h) (by kernel_rfl) ?_
      (dsimp only [pick, List.filterMap, List.getElem?_cons_zero, List.getElem?_cons_succ]; refine wpQuiet_nil ?_; rintro _ ⟨nq1, rfl⟩; with_reducible refine part_pure ?_; dsimp only [pick, List.filterMap, List.getElem?_cons_zero, List.getElem?_cons_succ]; (repeat (first | (refine pure_ex rfl ?_; apply Exists.intro; apply And.intro; (intro w; go_simp; rfl); simp only [Act.put, List.setIfInBounds_toArray, List.set_cons_succ, List.set_cons_zero]) | (refine pure_skip rfl ?_; simp only [Act.put, List.setIfInBounds_toArray, List.set_cons_succ, List.set_cons_zero]))); refine pure_nil ?_; with_reducible refine part_reads ?_; dsimp only [pick, List.filterMap, List.getElem?_cons_zero, List.getElem?_cons_succ]; (repeat (go_big_quiet_step (fail))); refine wpQuiet_nil ?_; rintro _ ⟨nq2, rfl⟩; with_reducible refine part_hard ?_; dsimp only [pick, List.filterMap, List.getElem?_cons_zero, List.getElem?_cons_succ]; go_wp2; with_reducible refine segs_end ?_; with_reducible refine part_nil ?_; go_wp2)
      go_meet
      case rel => exact HSW.out _
    · have hpe' : ¬ pv = a := by omega
      refine ord_reads [] [.p [0, 1, 2, 3, 4, 5, 6, 8, 9, 10], .q [7, 11, 12], .h [13, 14, 15]] (by kernel_rfl) (fun _ _ d _ _ h => by cases d <;> exact h) (by kernel_rfl) ?_
      (dsimp only [pick, List.filterMap, List.getElem?_cons_zero, List.getElem?_cons_succ]; refine wpQuiet_nil ?_; rintro _ ⟨nq1, rfl⟩; with_reducible refine part_pure ?_; dsimp only [pick, List.filterMap, List.getElem?_cons_zero, List.getElem?_cons_succ]; (repeat (first | (refine pure_ex rfl ?_; apply Exists.intro; apply And.intro; (intro w; go_simp; rfl); simp only [Act.put, List.setIfInBounds_toArray, List.set_cons_succ, List.set_cons_zero]) | (refine pure_skip rfl ?_; simp only [Act.put, List.setIfInBounds_toArray, List.set_cons_succ, List.set_cons_zero]))); refine pure_nil ?_; with_reducible refine part_reads ?_; dsimp only [pick, List.filterMap, List.getElem?_cons_zero, List.getElem?_cons_succ]; (repeat (go_big_quiet_step (fail))); refine wpQuiet_nil ?_; rintro _ ⟨nq2, rfl⟩; with_reducible refine part_hard ?_; dsimp only [pick, List.filterMap, List.getElem?_cons_zero, List.getElem?_cons_succ]; go_wp2; with_reducible refine segs_end ?_; with_reducible refine part_nil ?_; go_wp2)
      go_meet
      case rel => exact HSW.out _
  case rest =>
    have hI : SoA w0 g off n c (Sort.swp d0 a pv) wc := hcut
    clear HI hcut
    have HI := Lib.hid hI
    clear hI
    obtain ⟨ys, hys⟩ : ∃ z, Sort.swp d0 a pv = z := ⟨_, rfl⟩
    rw [hys] at HD HI
    clear hys
    go_wp2
    obtain ⟨I2, hI2⟩ : ∃ z, Sort.scanUp (fun x => Sort.ltInt x ys[a]!) ys l k = z := ⟨_, rfl⟩
    have HI2 := Lib.hid hI2
    obtain ⟨k0, hk0⟩ : ∃ z, z = k := ⟨_, rfl⟩
    have hkk : k0 ≤ k := by omega
    have hak0 : a < k0 := by omega
    have HK0 := Lib.hid hk0
    clear hI2 hk0
    go_loopw [10, 30, 31, 32, 33, 34, 35, 36, 37, 38, 39, 40, 41, 42, 43, 44, 45] (fun i _ _ _ _ _ _ _ _ _ _ _ _ _ _ _ _ wr => ∃ k, k0 ≤ k ∧ k ≤ l + 2 ∧ i = .int .i64 (k : Int) ∧ SoA w0 g off n c ys wr ∧ Sort.scanUp (fun x => Sort.ltInt x ys[a]!) ys l k = I2) (fun i _ _ _ _ _ _ _ _ _ _ _ _ _ _ _ _ _ => ((l : Int) + 1 - intOf i).toNat)
    case atStart => exact ⟨k, hkk, by omega, rfl, HI.out, HI2.out⟩
    case round =>
      clear HI
      obtain ⟨k, hk0, hkl, rfl, hI, hE⟩ := hrel
      have HI := Lib.hid hI
      have HE := Lib.hid hE
      have hgl := hI.lt
      have fz := hI.1.unfrozen
      clear hI hE
      obtain ⟨x1, hx1⟩ : ∃ z, k + 1 = z := ⟨_, rfl⟩
      have e10 : k ≤ l → IntKind.i64.wrap ((k : Int) + 1) = (x1 : Int) := fun _ => by rw [IntWalk.i64_in _ (by omega)]; omega
      have HX1 := Lib.hid hx1
      clear hx1
      obtain ⟨C, hC⟩ : ∃ C : Bool, (decide (k ≤ l) && (fun x => Sort.ltInt x ys[a]!) ys[k]!) = C := ⟨_, rfl⟩
      have HC := Lib.hid hC
      have HE := Lib.hid ((scanUp_c HC.out).symm.trans HE.out)
      go_upto_region 3 with (fail)
      go_cut [43] from 30 to 45 (fun s wx => s = .bool C ∧ SoA w0 g off n c ys wx)
      case first =>
        by_cases hle : k ≤ l
        · have hd2 : decide ((k : Int) ≤ (l : Int)) = true := decide_eq_true (by omega)
          have u0 := HI.out.word (i := a) (by omega)
          have u1 := HI.out.word (i := k) (by omega)
          obtain ⟨ya, hya⟩ : ∃ z, ys[a]! = z := ⟨_, rfl⟩
          obtain ⟨yx, hyx⟩ : ∃ z, ys[k]! = z := ⟨_, rfl⟩
          rw [hya] at u0 hC
          rw [hyx] at u1 hC
          have i0 : (a : Int) < (n : Int) := by omega
          have i1 : (k : Int) < (n : Int) := by omega
          have z0 : (0 : Int) ≤ (a : Int) := by omega
          have z1 : (0 : Int) ≤ (k : Int) := by omega
          by_cases hsw : yx < ya
          · have hds : decide (yx < ya) = true := decide_eq_true hsw
            have HCt : Hid (C = true) := by show _ = _; rw [← hC, decide_eq_true hle]; simp [Sort.ltInt]; omega
            clear hya hyx hC
            refine wp_region_quiet_lit (by kernel_rfl) (by kernel_rfl) ?_
            repeat (go_big_quiet_step ((go_at_call 126; exact q_same (lessU _ _ _))))
            refine wpQuiet_nil ?_
            rintro _ ⟨nr, rfl⟩
            go_wp2
            go_meet
            case rel => exact ⟨by rw [HCt.out], HI.out.drewN nr⟩
          · have hds : decide (yx < ya) = false := decide_eq_false hsw
            have HCt : Hid (C = false) := by show _ = _; rw [← hC, decide_eq_true hle]; simp [Sort.ltInt]; omega
            clear hya hyx hC
            refine wp_region_quiet_lit (by kernel_rfl) (by kernel_rfl) ?_
            repeat (go_big_quiet_step ((go_at_call 126; exact q_same (lessU _ _ _))))
            refine wpQuiet_nil ?_
            rintro _ ⟨nr, rfl⟩
            go_wp2
            go_meet
            case rel => exact ⟨by rw [HCt.out], HI.out.drewN nr⟩
        · have hd2 : decide ((k : Int) ≤ (l : Int)) = false := decide_eq_false (by omega)
          have HCt : Hid (C = false) := by show _ = _; rw [← hC, decide_eq_false hle]; rfl
          clear hC
          refine wp_region_quiet_lit (by kernel_rfl) (by kernel_rfl) ?_
          repeat (go_big_quiet_step (fail))
          refine wpQuiet_nil ?_
          rintro _ ⟨nr, rfl⟩
          go_wp2
          go_meet
          case rel => exact ⟨by rw [HCt.out], HI.out.drewN nr⟩
      case rest =>
        clear HI
        obtain ⟨rfl, hI⟩ := hcut
        have HI := Lib.hid hI
        have hgl := hI.lt
        have fz := hI.1.unfrozen
        clear hI
        cases C with
        | true =>
          have hle : k ≤ l := by have h := HC.out; simp at h; exact h.1
          have e11 := e10 hle
          have HEt := Lib.hid HE.out
          clear hC
          go_wp2
          go_roundw
          case rel => exact ⟨x1, by have := HX1.out; omega, by have := HX1.out; omega, rfl, HI.out, by have h := HE.out; rw [if_pos rfl, HX1.out] at h; exact h⟩
          case measure => have := HX1.out; simp [intOf] <;> omega
        | false =>
          have HE := Lib.hid (show k = I2 from by have h := HE.out; rw [if_neg (by decide)] at h; exact h)
          clear hC e10
          have HU := Lib.hid HE.out
          go_wp2
          obtain ⟨J2, hJ2⟩ : ∃ z, Sort.scanDown (fun x => !Sort.ltInt x ys[a]!) ys k l = z := ⟨_, rfl⟩
          have HJ2 := Lib.hid hJ2
          obtain ⟨l0, hl0⟩ : ∃ z, z = l := ⟨_, rfl⟩
          have hll : l ≤ l0 := by omega
          have hlb0 : l0 < b := by omega
          have HL0 := Lib.hid hl0
          clear hJ2 hl0
          go_loopw [11, 46, 47, 48, 49, 50, 51, 52, 53, 54, 55, 56, 57, 58, 59, 60, 61, 62] (fun j _ _ _ _ _ _ _ _ _ _ _ _ _ _ _ _ _ wr => ∃ l, a ≤ l ∧ l ≤ l0 ∧ k ≤ l + 2 ∧ j = .int .i64 (l : Int) ∧ SoA w0 g off n c ys wr ∧ Sort.scanDown (fun x => !Sort.ltInt x ys[a]!) ys k l = J2) (fun j _ _ _ _ _ _ _ _ _ _ _ _ _ _ _ _ _ _ => (intOf j).toNat)
          case atStart => exact ⟨l, by omega, hll, by omega, rfl, HI.out, HJ2.out⟩
          case round =>
            clear HI
            obtain ⟨l, hal, hll, hkl, rfl, hI, hE⟩ := hrel
            have HI := Lib.hid hI
            have HE := Lib.hid hE
            have hgl := hI.lt
            have fz := hI.1.unfrozen
            clear hI hE
            obtain ⟨x1, hx1⟩ : ∃ z, l - 1 = z := ⟨_, rfl⟩
            have e10 : k ≤ l → IntKind.i64.wrap ((l : Int) - 1) = (x1 : Int) := fun _ => by rw [IntWalk.i64_in _ (by omega)]; omega
            have HX1 := Lib.hid hx1
            clear hx1
            obtain ⟨C, hC⟩ : ∃ C : Bool, (decide (k ≤ l) && (fun x => !Sort.ltInt x ys[a]!) ys[l]!) = C := ⟨_, rfl⟩
            have HC := Lib.hid hC
            have HE := Lib.hid ((scanDown_c HC.out).symm.trans HE.out)
            go_upto_region 5 with (fail)
            go_cut [60] from 46 to 62 (fun s wx => s = .bool C ∧ SoA w0 g off n c ys wx)
            case first =>
              by_cases hle : k ≤ l
              · have hd2 : decide ((k : Int) ≤ (l : Int)) = true := decide_eq_true (by omega)
                have u0 := HI.out.word (i := a) (by omega)
                have u1 := HI.out.word (i := l) (by omega)
                obtain ⟨ya, hya⟩ : ∃ z, ys[a]! = z := ⟨_, rfl⟩
                obtain ⟨yx, hyx⟩ : ∃ z, ys[l]! = z := ⟨_, rfl⟩
                rw [hya] at u0 hC
                rw [hyx] at u1 hC
                have i0 : (a : Int) < (n : Int) := by omega
                have i1 : (l : Int) < (n : Int) := by omega
                have z0 : (0 : Int) ≤ (a : Int) := by omega
                have z1 : (0 : Int) ≤ (l : Int) := by omega
                by_cases hsw : yx < ya
                · have hds : decide (yx < ya) = true := decide_eq_true hsw
                  have HCt : Hid (C = false) := by show _ = _; rw [← hC, decide_eq_true hle]; simp [Sort.ltInt]; omega
                  clear hya hyx hC
                  refine wp_region_quiet_lit (by kernel_rfl) (by kernel_rfl) ?_
                  repeat (go_big_quiet_step ((go_at_call 126; exact q_same (lessU _ _ _))))
                  refine wpQuiet_nil ?_
                  rintro _ ⟨nr, rfl⟩
                  go_wp2
                  go_meet
                  case rel => exact ⟨by rw [HCt.out], HI.out.drewN nr⟩
                · have hds : decide (yx < ya) = false := decide_eq_false hsw
                  have HCt : Hid (C = true) := by show _ = _; rw [← hC, decide_eq_true hle]; simp [Sort.ltInt]; omega
                  clear hya hyx hC
                  refine wp_region_quiet_lit (by kernel_rfl) (by kernel_rfl) ?_
                  repeat (go_big_quiet_step ((go_at_call 126; exact q_same (lessU _ _ _))))
                  refine wpQuiet_nil ?_
                  rintro _ ⟨nr, rfl⟩
                  go_wp2
                  go_meet
                  case rel => exact ⟨by rw [HCt.out], HI.out.drewN nr⟩
              · have hd2 : decide ((k : Int) ≤ (l : Int)) = false := decide_eq_false (by omega)
                have HCt : Hid (C = false) := by show _ = _; rw [← hC, decide_eq_false hle]; rfl
                clear hC
                refine wp_region_quiet_lit (by kernel_rfl) (by kernel_rfl) ?_
                repeat (go_big_quiet_step (fail))
                refine wpQuiet_nil ?_
                rintro _ ⟨nr, rfl⟩
                go_wp2
                go_meet
                case rel => exact ⟨by rw [HCt.out], HI.out.drewN nr⟩
            case rest =>
              clear HI
              obtain ⟨rfl, hI⟩ := hcut
              have HI := Lib.hid hI
              have hgl := hI.lt
              have fz := hI.1.unfrozen
              clear hI
              cases C with
              | true =>
                have hle : k ≤ l := by have h := HC.out; simp at h; exact h.1
                have e11 := e10 hle
                have HEt := Lib.hid HE.out
                clear hC
                go_wp2
                go_roundw
                case rel => exact ⟨x1, by have := HX1.out; omega, by have := HX1.out; omega, by have := HX1.out; omega, rfl, HI.out, by have h := HE.out; rw [if_pos rfl, HX1.out] at h; exact h⟩
                case measure => have := HX1.out; simp [intOf] <;> omega
              | false =>
                have HE := Lib.hid (show l = J2 from by have h := HE.out; rw [if_neg (by decide)] at h; exact h)
                clear hC e10
                have HH1 := HI2.out
                rw [← HU.out] at HH1
                have HH2 := HJ2.out
                rw [← HE.out] at HH2
                have HA := Lib.hid HH1
                have HB := Lib.hid HH2
                have hlle := HL0.out
                have hkge := HK0.out
                clear HH1 HH2
                have HSP := Lib.hid ((part_eq (a := a) HA.out HB.out).symm.trans HD.out)
                by_cases hgt : k > l
                · have hgt' : (l : Int) < (k : Int) := by omega
                  have HF : Hid ((l, true, Sort.swp ys l a) = D) := by have h := HSP.out; rw [if_pos hgt] at h; exact h
                  have u0 := HI.out.word (i := l) (by omega)
                  have u1 := HI.out.word (i := a) (by omega)
                  obtain ⟨y0, hy0⟩ : ∃ z, ys[l]! = z := ⟨_, rfl⟩
                  obtain ⟨y1, hy1⟩ : ∃ z, ys[a]! = z := ⟨_, rfl⟩
                  have HSW : Hid (∀ m, SoA w0 g off n c (Sort.swp ys l a) (((wc.drewN m).setCell ⟨g, off + l, none⟩ (.int .u64 y1)).setCell ⟨g, off + a, none⟩ (.int .u64 y0))) := by
                    intro m
                    have h2 := (HI.out.drewN m).swap (i := l) (j := a) (by omega) (by omega)
                    rwa [hy0, hy1] at h2
                  rw [hy0] at u0
                  rw [hy1] at u1
                  have i0 : (l : Int) < (n : Int) := by omega
                  have i1 : (a : Int) < (n : Int) := by omega
                  have z0 : (0 : Int) ≤ (l : Int) := by omega
                  have z1 : (0 : Int) ≤ (a : Int) := by omega
                  have HEQ : Hid (l = a → y0 = y1) := fun he => by rw [← hy0, ← hy1, he]
                  clear hy0 hy1
                  by_cases hpe : l = a
                  · obtain rfl : y0 = y1 := HEQ.out hpe
                    clear u1
                    subst hpe
                    go_upto_region 8 with (fail)
                    refine ord_reads [] [.p [0, 1, 2, 3, 4, 5, 6, 8, 9, 10], .q [7, 11, 12], .h [13, 14, 15]] (by kernel_rfl) (fun _ _ d _ _ h => by cases d <;> exact h) (by kernel_rfl) ?_
                    (dsimp only [pick, List.filterMap, List.getElem?_cons_zero, List.getElem?_cons_succ]; refine wpQuiet_nil ?_; rintro _ ⟨nq1, rfl⟩; with_reducible refine part_pure ?_; dsimp only [pick, List.filterMap, List.getElem?_cons_zero, List.getElem?_cons_succ]; (repeat (first | (refine pure_ex rfl ?_; apply Exists.intro; apply And.intro; (intro w; go_simp; rfl); simp only [Act.put, List.setIfInBounds_toArray, List.set_cons_succ, List.set_cons_zero]) | (refine pure_skip rfl ?_; simp only [Act.put, List.setIfInBounds_toArray, List.set_cons_succ, List.set_cons_zero]))); refine pure_nil ?_; with_reducible refine part_reads ?_; dsimp only [pick, List.filterMap, List.getElem?_cons_zero, List.getElem?_cons_succ]; (repeat (go_big_quiet_step (fail))); refine wpQuiet_nil ?_; rintro _ ⟨nq2, rfl⟩; with_reducible refine part_hard ?_; dsimp only [pick, List.filterMap, List.getElem?_cons_zero, List.getElem?_cons_succ]; go_wp2; with_reducible refine segs_end ?_; with_reducible refine part_nil ?_; go_wp2)
                    refine bodyPost_ret (v := .tuple #[.int .i64 (l : Int), .bool true]) (by simp [results, Try.results128, go_sem]) rfl ?_
                    rw [← HF.out]
                    exact ⟨rfl, HSW.out _⟩
                  · have hpe' : ¬ a = l := by omega
                    go_upto_region 8 with (fail)
                    refine ord_reads [] [.p [0, 1, 2, 3, 4, 5, 6, 8, 9, 10], .q [7, 11, 12], .h [13, 14, 15]] (by kernel_rfl) (fun _ _ d _ _ h => by cases d <;> exact h) (by kernel_rfl) ?_
                    (dsimp only [pick, List.filterMap, List.getElem?_cons_zero, List.getElem?_cons_succ]; refine wpQuiet_nil ?_; rintro _ ⟨nq1, rfl⟩; with_reducible refine part_pure ?_; dsimp only [pick, List.filterMap, List.getElem?_cons_zero, List.getElem?_cons_succ]; (repeat (first | (refine pure_ex rfl ?_; apply Exists.intro; apply And.intro; (intro w; go_simp; rfl); simp only [Act.put, List.setIfInBounds_toArray, List.set_cons_succ, List.set_cons_zero]) | (refine pure_skip rfl ?_; simp only [Act.put, List.setIfInBounds_toArray, List.set_cons_succ, List.set_cons_zero]))); refine pure_nil ?_; with_reducible refine part_reads ?_; dsimp only [pick, List.filterMap, List.getElem?_cons_zero, List.getElem?_cons_succ]; (repeat (go_big_quiet_step (fail))); refine wpQuiet_nil ?_; rintro _ ⟨nq2, rfl⟩; with_reducible refine part_hard ?_; dsimp only [pick, List.filterMap, List.getElem?_cons_zero, List.getElem?_cons_succ]; go_wp2; with_reducible refine segs_end ?_; with_reducible refine part_nil ?_; go_wp2)
                    refine bodyPost_ret (v := .tuple #[.int .i64 (l : Int), .bool true]) (by simp [results, Try.results128, go_sem]) rfl ?_
                    rw [← HF.out]
                    exact ⟨rfl, HSW.out _⟩
                · have hgt' : ¬ (l : Int) < (k : Int) := by omega
                  have hgt2 : (k : Int) ≤ (l : Int) := by omega
                  have HF : Hid (partFin a (Sort.partLoop Sort.ltInt a (k + 1) (l - 1) (Sort.swp ys k l)) = D) := by have h := HSP.out; rw [if_neg hgt] at h; exact h
                  obtain ⟨kk, hkk1⟩ : ∃ z, k + 1 = z := ⟨_, rfl⟩
                  obtain ⟨l2, hl2x⟩ : ∃ z, l - 1 = z := ⟨_, rfl⟩
                  have e20 : IntKind.i64.wrap ((k : Int) + 1) = (kk : Int) := by rw [IntWalk.i64_in _ (by omega)]; omega
                  have e21 : IntKind.i64.wrap ((l : Int) - 1) = (l2 : Int) := by rw [IntWalk.i64_in _ (by omega)]; omega
                  rw [hkk1, hl2x] at HF
                  have b1 : kk ≤ k + 1 := by omega
                  have b2 : k + 1 ≤ kk := by omega
                  have b3 : l ≤ l2 + 1 := by omega
                  have b4 : l2 + 1 ≤ l := by omega
                  clear hkk1 hl2x
                  have u0 := HI.out.word (i := k) (by omega)
                  have u1 := HI.out.word (i := l) (by omega)
                  obtain ⟨y0, hy0⟩ : ∃ z, ys[k]! = z := ⟨_, rfl⟩
                  obtain ⟨y1, hy1⟩ : ∃ z, ys[l]! = z := ⟨_, rfl⟩
                  have HSW : Hid (∀ m, SoA w0 g off n c (Sort.swp ys k l) (((wc.drewN m).setCell ⟨g, off + k, none⟩ (.int .u64 y1)).setCell ⟨g, off + l, none⟩ (.int .u64 y0))) := by
                    intro m
                    have h2 := (HI.out.drewN m).swap (i := k) (j := l) (by omega) (by omega)
                    rwa [hy0, hy1] at h2
                  rw [hy0] at u0
                  rw [hy1] at u1
                  have i0 : (k : Int) < (n : Int) := by omega
                  have i1 : (l : Int) < (n : Int) := by omega
                  have z0 : (0 : Int) ≤ (k : Int) := by omega
                  have z1 : (0 : Int) ≤ (l : Int) := by omega
                  have HEQ : Hid (k = l → y0 = y1) := fun he => by rw [← hy0, ← hy1, he]
                  clear hy0 hy1
                  by_cases hpe : k = l
                  · obtain rfl : y0 = y1 := HEQ.out hpe
                    clear u1
                    subst hpe
                    go_upto_region 10 with (fail)
                    refine ord_reads [] [.p [0, 1, 2, 3, 4, 5, 6, 8, 9, 10], .q [7, 11, 12], .h [13, 14, 15]] (by kernel_rfl) (fun _ _ d _ _ h => by cases d <;> exact h) (by kernel_rfl) ?_
                    (dsimp only [pick, List.filterMap, List.getElem?_cons_zero, List.getElem?_cons_succ]; refine wpQuiet_nil ?_; rintro _ ⟨nq1, rfl⟩; with_reducible refine part_pure ?_; dsimp only [pick, List.filterMap, List.getElem?_cons_zero, List.getElem?_cons_succ]; (repeat (first | (refine pure_ex rfl ?_; apply Exists.intro; apply And.intro; (intro w; go_simp; rfl); simp only [Act.put, List.setIfInBounds_toArray, List.set_cons_succ, List.set_cons_zero]) | (refine pure_skip rfl ?_; simp only [Act.put, List.setIfInBounds_toArray, List.set_cons_succ, List.set_cons_zero]))); refine pure_nil ?_; with_reducible refine part_reads ?_; dsimp only [pick, List.filterMap, List.getElem?_cons_zero, List.getElem?_cons_succ]; (repeat (go_big_quiet_step (fail))); refine wpQuiet_nil ?_; rintro _ ⟨nq2, rfl⟩; with_reducible refine part_hard ?_; dsimp only [pick, List.filterMap, List.getElem?_cons_zero, List.getElem?_cons_succ]; go_wp2; with_reducible refine segs_end ?_; with_reducible refine part_nil ?_; go_wp2)
                    go_loopw [10, 11, 99, 100, 101, 102, 103, 104, 105, 106, 107, 108, 109, 110, 111, 112, 113, 114, 115, 116, 117, 118, 119, 120, 121, 122, 123, 124, 125, 126, 127, 128, 129, 130, 131, 132, 133, 134, 135, 136, 137, 138, 139, 140, 141, 142, 143, 144, 145, 146, 147, 148, 149, 150, 151, 152] (fun i j _ _ _ _ _ _ _ _ _ _ _ _ _ _ _ _ _ _ _ _ _ _ _ _ _ _ _ _ _ _ _ _ _ _ _ _ _ _ _ _ _ _ _ _ _ _ _ _ _ _ _ _ _ _ wr => ∃ (k l : Nat) (ys : Array Int), a < k ∧ k ≤ b ∧ a ≤ l ∧ l < b ∧ k ≤ l + 2 ∧ i = .int .i64 (k : Int) ∧ j = .int .i64 (l : Int) ∧ SoA w0 g off n c ys wr ∧ partFin a (Sort.partLoop Sort.ltInt a k l ys) = D) (fun i j _ _ _ _ _ _ _ _ _ _ _ _ _ _ _ _ _ _ _ _ _ _ _ _ _ _ _ _ _ _ _ _ _ _ _ _ _ _ _ _ _ _ _ _ _ _ _ _ _ _ _ _ _ _ _ => (intOf j + 1 - intOf i).toNat)
                    case atStart => exact ⟨kk, l2, _, by omega, by omega, by omega, by omega, by omega, rfl, rfl, HSW.out _, HF.out⟩
                    case round =>
                      clear HI HF HSW HEQ HA HB HI2 HJ2 HU HE HK0 HL0 HX1 HC
                      obtain ⟨k, l, ys, hk1, hk2, hl1, hl2, hk3, rfl, rfl, hI, hSo⟩ := hrel
                      have HI := Lib.hid hI
                      have HSO := Lib.hid hSo
                      clear hI hSo
                      go_wp2
                      obtain ⟨I2, hI2⟩ : ∃ z, Sort.scanUp (fun x => Sort.ltInt x ys[a]!) ys l k = z := ⟨_, rfl⟩
                      have HI2 := Lib.hid hI2
                      obtain ⟨k0, hk0⟩ : ∃ z, z = k := ⟨_, rfl⟩
                      have hkk : k0 ≤ k := by omega
                      have hak0 : a < k0 := by omega
                      have HK0 := Lib.hid hk0
                      clear hI2 hk0
                      go_loopw [10, 99, 100, 101, 102, 103, 104, 105, 106, 107, 108, 109, 110, 111, 112, 113, 114] (fun i _ _ _ _ _ _ _ _ _ _ _ _ _ _ _ _ wr => ∃ k, k0 ≤ k ∧ k ≤ l + 2 ∧ i = .int .i64 (k : Int) ∧ SoA w0 g off n c ys wr ∧ Sort.scanUp (fun x => Sort.ltInt x ys[a]!) ys l k = I2) (fun i _ _ _ _ _ _ _ _ _ _ _ _ _ _ _ _ _ => ((l : Int) + 1 - intOf i).toNat)
                      case atStart => exact ⟨k, hkk, by omega, rfl, HI.out, HI2.out⟩
                      case round =>
                        clear HI
                        obtain ⟨k, hk0, hkl, rfl, hI, hE⟩ := hrel
                        have HI := Lib.hid hI
                        have HE := Lib.hid hE
                        have hgl := hI.lt
                        have fz := hI.1.unfrozen
                        clear hI hE
                        obtain ⟨x1, hx1⟩ : ∃ z, k + 1 = z := ⟨_, rfl⟩
                        have e10 : k ≤ l → IntKind.i64.wrap ((k : Int) + 1) = (x1 : Int) := fun _ => by rw [IntWalk.i64_in _ (by omega)]; omega
                        have HX1 := Lib.hid hx1
                        clear hx1
                        obtain ⟨C, hC⟩ : ∃ C : Bool, (decide (k ≤ l) && (fun x => Sort.ltInt x ys[a]!) ys[k]!) = C := ⟨_, rfl⟩
                        have HC := Lib.hid hC
                        have HE := Lib.hid ((scanUp_c HC.out).symm.trans HE.out)
                        go_upto_region 13 with (fail)
                        go_cut [112] from 99 to 114 (fun s wx => s = .bool C ∧ SoA w0 g off n c ys wx)
                        case first =>
                          by_cases hle : k ≤ l
                          · have hd2 : decide ((k : Int) ≤ (l : Int)) = true := decide_eq_true (by omega)
                            have u0 := HI.out.word (i := a) (by omega)
                            have u1 := HI.out.word (i := k) (by omega)
                            obtain ⟨ya, hya⟩ : ∃ z, ys[a]! = z := ⟨_, rfl⟩
                            obtain ⟨yx, hyx⟩ : ∃ z, ys[k]! = z := ⟨_, rfl⟩
                            rw [hya] at u0 hC
                            rw [hyx] at u1 hC
                            have i0 : (a : Int) < (n : Int) := by omega
                            have i1 : (k : Int) < (n : Int) := by omega
                            have z0 : (0 : Int) ≤ (a : Int) := by omega
                            have z1 : (0 : Int) ≤ (k : Int) := by omega
                            by_cases hsw : yx < ya
                            · have hds : decide (yx < ya) = true := decide_eq_true hsw
                              have HCt : Hid (C = true) := by show _ = _; rw [← hC, decide_eq_true hle]; simp [Sort.ltInt]; omega
                              clear hya hyx hC
                              refine wp_region_quiet_lit (by kernel_rfl) (by kernel_rfl) ?_
                              repeat (go_big_quiet_step ((go_at_call 126; exact q_same (lessU _ _ _))))
                              refine wpQuiet_nil ?_
                              rintro _ ⟨nr, rfl⟩
                              go_wp2
                              go_meet
                              case rel => exact ⟨by rw [HCt.out], HI.out.drewN nr⟩
                            · have hds : decide (yx < ya) = false := decide_eq_false hsw
                              have HCt : Hid (C = false) := by show _ = _; rw [← hC, decide_eq_true hle]; simp [Sort.ltInt]; omega
                              clear hya hyx hC
                              refine wp_region_quiet_lit (by kernel_rfl) (by kernel_rfl) ?_
                              repeat (go_big_quiet_step ((go_at_call 126; exact q_same (lessU _ _ _))))
                              refine wpQuiet_nil ?_
                              rintro _ ⟨nr, rfl⟩
                              go_wp2
                              go_meet
                              case rel => exact ⟨by rw [HCt.out], HI.out.drewN nr⟩
                          · have hd2 : decide ((k : Int) ≤ (l : Int)) = false := decide_eq_false (by omega)
                            have HCt : Hid (C = false) := by show _ = _; rw [← hC, decide_eq_false hle]; rfl
                            clear hC
                            refine wp_region_quiet_lit (by kernel_rfl) (by kernel_rfl) ?_
                            repeat (go_big_quiet_step (fail))
                            refine wpQuiet_nil ?_
                            rintro _ ⟨nr, rfl⟩
                            go_wp2
                            go_meet
                            case rel => exact ⟨by rw [HCt.out], HI.out.drewN nr⟩
                        case rest =>
                          clear HI
                          obtain ⟨rfl, hI⟩ := hcut
                          have HI := Lib.hid hI
                          have hgl := hI.lt
                          have fz := hI.1.unfrozen
                          clear hI
                          cases C with
                          | true =>
                            have hle : k ≤ l := by have h := HC.out; simp at h; exact h.1
                            have e11 := e10 hle
                            have HEt := Lib.hid HE.out
                            clear hC
                            go_wp2
                            go_roundw
                            case rel => exact ⟨x1, by have := HX1.out; omega, by have := HX1.out; omega, rfl, HI.out, by have h := HE.out; rw [if_pos rfl, HX1.out] at h; exact h⟩
                            case measure => have := HX1.out; simp [intOf] <;> omega
                          | false =>
                            have HE := Lib.hid (show k = I2 from by have h := HE.out; rw [if_neg (by decide)] at h; exact h)
                            clear hC e10
                            have HU := Lib.hid HE.out
                            go_wp2
                            obtain ⟨J2, hJ2⟩ : ∃ z, Sort.scanDown (fun x => !Sort.ltInt x ys[a]!) ys k l = z := ⟨_, rfl⟩
                            have HJ2 := Lib.hid hJ2
                            obtain ⟨l0, hl0⟩ : ∃ z, z = l := ⟨_, rfl⟩
                            have hll : l ≤ l0 := by omega
                            have hlb0 : l0 < b := by omega
                            have HL0 := Lib.hid hl0
                            clear hJ2 hl0
                            go_loopw [11, 115, 116, 117, 118, 119, 120, 121, 122, 123, 124, 125, 126, 127, 128, 129, 130, 131] (fun j _ _ _ _ _ _ _ _ _ _ _ _ _ _ _ _ _ wr => ∃ l, a ≤ l ∧ l ≤ l0 ∧ k ≤ l + 2 ∧ j = .int .i64 (l : Int) ∧ SoA w0 g off n c ys wr ∧ Sort.scanDown (fun x => !Sort.ltInt x ys[a]!) ys k l = J2) (fun j _ _ _ _ _ _ _ _ _ _ _ _ _ _ _ _ _ _ => (intOf j).toNat)
                            case atStart => exact ⟨l, by omega, hll, by omega, rfl, HI.out, HJ2.out⟩
                            case round =>
                              clear HI
                              obtain ⟨l, hal, hll, hkl, rfl, hI, hE⟩ := hrel
                              have HI := Lib.hid hI
                              have HE := Lib.hid hE
                              have hgl := hI.lt
                              have fz := hI.1.unfrozen
                              clear hI hE
                              obtain ⟨x1, hx1⟩ : ∃ z, l - 1 = z := ⟨_, rfl⟩
                              have e10 : k ≤ l → IntKind.i64.wrap ((l : Int) - 1) = (x1 : Int) := fun _ => by rw [IntWalk.i64_in _ (by omega)]; omega
                              have HX1 := Lib.hid hx1
                              clear hx1
                              obtain ⟨C, hC⟩ : ∃ C : Bool, (decide (k ≤ l) && (fun x => !Sort.ltInt x ys[a]!) ys[l]!) = C := ⟨_, rfl⟩
                              have HC := Lib.hid hC
                              have HE := Lib.hid ((scanDown_c HC.out).symm.trans HE.out)
                              go_upto_region 15 with (fail)
                              go_cut [129] from 115 to 131 (fun s wx => s = .bool C ∧ SoA w0 g off n c ys wx)
                              case first =>
                                by_cases hle : k ≤ l
                                · have hd2 : decide ((k : Int) ≤ (l : Int)) = true := decide_eq_true (by omega)
                                  have u0 := HI.out.word (i := a) (by omega)
                                  have u1 := HI.out.word (i := l) (by omega)
                                  obtain ⟨ya, hya⟩ : ∃ z, ys[a]! = z := ⟨_, rfl⟩
                                  obtain ⟨yx, hyx⟩ : ∃ z, ys[l]! = z := ⟨_, rfl⟩
                                  rw [hya] at u0 hC
                                  rw [hyx] at u1 hC
                                  have i0 : (a : Int) < (n : Int) := by omega
                                  have i1 : (l : Int) < (n : Int) := by omega
                                  have z0 : (0 : Int) ≤ (a : Int) := by omega
                                  have z1 : (0 : Int) ≤ (l : Int) := by omega
                                  by_cases hsw : yx < ya
                                  · have hds : decide (yx < ya) = true := decide_eq_true hsw
                                    have HCt : Hid (C = false) := by show _ = _; rw [← hC, decide_eq_true hle]; simp [Sort.ltInt]; omega
                                    clear hya hyx hC
                                    refine wp_region_quiet_lit (by kernel_rfl) (by kernel_rfl) ?_
                                    repeat (go_big_quiet_step ((go_at_call 126; exact q_same (lessU _ _ _))))
                                    refine wpQuiet_nil ?_
                                    rintro _ ⟨nr, rfl⟩
                                    go_wp2
                                    go_meet
                                    case rel => exact ⟨by rw [HCt.out], HI.out.drewN nr⟩
                                  · have hds : decide (yx < ya) = false := decide_eq_false hsw
                                    have HCt : Hid (C = true) := by show _ = _; rw [← hC, decide_eq_true hle]; simp [Sort.ltInt]; omega
                                    clear hya hyx hC
                                    refine wp_region_quiet_lit (by kernel_rfl) (by kernel_rfl) ?_
                                    repeat (go_big_quiet_step ((go_at_call 126; exact q_same (lessU _ _ _))))
                                    refine wpQuiet_nil ?_
                                    rintro _ ⟨nr, rfl⟩
                                    go_wp2
                                    go_meet
                                    case rel => exact ⟨by rw [HCt.out], HI.out.drewN nr⟩
                                · have hd2 : decide ((k : Int) ≤ (l : Int)) = false := decide_eq_false (by omega)
                                  have HCt : Hid (C = false) := by show _ = _; rw [← hC, decide_eq_false hle]; rfl
                                  clear hC
                                  refine wp_region_quiet_lit (by kernel_rfl) (by kernel_rfl) ?_
                                  repeat (go_big_quiet_step (fail))
                                  refine wpQuiet_nil ?_
                                  rintro _ ⟨nr, rfl⟩
                                  go_wp2
                                  go_meet
                                  case rel => exact ⟨by rw [HCt.out], HI.out.drewN nr⟩
                              case rest =>
                                clear HI
                                obtain ⟨rfl, hI⟩ := hcut
                                have HI := Lib.hid hI
                                have hgl := hI.lt
                                have fz := hI.1.unfrozen
                                clear hI
                                cases C with
                                | true =>
                                  have hle : k ≤ l := by have h := HC.out; simp at h; exact h.1
                                  have e11 := e10 hle
                                  have HEt := Lib.hid HE.out
                                  clear hC
                                  go_wp2
                                  go_roundw
                                  case rel => exact ⟨x1, by have := HX1.out; omega, by have := HX1.out; omega, by have := HX1.out; omega, rfl, HI.out, by have h := HE.out; rw [if_pos rfl, HX1.out] at h; exact h⟩
                                  case measure => have := HX1.out; simp [intOf] <;> omega
                                | false =>
                                  have HE := Lib.hid (show l = J2 from by have h := HE.out; rw [if_neg (by decide)] at h; exact h)
                                  clear hC e10
                                  have HH1 := HI2.out
                                  rw [← HU.out] at HH1
                                  have HH2 := HJ2.out
                                  rw [← HE.out] at HH2
                                  have HA := Lib.hid HH1
                                  have HB := Lib.hid HH2
                                  have hlle := HL0.out
                                  have hkge := HK0.out
                                  clear HH1 HH2
                                  by_cases hgt : k > l
                                  · have hgt' : (l : Int) < (k : Int) := by omega
                                    have HF := Lib.hid ((congrArg (partFin a) (part_end (lt := Sort.ltInt) HA.out HB.out hgt)).symm.trans HSO.out)
                                    have u0 := HI.out.word (i := l) (by omega)
                                    have u1 := HI.out.word (i := a) (by omega)
                                    obtain ⟨y0, hy0⟩ : ∃ z, ys[l]! = z := ⟨_, rfl⟩
                                    obtain ⟨y1, hy1⟩ : ∃ z, ys[a]! = z := ⟨_, rfl⟩
                                    have HSW : Hid (∀ m, SoA w0 g off n c (Sort.swp ys l a) (((wc.drewN m).setCell ⟨g, off + l, none⟩ (.int .u64 y1)).setCell ⟨g, off + a, none⟩ (.int .u64 y0))) := by
                                      intro m
                                      have h2 := (HI.out.drewN m).swap (i := l) (j := a) (by omega) (by omega)
                                      rwa [hy0, hy1] at h2
                                    rw [hy0] at u0
                                    rw [hy1] at u1
                                    have i0 : (l : Int) < (n : Int) := by omega
                                    have i1 : (a : Int) < (n : Int) := by omega
                                    have z0 : (0 : Int) ≤ (l : Int) := by omega
                                    have z1 : (0 : Int) ≤ (a : Int) := by omega
                                    have HEQ : Hid (l = a → y0 = y1) := fun he => by rw [← hy0, ← hy1, he]
                                    clear hy0 hy1
                                    by_cases hpe : l = a
                                    · obtain rfl : y0 = y1 := HEQ.out hpe
                                      clear u1
                                      subst hpe
                                      go_upto_region 21 with (fail)
                                      refine ord_reads [] [.p [0, 1, 2, 3, 4, 5, 6, 8, 9, 10], .q [7, 11, 12], .h [13, 14, 15]] (by kernel_rfl) (fun _ _ d _ _ h => by cases d <;> exact h) (by kernel_rfl) ?_
                                      (dsimp only [pick, List.filterMap, List.getElem?_cons_zero, List.getElem?_cons_succ]; refine wpQuiet_nil ?_; rintro _ ⟨nq1, rfl⟩; with_reducible refine part_pure ?_; dsimp only [pick, List.filterMap, List.getElem?_cons_zero, List.getElem?_cons_succ]; (repeat (first | (refine pure_ex rfl ?_; apply Exists.intro; apply And.intro; (intro w; go_simp; rfl); simp only [Act.put, List.setIfInBounds_toArray, List.set_cons_succ, List.set_cons_zero]) | (refine pure_skip rfl ?_; simp only [Act.put, List.setIfInBounds_toArray, List.set_cons_succ, List.set_cons_zero]))); refine pure_nil ?_; with_reducible refine part_reads ?_; dsimp only [pick, List.filterMap, List.getElem?_cons_zero, List.getElem?_cons_succ]; (repeat (go_big_quiet_step (fail))); refine wpQuiet_nil ?_; rintro _ ⟨nq2, rfl⟩; with_reducible refine part_hard ?_; dsimp only [pick, List.filterMap, List.getElem?_cons_zero, List.getElem?_cons_succ]; go_wp2; with_reducible refine segs_end ?_; with_reducible refine part_nil ?_; go_wp2)
                                      refine bodyPost_ret (v := .tuple #[.int .i64 (l : Int), .bool false]) (by simp [results, Try.results128, go_sem]) rfl ?_
                                      rw [← HF.out]
                                      exact ⟨rfl, HSW.out _⟩
                                    · have hpe' : ¬ a = l := by omega
                                      go_upto_region 21 with (fail)
                                      refine ord_reads [] [.p [0, 1, 2, 3, 4, 5, 6, 8, 9, 10], .q [7, 11, 12], .h [13, 14, 15]] (by kernel_rfl) (fun _ _ d _ _ h => by cases d <;> exact h) (by kernel_rfl) ?_
                                      (dsimp only [pick, List.filterMap, List.getElem?_cons_zero, List.getElem?_cons_succ]; refine wpQuiet_nil ?_; rintro _ ⟨nq1, rfl⟩; with_reducible refine part_pure ?_; dsimp only [pick, List.filterMap, List.getElem?_cons_zero, List.getElem?_cons_succ]; (repeat (first | (refine pure_ex rfl ?_; apply Exists.intro; apply And.intro; (intro w; go_simp; rfl); simp only [Act.put, List.setIfInBounds_toArray, List.set_cons_succ, List.set_cons_zero]) | (refine pure_skip rfl ?_; simp only [Act.put, List.setIfInBounds_toArray, List.set_cons_succ, List.set_cons_zero]))); refine pure_nil ?_; with_reducible refine part_reads ?_; dsimp only [pick, List.filterMap, List.getElem?_cons_zero, List.getElem?_cons_succ]; (repeat (go_big_quiet_step (fail))); refine wpQuiet_nil ?_; rintro _ ⟨nq2, rfl⟩; with_reducible refine part_hard ?_; dsimp only [pick, List.filterMap, List.getElem?_cons_zero, List.getElem?_cons_succ]; go_wp2; with_reducible refine segs_end ?_; with_reducible refine part_nil ?_; go_wp2)
                                      refine bodyPost_ret (v := .tuple #[.int .i64 (l : Int), .bool false]) (by simp [results, Try.results128, go_sem]) rfl ?_
                                      rw [← HF.out]
                                      exact ⟨rfl, HSW.out _⟩
                                  · have hgt' : ¬ (l : Int) < (k : Int) := by omega
                                    have hgt2 : (k : Int) ≤ (l : Int) := by omega
                                    have HF := Lib.hid ((congrArg (partFin a) (part_go (lt := Sort.ltInt) HA.out HB.out hgt (by omega) (by omega))).symm.trans HSO.out)
                                    obtain ⟨kk, hkk1⟩ : ∃ z, k + 1 = z := ⟨_, rfl⟩
                                    obtain ⟨l2, hl2x⟩ : ∃ z, l - 1 = z := ⟨_, rfl⟩
                                    have e20 : IntKind.i64.wrap ((k : Int) + 1) = (kk : Int) := by rw [IntWalk.i64_in _ (by omega)]; omega
                                    have e21 : IntKind.i64.wrap ((l : Int) - 1) = (l2 : Int) := by rw [IntWalk.i64_in _ (by omega)]; omega
                                    rw [hkk1, hl2x] at HF
                                    have b1 : kk ≤ k + 1 := by omega
                                    have b2 : k + 1 ≤ kk := by omega
                                    have b3 : l ≤ l2 + 1 := by omega
                                    have b4 : l2 + 1 ≤ l := by omega
                                    clear hkk1 hl2x
                                    have u0 := HI.out.word (i := k) (by omega)
                                    have u1 := HI.out.word (i := l) (by omega)
                                    obtain ⟨y0, hy0⟩ : ∃ z, ys[k]! = z := ⟨_, rfl⟩
                                    obtain ⟨y1, hy1⟩ : ∃ z, ys[l]! = z := ⟨_, rfl⟩
                                    have HSW : Hid (∀ m, SoA w0 g off n c (Sort.swp ys k l) (((wc.drewN m).setCell ⟨g, off + k, none⟩ (.int .u64 y1)).setCell ⟨g, off + l, none⟩ (.int .u64 y0))) := by
                                      intro m
                                      have h2 := (HI.out.drewN m).swap (i := k) (j := l) (by omega) (by omega)
                                      rwa [hy0, hy1] at h2
                                    rw [hy0] at u0
                                    rw [hy1] at u1
                                    have i0 : (k : Int) < (n : Int) := by omega
                                    have i1 : (l : Int) < (n : Int) := by omega
                                    have z0 : (0 : Int) ≤ (k : Int) := by omega
                                    have z1 : (0 : Int) ≤ (l : Int) := by omega
                                    have HEQ : Hid (k = l → y0 = y1) := fun he => by rw [← hy0, ← hy1, he]
                                    clear hy0 hy1
                                    by_cases hpe : k = l
                                    · obtain rfl : y0 = y1 := HEQ.out hpe
                                      clear u1
                                      subst hpe
                                      go_upto_region 18 with (fail)
                                      refine ord_reads [] [.p [0, 1, 2, 3, 4, 5, 6, 8, 9, 10], .q [7, 11, 12], .h [13, 14, 15]] (by kernel_rfl) (fun _ _ d _ _ h => by cases d <;> exact h) (by kernel_rfl) ?_
                                      (dsimp only [pick, List.filterMap, List.getElem?_cons_zero, List.getElem?_cons_succ]; refine wpQuiet_nil ?_; rintro _ ⟨nq1, rfl⟩; with_reducible refine part_pure ?_; dsimp only [pick, List.filterMap, List.getElem?_cons_zero, List.getElem?_cons_succ]; (repeat (first | (refine pure_ex rfl ?_; apply Exists.intro; apply And.intro; (intro w; go_simp; rfl); simp only [Act.put, List.setIfInBounds_toArray, List.set_cons_succ, List.set_cons_zero]) | (refine pure_skip rfl ?_; simp only [Act.put, List.setIfInBounds_toArray, List.set_cons_succ, List.set_cons_zero]))); refine pure_nil ?_; with_reducible refine part_reads ?_; dsimp only [pick, List.filterMap, List.getElem?_cons_zero, List.getElem?_cons_succ]; (repeat (go_big_quiet_step (fail))); refine wpQuiet_nil ?_; rintro _ ⟨nq2, rfl⟩; with_reducible refine part_hard ?_; dsimp only [pick, List.filterMap, List.getElem?_cons_zero, List.getElem?_cons_succ]; go_wp2; with_reducible refine segs_end ?_; with_reducible refine part_nil ?_; go_wp2)
                                      go_roundw
                                      case rel => exact ⟨kk, l2, _, by omega, by omega, by omega, by omega, by omega, rfl, rfl, HSW.out _, HF.out⟩
                                      case measure => simp [intOf] <;> omega
                                    · have hpe' : ¬ l = k := by omega
                                      go_upto_region 18 with (fail)
                                      refine ord_reads [] [.p [0, 1, 2, 3, 4, 5, 6, 8, 9, 10], .q [7, 11, 12], .h [13, 14, 15]] (by kernel_rfl) (fun _ _ d _ _ h => by cases d <;> exact h) (by kernel_rfl) ?_
                                      (dsimp only [pick, List.filterMap, List.getElem?_cons_zero, List.getElem?_cons_succ]; refine wpQuiet_nil ?_; rintro _ ⟨nq1, rfl⟩; with_reducible refine part_pure ?_; dsimp only [pick, List.filterMap, List.getElem?_cons_zero, List.getElem?_cons_succ]; (repeat (first | (refine pure_ex rfl ?_; apply Exists.intro; apply And.intro; (intro w; go_simp; rfl); simp only [Act.put, List.setIfInBounds_toArray, List.set_cons_succ, List.set_cons_zero]) | (refine pure_skip rfl ?_; simp only [Act.put, List.setIfInBounds_toArray, List.set_cons_succ, List.set_cons_zero]))); refine pure_nil ?_; with_reducible refine part_reads ?_; dsimp only [pick, List.filterMap, List.getElem?_cons_zero, List.getElem?_cons_succ]; (repeat (go_big_quiet_step (fail))); refine wpQuiet_nil ?_; rintro _ ⟨nq2, rfl⟩; with_reducible refine part_hard ?_; dsimp only [pick, List.filterMap, List.getElem?_cons_zero, List.getElem?_cons_succ]; go_wp2; with_reducible refine segs_end ?_; with_reducible refine part_nil ?_; go_wp2)
                                      go_roundw
                                      case rel => exact ⟨kk, l2, _, by omega, by omega, by omega, by omega, by omega, rfl, rfl, HSW.out _, HF.out⟩
                                      case measure => simp [intOf] <;> omega
                  · have hpe' : ¬ l = k := by omega
                    go_upto_region 10 with (fail)
                    refine ord_reads [] [.p [0, 1, 2, 3, 4, 5, 6, 8, 9, 10], .q [7, 11, 12], .h [13, 14, 15]] (by kernel_rfl) (fun _ _ d _ _ h => by cases d <;> exact h) (by kernel_rfl) ?_
                    (dsimp only [pick, List.filterMap, List.getElem?_cons_zero, List.getElem?_cons_succ]; refine wpQuiet_nil ?_; rintro _ ⟨nq1, rfl⟩; with_reducible refine part_pure ?_; dsimp only [pick, List.filterMap, List.getElem?_cons_zero, List.getElem?_cons_succ]; (repeat (first | (refine pure_ex rfl ?_; apply Exists.intro; apply And.intro; (intro w; go_simp; rfl); simp only [Act.put, List.setIfInBounds_toArray, List.set_cons_succ, List.set_cons_zero]) | (refine pure_skip rfl ?_; simp only [Act.put, List.setIfInBounds_toArray, List.set_cons_succ, List.set_cons_zero]))); refine pure_nil ?_; with_reducible refine part_reads ?_; dsimp only [pick, List.filterMap, List.getElem?_cons_zero, List.getElem?_cons_succ]; (repeat (go_big_quiet_step (fail))); refine wpQuiet_nil ?_; rintro _ ⟨nq2, rfl⟩; with_reducible refine part_hard ?_; dsimp only [pick, List.filterMap, List.getElem?_cons_zero, List.getElem?_cons_succ]; go_wp2; with_reducible refine segs_end ?_; with_reducible refine part_nil ?_; go_wp2)
                    go_loopw [10, 11, 99, 100, 101, 102, 103, 104, 105, 106, 107, 108, 109, 110, 111, 112, 113, 114, 115, 116, 117, 118, 119, 120, 121, 122, 123, 124, 125, 126, 127, 128, 129, 130, 131, 132, 133, 134, 135, 136, 137, 138, 139, 140, 141, 142, 143, 144, 145, 146, 147, 148, 149, 150, 151, 152] (fun i j _ _ _ _ _ _ _ _ _ _ _ _ _ _ _ _ _ _ _ _ _ _ _ _ _ _ _ _ _ _ _ _ _ _ _ _ _ _ _ _ _ _ _ _ _ _ _ _ _ _ _ _ _ _ wr => ∃ (k l : Nat) (ys : Array Int), a < k ∧ k ≤ b ∧ a ≤ l ∧ l < b ∧ k ≤ l + 2 ∧ i = .int .i64 (k : Int) ∧ j = .int .i64 (l : Int) ∧ SoA w0 g off n c ys wr ∧ partFin a (Sort.partLoop Sort.ltInt a k l ys) = D) (fun i j _ _ _ _ _ _ _ _ _ _ _ _ _ _ _ _ _ _ _ _ _ _ _ _ _ _ _ _ _ _ _ _ _ _ _ _ _ _ _ _ _ _ _ _ _ _ _ _ _ _ _ _ _ _ _ => (intOf j + 1 - intOf i).toNat)
                    case atStart => exact ⟨kk, l2, _, by omega, by omega, by omega, by omega, by omega, rfl, rfl, HSW.out _, HF.out⟩
                    case round =>
                      clear HI HF HSW HEQ HA HB HI2 HJ2 HU HE HK0 HL0 HX1 HC
                      obtain ⟨k, l, ys, hk1, hk2, hl1, hl2, hk3, rfl, rfl, hI, hSo⟩ := hrel
                      have HI := Lib.hid hI
                      have HSO := Lib.hid hSo
                      clear hI hSo
                      go_wp2
                      obtain ⟨I2, hI2⟩ : ∃ z, Sort.scanUp (fun x => Sort.ltInt x ys[a]!) ys l k = z := ⟨_, rfl⟩
                      have HI2 := Lib.hid hI2
                      obtain ⟨k0, hk0⟩ : ∃ z, z = k := ⟨_, rfl⟩
                      have hkk : k0 ≤ k := by omega
                      have hak0 : a < k0 := by omega
                      have HK0 := Lib.hid hk0
                      clear hI2 hk0
                      go_loopw [10, 99, 100, 101, 102, 103, 104, 105, 106, 107, 108, 109, 110, 111, 112, 113, 114] (fun i _ _ _ _ _ _ _ _ _ _ _ _ _ _ _ _ wr => ∃ k, k0 ≤ k ∧ k ≤ l + 2 ∧ i = .int .i64 (k : Int) ∧ SoA w0 g off n c ys wr ∧ Sort.scanUp (fun x => Sort.ltInt x ys[a]!) ys l k = I2) (fun i _ _ _ _ _ _ _ _ _ _ _ _ _ _ _ _ _ => ((l : Int) + 1 - intOf i).toNat)
                      case atStart => exact ⟨k, hkk, by omega, rfl, HI.out, HI2.out⟩
                      case round =>
                        clear HI
                        obtain ⟨k, hk0, hkl, rfl, hI, hE⟩ := hrel
                        have HI := Lib.hid hI
                        have HE := Lib.hid hE
                        have hgl := hI.lt
                        have fz := hI.1.unfrozen
                        clear hI hE
                        obtain ⟨x1, hx1⟩ : ∃ z, k + 1 = z := ⟨_, rfl⟩
                        have e10 : k ≤ l → IntKind.i64.wrap ((k : Int) + 1) = (x1 : Int) := fun _ => by rw [IntWalk.i64_in _ (by omega)]; omega
                        have HX1 := Lib.hid hx1
                        clear hx1
                        obtain ⟨C, hC⟩ : ∃ C : Bool, (decide (k ≤ l) && (fun x => Sort.ltInt x ys[a]!) ys[k]!) = C := ⟨_, rfl⟩
                        have HC := Lib.hid hC
                        have HE := Lib.hid ((scanUp_c HC.out).symm.trans HE.out)
                        go_upto_region 13 with (fail)
                        go_cut [112] from 99 to 114 (fun s wx => s = .bool C ∧ SoA w0 g off n c ys wx)
                        case first =>
                          by_cases hle : k ≤ l
                          · have hd2 : decide ((k : Int) ≤ (l : Int)) = true := decide_eq_true (by omega)
                            have u0 := HI.out.word (i := a) (by omega)
                            have u1 := HI.out.word (i := k) (by omega)
                            obtain ⟨ya, hya⟩ : ∃ z, ys[a]! = z := ⟨_, rfl⟩
                            obtain ⟨yx, hyx⟩ : ∃ z, ys[k]! = z := ⟨_, rfl⟩
                            rw [hya] at u0 hC
                            rw [hyx] at u1 hC
                            have i0 : (a : Int) < (n : Int) := by omega
                            have i1 : (k : Int) < (n : Int) := by omega
                            have z0 : (0 : Int) ≤ (a : Int) := by omega
                            have z1 : (0 : Int) ≤ (k : Int) := by omega
                            by_cases hsw : yx < ya
                            · have hds : decide (yx < ya) = true := decide_eq_true hsw
                              have HCt : Hid (C = true) := by show _ = _; rw [← hC, decide_eq_true hle]; simp [Sort.ltInt]; omega
                              clear hya hyx hC
                              refine wp_region_quiet_lit (by kernel_rfl) (by kernel_rfl) ?_
                              repeat (go_big_quiet_step ((go_at_call 126; exact q_same (lessU _ _ _))))
                              refine wpQuiet_nil ?_
                              rintro _ ⟨nr, rfl⟩
                              go_wp2
                              go_meet
                              case rel => exact ⟨by rw [HCt.out], HI.out.drewN nr⟩
                            · have hds : decide (yx < ya) = false := decide_eq_false hsw
                              have HCt : Hid (C = false) := by show _ = _; rw [← hC, decide_eq_true hle]; simp [Sort.ltInt]; omega
                              clear hya hyx hC
                              refine wp_region_quiet_lit (by kernel_rfl) (by kernel_rfl) ?_
                              repeat (go_big_quiet_step ((go_at_call 126; exact q_same (lessU _ _ _))))
                              refine wpQuiet_nil ?_
                              rintro _ ⟨nr, rfl⟩
                              go_wp2
                              go_meet
                              case rel => exact ⟨by rw [HCt.out], HI.out.drewN nr⟩
                          · have hd2 : decide ((k : Int) ≤ (l : Int)) = false := decide_eq_false (by omega)
                            have HCt : Hid (C = false) := by show _ = _; rw [← hC, decide_eq_false hle]; rfl
                            clear hC
                            refine wp_region_quiet_lit (by kernel_rfl) (by kernel_rfl) ?_
                            repeat (go_big_quiet_step (fail))
                            refine wpQuiet_nil ?_
                            rintro _ ⟨nr, rfl⟩
                            go_wp2
                            go_meet
                            case rel => exact ⟨by rw [HCt.out], HI.out.drewN nr⟩
                        case rest =>
                          clear HI
                          obtain ⟨rfl, hI⟩ := hcut
                          have HI := Lib.hid hI
                          have hgl := hI.lt
                          have fz := hI.1.unfrozen
                          clear hI
                          cases C with
                          | true =>
                            have hle : k ≤ l := by have h := HC.out; simp at h; exact h.1
                            have e11 := e10 hle
                            have HEt := Lib.hid HE.out
                            clear hC
                            go_wp2
                            go_roundw
                            case rel => exact ⟨x1, by have := HX1.out; omega, by have := HX1.out; omega, rfl, HI.out, by have h := HE.out; rw [if_pos rfl, HX1.out] at h; exact h⟩
                            case measure => have := HX1.out; simp [intOf] <;> omega
                          | false =>
                            have HE := Lib.hid (show k = I2 from by have h := HE.out; rw [if_neg (by decide)] at h; exact h)
                            clear hC e10
                            have HU := Lib.hid HE.out
                            go_wp2
                            obtain ⟨J2, hJ2⟩ : ∃ z, Sort.scanDown (fun x => !Sort.ltInt x ys[a]!) ys k l = z := ⟨_, rfl⟩
                            have HJ2 := Lib.hid hJ2
                            obtain ⟨l0, hl0⟩ : ∃ z, z = l := ⟨_, rfl⟩
                            have hll : l ≤ l0 := by omega
                            have hlb0 : l0 < b := by omega
                            have HL0 := Lib.hid hl0
                            clear hJ2 hl0
                            go_loopw [11, 115, 116, 117, 118, 119, 120, 121, 122, 123, 124, 125, 126, 127, 128, 129, 130, 131] (fun j _ _ _ _ _ _ _ _ _ _ _ _ _ _ _ _ _ wr => ∃ l, a ≤ l ∧ l ≤ l0 ∧ k ≤ l + 2 ∧ j = .int .i64 (l : Int) ∧ SoA w0 g off n c ys wr ∧ Sort.scanDown (fun x => !Sort.ltInt x ys[a]!) ys k l = J2) (fun j _ _ _ _ _ _ _ _ _ _ _ _ _ _ _ _ _ _ => (intOf j).toNat)
                            case atStart => exact ⟨l, by omega, hll, by omega, rfl, HI.out, HJ2.out⟩
                            case round =>
                              clear HI
                              obtain ⟨l, hal, hll, hkl, rfl, hI, hE⟩ := hrel
                              have HI := Lib.hid hI
                              have HE := Lib.hid hE
                              have hgl := hI.lt
                              have fz := hI.1.unfrozen
                              clear hI hE
                              obtain ⟨x1, hx1⟩ : ∃ z, l - 1 = z := ⟨_, rfl⟩
                              have e10 : k ≤ l → IntKind.i64.wrap ((l : Int) - 1) = (x1 : Int) := fun _ => by rw [IntWalk.i64_in _ (by omega)]; omega
                              have HX1 := Lib.hid hx1
                              clear hx1
                              obtain ⟨C, hC⟩ : ∃ C : Bool, (decide (k ≤ l) && (fun x => !Sort.ltInt x ys[a]!) ys[l]!) = C := ⟨_, rfl⟩
                              have HC := Lib.hid hC
                              have HE := Lib.hid ((scanDown_c HC.out).symm.trans HE.out)
                              go_upto_region 15 with (fail)
                              go_cut [129] from 115 to 131 (fun s wx => s = .bool C ∧ SoA w0 g off n c ys wx)
                              case first =>
                                by_cases hle : k ≤ l
                                · have hd2 : decide ((k : Int) ≤ (l : Int)) = true := decide_eq_true (by omega)
                                  have u0 := HI.out.word (i := a) (by omega)
                                  have u1 := HI.out.word (i := l) (by omega)
                                  obtain ⟨ya, hya⟩ : ∃ z, ys[a]! = z := ⟨_, rfl⟩
                                  obtain ⟨yx, hyx⟩ : ∃ z, ys[l]! = z := ⟨_, rfl⟩
                                  rw [hya] at u0 hC
                                  rw [hyx] at u1 hC
                                  have i0 : (a : Int) < (n : Int) := by omega
                                  have i1 : (l : Int) < (n : Int) := by omega
                                  have z0 : (0 : Int) ≤ (a : Int) := by omega
                                  have z1 : (0 : Int) ≤ (l : Int) := by omega
                                  by_cases hsw : yx < ya
                                  · have hds : decide (yx < ya) = true := decide_eq_true hsw
                                    have HCt : Hid (C = false) := by show _ = _; rw [← hC, decide_eq_true hle]; simp [Sort.ltInt]; omega
                                    clear hya hyx hC
                                    refine wp_region_quiet_lit (by kernel_rfl) (by kernel_rfl) ?_
                                    repeat (go_big_quiet_step ((go_at_call 126; exact q_same (lessU _ _ _))))
                                    refine wpQuiet_nil ?_
                                    rintro _ ⟨nr, rfl⟩
                                    go_wp2
                                    go_meet
                                    case rel => exact ⟨by rw [HCt.out], HI.out.drewN nr⟩
                                  · have hds : decide (yx < ya) = false := decide_eq_false hsw
                                    have HCt : Hid (C = true) := by show _ = _; rw [← hC, decide_eq_true hle]; simp [Sort.ltInt]; omega
                                    clear hya hyx hC
                                    refine wp_region_quiet_lit (by kernel_rfl) (by kernel_rfl) ?_
                                    repeat (go_big_quiet_step ((go_at_call 126; exact q_same (lessU _ _ _))))
                                    refine wpQuiet_nil ?_
                                    rintro _ ⟨nr, rfl⟩
                                    go_wp2
                                    go_meet
                                    case rel => exact ⟨by rw [HCt.out], HI.out.drewN nr⟩
                                · have hd2 : decide ((k : Int) ≤ (l : Int)) = false := decide_eq_false (by omega)
                                  have HCt : Hid (C = false) := by show _ = _; rw [← hC, decide_eq_false hle]; rfl
                                  clear hC
                                  refine wp_region_quiet_lit (by kernel_rfl) (by kernel_rfl) ?_
                                  repeat (go_big_quiet_step (fail))
                                  refine wpQuiet_nil ?_
                                  rintro _ ⟨nr, rfl⟩
                                  go_wp2
                                  go_meet
                                  case rel => exact ⟨by rw [HCt.out], HI.out.drewN nr⟩
                              case rest =>
                                clear HI
                                obtain ⟨rfl, hI⟩ := hcut
                                have HI := Lib.hid hI
                                have hgl := hI.lt
                                have fz := hI.1.unfrozen
                                clear hI
                                cases C with
                                | true =>
                                  have hle : k ≤ l := by have h := HC.out; simp at h; exact h.1
                                  have e11 := e10 hle
                                  have HEt := Lib.hid HE.out
                                  clear hC
                                  go_wp2
                                  go_roundw
                                  case rel => exact ⟨x1, by have := HX1.out; omega, by have := HX1.out; omega, by have := HX1.out; omega, rfl, HI.out, by have h := HE.out; rw [if_pos rfl, HX1.out] at h; exact h⟩
                                  case measure => have := HX1.out; simp [intOf] <;> omega
                                | false =>
                                  have HE := Lib.hid (show l = J2 from by have h := HE.out; rw [if_neg (by decide)] at h; exact h)
                                  clear hC e10
                                  have HH1 := HI2.out
                                  rw [← HU.out] at HH1
                                  have HH2 := HJ2.out
                                  rw [← HE.out] at HH2
                                  have HA := Lib.hid HH1
                                  have HB := Lib.hid HH2
                                  have hlle := HL0.out
                                  have hkge := HK0.out
                                  clear HH1 HH2
                                  by_cases hgt : k > l
                                  · have hgt' : (l : Int) < (k : Int) := by omega
                                    have HF := Lib.hid ((congrArg (partFin a) (part_end (lt := Sort.ltInt) HA.out HB.out hgt)).symm.trans HSO.out)
                                    have u0 := HI.out.word (i := l) (by omega)
                                    have u1 := HI.out.word (i := a) (by omega)
                                    obtain ⟨y0, hy0⟩ : ∃ z, ys[l]! = z := ⟨_, rfl⟩
                                    obtain ⟨y1, hy1⟩ : ∃ z, ys[a]! = z := ⟨_, rfl⟩
                                    have HSW : Hid (∀ m, SoA w0 g off n c (Sort.swp ys l a) (((wc.drewN m).setCell ⟨g, off + l, none⟩ (.int .u64 y1)).setCell ⟨g, off + a, none⟩ (.int .u64 y0))) := by
                                      intro m
                                      have h2 := (HI.out.drewN m).swap (i := l) (j := a) (by omega) (by omega)
                                      rwa [hy0, hy1] at h2
                                    rw [hy0] at u0
                                    rw [hy1] at u1
                                    have i0 : (l : Int) < (n : Int) := by omega
                                    have i1 : (a : Int) < (n : Int) := by omega
                                    have z0 : (0 : Int) ≤ (l : Int) := by omega
                                    have z1 : (0 : Int) ≤ (a : Int) := by omega
                                    have HEQ : Hid (l = a → y0 = y1) := fun he => by rw [← hy0, ← hy1, he]
                                    clear hy0 hy1
                                    by_cases hpe : l = a
                                    · obtain rfl : y0 = y1 := HEQ.out hpe
                                      clear u1
                                      subst hpe
                                      go_upto_region 21 with (fail)
                                      refine ord_reads [] [.p [0, 1, 2, 3, 4, 5, 6, 8, 9, 10], .q [7, 11, 12], .h [13, 14, 15]] (by kernel_rfl) (fun _ _ d _ _ h => by cases d <;> exact h) (by kernel_rfl) ?_
                                      (dsimp only [pick, List.filterMap, List.getElem?_cons_zero, List.getElem?_cons_succ]; refine wpQuiet_nil ?_; rintro _ ⟨nq1, rfl⟩; with_reducible refine part_pure ?_; dsimp only [pick, List.filterMap, List.getElem?_cons_zero, List.getElem?_cons_succ]; (repeat (first | (refine pure_ex rfl ?_; apply Exists.intro; apply And.intro; (intro w; go_simp; rfl); simp only [Act.put, List.setIfInBounds_toArray, List.set_cons_succ, List.set_cons_zero]) | (refine pure_skip rfl ?_; simp only [Act.put, List.setIfInBounds_toArray, List.set_cons_succ, List.set_cons_zero]))); refine pure_nil ?_; with_reducible refine part_reads ?_; dsimp only [pick, List.filterMap, List.getElem?_cons_zero, List.getElem?_cons_succ]; (repeat (go_big_quiet_step (fail))); refine wpQuiet_nil ?_; rintro _ ⟨nq2, rfl⟩; with_reducible refine part_hard ?_; dsimp only [pick, List.filterMap, List.getElem?_cons_zero, List.getElem?_cons_succ]; go_wp2; with_reducible refine segs_end ?_; with_reducible refine part_nil ?_; go_wp2)
                                      refine bodyPost_ret (v := .tuple #[.int .i64 (l : Int), .bool false]) (by simp [results, Try.results128, go_sem]) rfl ?_
                                      rw [← HF.out]
                                      exact ⟨rfl, HSW.out _⟩
                                    · have hpe' : ¬ a = l := by omega
                                      go_upto_region 21 with (fail)
                                      refine ord_reads [] [.p [0, 1, 2, 3, 4, 5, 6, 8, 9, 10], .q [7, 11, 12], .h [13, 14, 15]] (by kernel_rfl) (fun _ _ d _ _ h => by cases d <;> exact h) (by kernel_rfl) ?_
                                      (dsimp only [pick, List.filterMap, List.getElem?_cons_zero, List.getElem?_cons_succ]; refine wpQuiet_nil ?_; rintro _ ⟨nq1, rfl⟩; with_reducible refine part_pure ?_; dsimp only [pick, List.filterMap, List.getElem?_cons_zero, List.getElem?_cons_succ]; (repeat (first | (refine pure_ex rfl ?_; apply Exists.intro; apply And.intro; (intro w; go_simp; rfl); simp only [Act.put, List.setIfInBounds_toArray, List.set_cons_succ, List.set_cons_zero]) | (refine pure_skip rfl ?_; simp only [Act.put, List.setIfInBounds_toArray, List.set_cons_succ, List.set_cons_zero]))); refine pure_nil ?_; with_reducible refine part_reads ?_; dsimp only [pick, List.filterMap, List.getElem?_cons_zero, List.getElem?_cons_succ]; (repeat (go_big_quiet_step (fail))); refine wpQuiet_nil ?_; rintro _ ⟨nq2, rfl⟩; with_reducible refine part_hard ?_; dsimp only [pick, List.filterMap, List.getElem?_cons_zero, List.getElem?_cons_succ]; go_wp2; with_reducible refine segs_end ?_; with_reducible refine part_nil ?_; go_wp2)
                                      refine bodyPost_ret (v := .tuple #[.int .i64 (l : Int), .bool false]) (by simp [results, Try.results128, go_sem]) rfl ?_
                                      rw [← HF.out]
                                      exact ⟨rfl, HSW.out _⟩
                                  · have hgt' : ¬ (l : Int) < (k : Int) := by omega
                                    have hgt2 : (k : Int) ≤ (l : Int) := by omega
                                    have HF := Lib.hid ((congrArg (partFin a) (part_go (lt := Sort.ltInt) HA.out HB.out hgt (by omega) (by omega))).symm.trans HSO.out)
                                    obtain ⟨kk, hkk1⟩ : ∃ z, k + 1 = z := ⟨_, rfl⟩
                                    obtain ⟨l2, hl2x⟩ : ∃ z, l - 1 = z := ⟨_, rfl⟩
                                    have e20 : IntKind.i64.wrap ((k : Int) + 1) = (kk : Int) := by rw [IntWalk.i64_in _ (by omega)]; omega
                                    have e21 : IntKind.i64.wrap ((l : Int) - 1) = (l2 : Int) := by rw [IntWalk.i64_in _ (by omega)]; omega
                                    rw [hkk1, hl2x] at HF
                                    have b1 : kk ≤ k + 1 := by omega
                                    have b2 : k + 1 ≤ kk := by omega
                                    have b3 : l ≤ l2 + 1 := by omega
                                    have b4 : l2 + 1 ≤ l := by omega
                                    clear hkk1 hl2x
                                    have u0 := HI.out.word (i := k) (by omega)
                                    have u1 := HI.out.word (i := l) (by omega)
                                    obtain ⟨y0, hy0⟩ : ∃ z, ys[k]! = z := ⟨_, rfl⟩
                                    obtain ⟨y1, hy1⟩ : ∃ z, ys[l]! = z := ⟨_, rfl⟩
                                    have HSW : Hid (∀ m, SoA w0 g off n c (Sort.swp ys k l) (((wc.drewN m).setCell ⟨g, off + k, none⟩ (.int .u64 y1)).setCell ⟨g, off + l, none⟩ (.int .u64 y0))) := by
                                      intro m
                                      have h2 := (HI.out.drewN m).swap (i := k) (j := l) (by omega) (by omega)
                                      rwa [hy0, hy1] at h2
                                    rw [hy0] at u0
                                    rw [hy1] at u1
                                    have i0 : (k : Int) < (n : Int) := by omega
                                    have i1 : (l : Int) < (n : Int) := by omega
                                    have z0 : (0 : Int) ≤ (k : Int) := by omega
                                    have z1 : (0 : Int) ≤ (l : Int) := by omega
                                    have HEQ : Hid (k = l → y0 = y1) := fun he => by rw [← hy0, ← hy1, he]
                                    clear hy0 hy1
                                    by_cases hpe : k = l
                                    · obtain rfl : y0 = y1 := HEQ.out hpe
                                      clear u1
                                      subst hpe
                                      go_upto_region 18 with (fail)
                                      refine ord_reads [] [.p [0, 1, 2, 3, 4, 5, 6, 8, 9, 10], .q [7, 11, 12], .h [13, 14, 15]] (by kernel_rfl) (fun _ _ d _ _ h => by cases d <;> exact h) (by kernel_rfl) ?_
                                      (dsimp only [pick, List.filterMap, List.getElem?_cons_zero, List.getElem?_cons_succ]; refine wpQuiet_nil ?_; rintro _ ⟨nq1, rfl⟩; with_reducible refine part_pure ?_; dsimp only [pick, List.filterMap, List.getElem?_cons_zero, List.getElem?_cons_succ]; (repeat (first | (refine pure_ex rfl ?_; apply Exists.intro; apply And.intro; (intro w; go_simp; rfl); simp only [Act.put, List.setIfInBounds_toArray, List.set_cons_succ, List.set_cons_zero]) | (refine pure_skip rfl ?_; simp only [Act.put, List.setIfInBounds_toArray, List.set_cons_succ, List.set_cons_zero]))); refine pure_nil ?_; with_reducible refine part_reads ?_; dsimp only [pick, List.filterMap, List.getElem?_cons_zero, List.getElem?_cons_succ]; (repeat (go_big_quiet_step (fail))); refine wpQuiet_nil ?_; rintro _ ⟨nq2, rfl⟩; with_reducible refine part_hard ?_; dsimp only [pick, List.filterMap, List.getElem?_cons_zero, List.getElem?_cons_succ]; go_wp2; with_reducible refine segs_end ?_; with_reducible refine part_nil ?_; go_wp2)
                                      go_roundw
                                      case rel => exact ⟨kk, l2, _, by omega, by omega, by omega, by omega, by omega, rfl, rfl, HSW.out _, HF.out⟩
                                      case measure => simp [intOf] <;> omega
                                    · have hpe' : ¬ l = k := by omega
                                      go_upto_region 18 with (fail)
                                      refine ord_reads [] [.p [0, 1, 2, 3, 4, 5, 6, 8, 9, 10], .q [7, 11, 12], .h [13, 14, 15]] (by kernel_rfl) (fun _ _ d _ _ h => by cases d <;> exact h) (by kernel_rfl) ?_
                                      (dsimp only [pick, List.filterMap, List.getElem?_cons_zero, List.getElem?_cons_succ]; refine wpQuiet_nil ?_; rintro _ ⟨nq1, rfl⟩; with_reducible refine part_pure ?_; dsimp only [pick, List.filterMap, List.getElem?_cons_zero, List.getElem?_cons_succ]; (repeat (first | (refine pure_ex rfl ?_; apply Exists.intro; apply And.intro; (intro w; go_simp; rfl); simp only [Act.put, List.setIfInBounds_toArray, List.set_cons_succ, List.set_cons_zero]) | (refine pure_skip rfl ?_; simp only [Act.put, List.setIfInBounds_toArray, List.set_cons_succ, List.set_cons_zero]))); refine pure_nil ?_; with_reducible refine part_reads ?_; dsimp only [pick, List.filterMap, List.getElem?_cons_zero, List.getElem?_cons_succ]; (repeat (go_big_quiet_step (fail))); refine wpQuiet_nil ?_; rintro _ ⟨nq2, rfl⟩; with_reducible refine part_hard ?_; dsimp only [pick, List.filterMap, List.getElem?_cons_zero, List.getElem?_cons_succ]; go_wp2; with_reducible refine segs_end ?_; with_reducible refine part_nil ?_; go_wp2)
                                      go_roundw
                                      case rel => exact ⟨kk, l2, _, by omega, by omega, by omega, by omega, by omega, rfl, rfl, HSW.out _, HF.out⟩
                                      case measure => simp [intOf] <;> omega
end Go.Proofs.Ytngkhligjkcbmaa

namespace Go.Proofs.Ytngkhligjkcbmaa
open Go.RowKit
set_option linter.unusedVariables false
set_option linter.unusedSimpArgs false

/-- The parts of a round. -/
def pq4 (d3 : Array Int) (pivot a b limit : Nat) (wb wp : Bool) : Array Int :=
  if a > 0 && !Sort.ltInt d3[a - 1]! d3[pivot]! then
    match Sort.partitionEqual Sort.ltInt d3 a b pivot with
    | (mid, d4) => if _h : a < mid ∧ mid ≤ b then Sort.pdq Sort.ltInt d4 mid b limit wb wp else d4
  else
    match Sort.partition Sort.ltInt d3 a b pivot with
    | (mid, alreadyPartitioned, d4) =>
      if _h : a ≤ mid ∧ mid < b then
        if mid - a < b - mid then
          Sort.pdq Sort.ltInt (Sort.pdq Sort.ltInt d4 a mid limit true true) (mid + 1) b limit (decide (mid - a ≥ (b - a) / 8)) alreadyPartitioned
        else
          Sort.pdq Sort.ltInt (Sort.pdq Sort.ltInt d4 (mid + 1) b limit true true) a mid limit (decide (b - mid ≥ (b - a) / 8)) alreadyPartitioned
      else d4
def pq3 (d2 : Array Int) (pivot : Nat) (hint : Sort.Hint) (a b limit : Nat) (wb wp : Bool) : Array Int :=
  let pi := if wb && wp && hint = .increasing then Sort.partialInsertionSort Sort.ltInt d2 a b else (d2, false)
  if pi.2 then pi.1 else pq4 pi.1 pivot a b limit wb wp
def pq2 (d1 : Array Int) (a b limit : Nat) (wb wp : Bool) : Array Int :=
  let c := Sort.choosePivot Sort.ltInt d1 a b
  pq3 (if c.2 = .decreasing then Sort.reverseRange d1 a b else d1) (if c.2 = .decreasing then (b - 1) - (c.1 - a) else c.1) (if c.2 = .decreasing then Sort.Hint.increasing else c.2) a b limit wb wp
section
variable {d : Array Int} {a b limit pivot mid : Nat} {wb wp al : Bool}
theorem pdq_small (h : b - a ≤ 12) : Sort.pdq Sort.ltInt d a b limit wb wp = Sort.insertionSort Sort.ltInt d a b := by
  rw [Sort.pdq, if_pos h]
theorem pdq_heap (h : ¬ b - a ≤ 12) (h0 : limit = 0) : Sort.pdq Sort.ltInt d a b limit wb wp = Sort.heapSort Sort.ltInt d a b := by
  rw [Sort.pdq, if_neg h, if_pos h0]
theorem pdq_unf (h : ¬ b - a ≤ 12) (h0 : ¬ limit = 0) : Sort.pdq Sort.ltInt d a b limit wb wp = pq2 (if (!wb) = true then Sort.breakPatterns d a b else d) a b (if (!wb) = true then limit - 1 else limit) wb wp := by
  rw [Sort.pdq, if_neg h, if_neg h0]
  rfl
theorem swoInt : Sort.SWO Sort.ltInt := ⟨fun x => by simp [Sort.ltInt], fun x y z => by simp only [Sort.ltInt, decide_eq_true_eq]; omega, fun x y z => by simp only [Sort.ltInt, decide_eq_false_iff_not]; omega⟩
theorem pq4_eq (h : (a > 0 && !Sort.ltInt d[a - 1]! d[pivot]!) = true) (hp1 : a ≤ pivot) (hp2 : pivot < b) (hb : b ≤ d.size) :
    (a < (Sort.partitionEqual Sort.ltInt d a b pivot).1 ∧ (Sort.partitionEqual Sort.ltInt d a b pivot).1 ≤ b) ∧ pq4 d pivot a b limit wb wp = Sort.pdq Sort.ltInt (Sort.partitionEqual Sort.ltInt d a b pivot).2 (Sort.partitionEqual Sort.ltInt d a b pivot).1 b limit wb wp := by
  have hr : a < (Sort.partitionEqual Sort.ltInt d a b pivot).1 ∧ (Sort.partitionEqual Sort.ltInt d a b pivot).1 ≤ b := by
    unfold Sort.partitionEqual
    have hb0 : b ≤ (Sort.swp d a pivot).size := by rw [size_swp]; exact hb
    obtain ⟨r1, r2, _⟩ := Sort.partEqLoop_spec Sort.ltInt a b _ (a + 1) (b - 1) (Sort.swp d a pivot) (Nat.le_refl _) (Nat.lt_succ_self a) (by omega) (by omega) hb0 (fun t h1 h2 => by omega) (fun t h1 h2 => by omega)
    exact ⟨r1, r2⟩
  refine ⟨hr, ?_⟩
  unfold pq4
  rw [if_pos h]
  obtain ⟨⟨mid, d4⟩, hm⟩ : ∃ r, Sort.partitionEqual Sort.ltInt d a b pivot = r := ⟨_, rfl⟩
  rw [hm] at hr ⊢
  simp only
  rw [dif_pos hr]
theorem pq4_part (h : (a > 0 && !Sort.ltInt d[a - 1]! d[pivot]!) = false) (hp1 : a ≤ pivot) (hp2 : pivot < b) (hb : b ≤ d.size) {d4 : Array Int} (hm : Sort.partition Sort.ltInt d a b pivot = (mid, al, d4)) :
    (a ≤ mid ∧ mid < b) ∧ pq4 d pivot a b limit wb wp = if mid - a < b - mid then
          Sort.pdq Sort.ltInt (Sort.pdq Sort.ltInt d4 a mid limit true true) (mid + 1) b limit (decide (mid - a ≥ (b - a) / 8)) al
        else
          Sort.pdq Sort.ltInt (Sort.pdq Sort.ltInt d4 (mid + 1) b limit true true) a mid limit (decide (b - mid ≥ (b - a) / 8)) al := by
  have hr := Sort.partition_holds Sort.ltInt swoInt d a b pivot hp1 hp2 hb
  rw [hm] at hr
  have hr2 : a ≤ mid ∧ mid < b := ⟨hr.1, hr.2.1⟩
  refine ⟨hr2, ?_⟩
  unfold pq4
  rw [if_neg (by rw [h]; decide), hm]
  simp only
  rw [dif_pos hr2]
end

set_option maxRecDepth 100000 in
set_option maxHeartbeats 4000000 in
theorem insU_e (w0 w : World) (g off n c a b : Nat) (d0 : Array Int) (hab : b ≤ a + 1) (hbn : b ≤ n) (hm : n ≤ 1000000) (hS : SoA w0 g off n c d0 w) (ha : a ≤ n := by omega) :
    Calls Try.prog 120 #[.slice (some ⟨g, off, none⟩) n c, .int .i64 (a : Int), .int .i64 (b : Int)] w (SoP w0 g off n c (Sort.insertionSort Sort.ltInt d0 a b)) := by
  have HI0 := Lib.hid hS
  have hD : Sort.insertionSort Sort.ltInt d0 a b = d0 := by rw [Sort.insertionSort, insOuter_end (by omega)]
  rw [hD]
  have ea : IntKind.i64.wrap ((a : Int) + 1) = (a : Int) + 1 := by rw [IntWalk.i64_in _ (by omega)]
  have eb : ¬ (a : Int) + 1 < (b : Int) := by omega
  clear hS hD
  go_enter Try.func120, Try.ntmps120
  go_wp2
  refine wp_loop_rounds 1 ?_
  rw [rounds_succ]
  go_wp2
  go_end0
  exact ⟨rfl, HI0.out⟩

set_option maxRecDepth 100000 in
set_option maxHeartbeats 16000000 in
theorem pdqU_x (g off n c : Nat) (hm : n ≤ 1000000) : ∀ (m : Nat) (w0 w : World) (a b lim : Nat) (d0 : Array Int), b - a < m → b - a < 50 → a ≤ b → b ≤ n → lim ≤ 1000 → SoA w0 g off n c d0 w →
    Calls Try.prog 108 #[.slice (some ⟨g, off, none⟩) n c, .int .i64 (a : Int), .int .i64 (b : Int), .int .i64 (lim : Int)] w (SoP w0 g off n c (Sort.pdq Sort.ltInt d0 a b lim true true)) := by
  intro m
  induction m with
  | zero =>
    intro w0 w a b lim d0 hbm hb50 hab hbn hlim hS
    omega
  | succ m ih =>
    intro w0 w a b lim d0 hbm hb50 hab hbn hlim hS
    have HI0 := Lib.hid hS
    have IH := Lib.hid ih
    obtain ⟨D, hD⟩ : ∃ D, Sort.pdq Sort.ltInt d0 a b lim true true = D := ⟨_, rfl⟩
    rw [hD]
    have HD := Lib.hid hD
    clear hS hD ih
    go_enter Try.func108, Try.ntmps108
    go_wp2
    go_loopw [1, 2, 3, 8, 9, 10, 11, 12, 13, 14, 15, 16, 17, 18, 19, 20, 21, 22, 23, 24, 25, 26, 27, 28, 29, 30, 31, 32, 33, 34, 35, 36, 37, 38, 39, 40, 41, 42, 43, 44, 45, 46, 47, 48, 49, 50, 51, 52, 53, 54, 55, 56, 57, 58, 59, 60, 61, 62, 63, 64, 65, 66, 67, 68, 69, 70, 71, 72, 73, 74, 75, 76, 77, 78, 79, 80, 81, 82, 83, 84, 85, 86, 87, 88, 89, 90, 91, 92, 93, 94, 95, 96, 97, 98, 99, 100, 101, 102, 103, 104, 105, 106, 107, 108, 109, 110, 111, 112, 113, 114, 115, 116, 117, 118, 119, 120, 121, 122, 123, 124, 125, 126, 127, 128, 129, 130, 131, 132, 133] (fun sa sb sl sx sy _ _ _ _ _ _ _ _ _ _ _ _ _ _ _ _ _ _ _ _ _ _ _ _ _ _ _ _ _ _ _ _ _ _ _ _ _ _ _ _ _ _ _ _ _ _ _ _ _ _ _ _ _ _ _ _ _ _ _ _ _ _ _ _ _ _ _ _ _ _ _ _ _ _ _ _ _ _ _ _ _ _ _ _ _ _ _ _ _ _ _ _ _ _ _ _ _ _ _ _ _ _ _ _ _ _ _ _ _ _ _ _ _ _ _ _ _ _ _ _ _ _ _ _ wr => ∃ (a b lim : Nat) (wb wp : Bool) (ys : Array Int), a ≤ b ∧ b ≤ n ∧ b - a < m + 1 ∧ b - a < 50 ∧ lim ≤ 1000 ∧ sa = .int .i64 (a : Int) ∧ sb = .int .i64 (b : Int) ∧ sl = .int .i64 (lim : Int) ∧ sx = .bool wb ∧ sy = .bool wp ∧ SoA w0 g off n c ys wr ∧ Sort.pdq Sort.ltInt ys a b lim wb wp = D) (fun sa sb sl sx sy _ _ _ _ _ _ _ _ _ _ _ _ _ _ _ _ _ _ _ _ _ _ _ _ _ _ _ _ _ _ _ _ _ _ _ _ _ _ _ _ _ _ _ _ _ _ _ _ _ _ _ _ _ _ _ _ _ _ _ _ _ _ _ _ _ _ _ _ _ _ _ _ _ _ _ _ _ _ _ _ _ _ _ _ _ _ _ _ _ _ _ _ _ _ _ _ _ _ _ _ _ _ _ _ _ _ _ _ _ _ _ _ _ _ _ _ _ _ _ _ _ _ _ _ _ => (intOf sb - intOf sa).toNat)
    case atStart => exact ⟨a, b, lim, true, true, d0, hab, hbn, hbm, hb50, hlim, rfl, rfl, rfl, rfl, rfl, HI0.out, HD.out⟩
    case round =>
      clear HI0 HD
      obtain ⟨a, b, lim, wb, wp, ys, hab, hbn, hbm, hb50, hlim, rfl, rfl, rfl, rfl, rfl, hI, hSo⟩ := hrel
      have HI := Lib.hid hI
      have HSO := Lib.hid hSo
      clear hI hSo
      obtain ⟨L, hL⟩ : ∃ z, b - a = z := ⟨_, rfl⟩
      have e1 : IntKind.i64.wrap ((b : Int) - (a : Int)) = (L : Int) := by rw [IntWalk.i64_in _ (by omega)]; omega
      have HL := Lib.hid hL
      by_cases h12 : L ≤ 12
      · have h12' : (L : Int) ≤ 12 := by omega
        have HF := Lib.hid ((pdq_small (by omega)).symm.trans HSO.out)
        by_cases hab' : a < b
        · have HC := Lib.hid (insU_x w0 wr g off n c a b ys hab' hbn hm HI.out)
          clear hL
          go_wp2_with (go_at_call 120; refine HC.out.mono ?_; rintro e w' ⟨rfl, hN⟩)
          exact bodyPost_ret (v := .tuple #[]) (by simp [results, Try.results108, go_sem]) rfl ⟨rfl, by rw [← HF.out]; exact hN⟩
        · have HC := Lib.hid (insU_e w0 wr g off n c a b ys (by omega) hbn hm HI.out)
          clear hL
          go_wp2_with (go_at_call 120; refine HC.out.mono ?_; rintro e w' ⟨rfl, hN⟩)
          exact bodyPost_ret (v := .tuple #[]) (by simp [results, Try.results108, go_sem]) rfl ⟨rfl, by rw [← HF.out]; exact hN⟩
      · have h12' : ¬ (L : Int) ≤ 12 := by omega
        by_cases hl0 : lim = 0
        · have hl0' : (lim : Int) = 0 := by omega
          have HF := Lib.hid ((pdq_heap (by omega) hl0).symm.trans HSO.out)
          have HC := Lib.hid (heapU w0 wr g off n c a b ys (by omega) hbn hm HI.out)
          clear hL
          go_wp2_with (go_at_call 121; refine HC.out.mono ?_; rintro e w' ⟨rfl, hN⟩)
          exact bodyPost_ret (v := .tuple #[]) (by simp [results, Try.results108, go_sem]) rfl ⟨rfl, by rw [← HF.out]; exact hN⟩
        · have hl0' : ¬ (lim : Int) = 0 := by omega
          have HF := Lib.hid ((pdq_unf (by omega) hl0).symm.trans HSO.out)
          have hL13 : 13 ≤ L := by omega
          obtain ⟨lim2, hlim2⟩ : ∃ z, (if (!wb) = true then lim - 1 else lim) = z := ⟨_, rfl⟩
          obtain ⟨d1, hd1⟩ : ∃ z, (if (!wb) = true then Sort.breakPatterns ys a b else ys) = z := ⟨_, rfl⟩
          have hlim3 : lim2 ≤ 1000 := by rw [← hlim2]; split <;> omega
          rw [hlim2, hd1] at HF
          have HL2 := Lib.hid hlim2
          have HD1 := Lib.hid hd1
          clear hlim2 hd1 HSO
          go_upto_if 35 with (fail)
          go_cut [3] from 19 to 133 (fun sl wx => sl = .int .i64 (lim2 : Int) ∧ SoA w0 g off n c d1 wx)
          case first =>
            cases wb with
            | true =>
              go_wp2
              go_meet
              case rel => exact ⟨by rw [← HL2.out]; rfl, by rw [← HD1.out]; exact HI.out⟩
            | false =>
              have HC := Lib.hid (breakU w0 wr g off n c a b ys (by omega) (by omega) hbn hm HI.out)
              have e2 : IntKind.i64.wrap ((lim : Int) - 1) = (lim2 : Int) := by have h := HL2.out; rw [if_pos (by decide)] at h; rw [IntWalk.i64_in _ (by omega)]; omega
              go_wp2_with (go_at_call 122; refine HC.out.mono ?_; rintro e w' ⟨rfl, hN⟩; have HN := Lib.hid hN; clear hN)
              go_meet
              case rel => exact ⟨rfl, by rw [← HD1.out]; exact HN.out⟩
          case rest =>
            obtain ⟨rfl, hI⟩ := hcut
            clear HI HL2 HD1
            have HI := Lib.hid hI
            clear hI hL
            have hPV := Sort.choosePivot_holds Sort.ltInt d1 a b (by have := HL.out; omega)
            have HC := Lib.hid (pivotU (w0 := w0) (w := wc) (g := g) (off := off) (n := n) (c := c) (d := d1) a b (by have := HL.out; omega) hbn hm HI.out)
            rw [pq2] at HF
            obtain ⟨⟨pv, hi⟩, hr⟩ : ∃ z, Sort.choosePivot Sort.ltInt d1 a b = z := ⟨_, rfl⟩
            rw [hr] at HF hPV HC
            simp only at HF hPV
            clear hr
            go_upto_if 50 with (go_at_call 123; refine HC.out.mono ?_; rintro e w' ⟨rfl, hN⟩; have HN := Lib.hid hN; clear hN)
            obtain ⟨d2, hd2⟩ : ∃ z, (if hi = Sort.Hint.decreasing then Sort.reverseRange d1 a b else d1) = z := ⟨_, rfl⟩
            obtain ⟨pv2, hpv2⟩ : ∃ z, (if hi = Sort.Hint.decreasing then (b - 1) - (pv - a) else pv) = z := ⟨_, rfl⟩
            obtain ⟨hi2, hhi2⟩ : ∃ z, (if hi = Sort.Hint.decreasing then Sort.Hint.increasing else hi) = z := ⟨_, rfl⟩
            have hpr : a ≤ pv2 ∧ pv2 < b := by rw [← hpv2]; have := HL.out; split <;> omega
            rw [hd2, hpv2, hhi2] at HF
            have HD2 := Lib.hid hd2
            have HP2 := Lib.hid hpv2
            have HH2 := Lib.hid hhi2
            clear hd2 hpv2 hhi2
            go_cut [11, 12] from 19 to 133 (fun sp sh wx => sp = .int .i64 (pv2 : Int) ∧ sh = .int .i64 (hintI hi2) ∧ SoA w0 g off n c d2 wx)
            case first =>
              cases hi with
              | unknown =>
                go_wp2
                go_meet
                case rel => exact ⟨by rw [← HP2.out, if_neg (by decide)], by rw [← HH2.out, if_neg (by decide)], by rw [← HD2.out, if_neg (by decide)]; exact HN.out⟩
              | increasing =>
                go_wp2
                go_meet
                case rel => exact ⟨by rw [← HP2.out, if_neg (by decide)], by rw [← HH2.out, if_neg (by decide)], by rw [← HD2.out, if_neg (by decide)]; exact HN.out⟩
              | decreasing =>
                have HR := Lib.hid (revU w0 w' g off n c a b d1 (by have := HL.out; omega) hbn hm HN.out)
                have e3 : IntKind.i64.wrap ((b : Int) - 1) = (b : Int) - 1 := by rw [IntWalk.i64_in _ (by omega)]
                have e4 : IntKind.i64.wrap ((pv : Int) - (a : Int)) = (pv : Int) - (a : Int) := by rw [IntWalk.i64_in _ (by omega)]
                have e5 : IntKind.i64.wrap ((b : Int) - 1 - ((pv : Int) - (a : Int))) = (pv2 : Int) := by
                  rw [IntWalk.i64_in _ (by omega), ← HP2.out, if_pos rfl]; omega
                go_wp2_with (go_at_call 124; refine HR.out.mono ?_; rintro e w2 ⟨rfl, hN⟩; have HN2 := Lib.hid hN; clear hN)
                go_meet
                case rel => exact ⟨rfl, by rw [← HH2.out]; rfl, by rw [← HD2.out]; exact HN2.out⟩
            case rest =>
              obtain ⟨rfl, rfl, hI⟩ := hcut
              clear HI HN HD2 HP2 HH2 HC
              have HI := Lib.hid hI
              clear hI
              obtain ⟨B, hB⟩ : ∃ B : Bool, (wb && wp && decide (hi2 = Sort.Hint.increasing)) = B := ⟨_, rfl⟩
              have HB := Lib.hid hB
              rw [pq3] at HF
              rw [show (if (wb && wp && decide (hi2 = Sort.Hint.increasing)) = true then Sort.partialInsertionSort Sort.ltInt d2 a b else (d2, false)) = if B = true then Sort.partialInsertionSort Sort.ltInt d2 a b else (d2, false) from by rw [hB]] at HF
              clear hB
              go_upto_region 15 with (fail)
              go_cut [68] from 19 to 133 (fun s wx => s = .bool B ∧ SoA w0 g off n c d2 wx)
              case first =>
                have hb := HB.out
                cases wb with
                | false =>
                  have HBF : Hid (B = false) := hb.symm
                  clear hb
                  go_wp2
                  go_meet
                  case rel => exact ⟨by rw [HBF.out], HI.out⟩
                | true =>
                  cases wp with
                  | false =>
                    have HBF : Hid (B = false) := hb.symm
                    clear hb
                    go_wp2
                    go_meet
                    case rel => exact ⟨by rw [HBF.out], HI.out⟩
                  | true =>
                    cases hi2 with
                    | unknown =>
                      have hq : hintI Sort.Hint.unknown = 0 := rfl
                      have HBF : Hid (B = false) := hb.symm
                      clear hb
                      go_wp2
                      go_meet
                      case rel => exact ⟨by rw [HBF.out], HI.out⟩
                    | increasing =>
                      have hq : hintI Sort.Hint.increasing = 1 := rfl
                      have HBF : Hid (B = true) := hb.symm
                      clear hb
                      go_wp2
                      go_meet
                      case rel => exact ⟨by rw [HBF.out], HI.out⟩
                    | decreasing =>
                      have hq : hintI Sort.Hint.decreasing = 2 := rfl
                      have HBF : Hid (B = false) := hb.symm
                      clear hb
                      go_wp2
                      go_meet
                      case rel => exact ⟨by rw [HBF.out], HI.out⟩
              case rest =>
                obtain ⟨rfl, hI⟩ := hcut
                clear HI
                have HI := Lib.hid hI
                clear hI
                have hRR := partIns_short (lt := Sort.ltInt) (d := d2) (a := a) (b := b) (.inl hb50)
                have HC := Lib.hid (partInsU w0 wc g off n c a b d2 (by have := HL.out; omega) hbn hm (.inl hb50) HI.out)
                obtain ⟨R, hR⟩ : ∃ R : Bool, decide (Sort.scanSorted Sort.ltInt d2 b (a + 1) = b) = R := ⟨_, rfl⟩
                rw [hR] at hRR
                rw [hRR] at HC HF
                clear hR hRR
                go_upto_if 68 with (fail)
                go_cut [] from 19 to 133 (fun wx => SoA w0 g off n c d2 wx ∧ pq4 d2 pv2 a b lim2 wb wp = D)
                case first =>
                  cases B with
                  | false =>
                    go_wp2
                    go_meet
                    case rel => exact ⟨HI.out, HF.out⟩
                  | true =>
                    cases R with
                    | false =>
                      go_wp2_with (go_at_call 125; refine HC.out.mono ?_; rintro e w' ⟨rfl, hN⟩; have HN := Lib.hid hN; clear hN)
                      go_meet
                      case rel => exact ⟨HN.out, HF.out⟩
                    | true =>
                      go_wp2_with (go_at_call 125; refine HC.out.mono ?_; rintro e w' ⟨rfl, hN⟩; have HN := Lib.hid hN; clear hN)
                      exact bodyPost_ret (v := .tuple #[]) (by simp [results, Try.results108, go_sem]) rfl ⟨rfl, by have h := HF.out; rw [← h]; exact HN.out⟩
                case rest =>
                  obtain ⟨hI, hF⟩ := hcut
                  clear HI HF HC HB
                  have HI := Lib.hid hI
                  have HF := Lib.hid hF
                  have hsz := hI.2.1
                  have hgl := hI.lt
                  clear hI hF
                  obtain ⟨C, hC⟩ : ∃ C : Bool, (decide (a > 0) && !Sort.ltInt d2[a - 1]! d2[pv2]!) = C := ⟨_, rfl⟩
                  have HC := Lib.hid hC
                  go_upto_region 17 with (fail)
                  go_cut [87] from 19 to 133 (fun s wx => s = .bool C ∧ SoA w0 g off n c d2 wx)
                  case first =>
                    by_cases ha0 : 0 < a
                    · have hd2 : decide ((0 : Int) < (a : Int)) = true := decide_eq_true (by omega)
                      have hd3 : decide ((a : Int) > (0 : Int)) = true := decide_eq_true (by omega)
                      obtain ⟨p, hp⟩ : ∃ z, a - 1 = z := ⟨_, rfl⟩
                      have e3 : IntKind.i64.wrap ((a : Int) - 1) = (p : Int) := by rw [IntWalk.i64_in _ (by omega)]; omega
                      have u0 := HI.out.word (i := p) (by omega)
                      have u1 := HI.out.word (i := pv2) (by omega)
                      obtain ⟨y0, hy0⟩ : ∃ z, d2[p]! = z := ⟨_, rfl⟩
                      obtain ⟨y1, hy1⟩ : ∃ z, d2[pv2]! = z := ⟨_, rfl⟩
                      rw [hp, hy0, hy1] at hC
                      rw [hy0] at u0
                      rw [hy1] at u1
                      have i0 : (p : Int) < (n : Int) := by omega
                      have i1 : (pv2 : Int) < (n : Int) := by omega
                      have z0 : (0 : Int) ≤ (p : Int) := by omega
                      have z1 : (0 : Int) ≤ (pv2 : Int) := by omega
                      by_cases hsw : y0 < y1
                      · have hds : decide (y0 < y1) = true := decide_eq_true hsw
                        have HCt : Hid (C = false) := by show _ = _; rw [← hC, decide_eq_true ha0]; simp [Sort.ltInt]; omega
                        clear hp hy0 hy1 hC
                        refine wp_region_quiet_lit (by kernel_rfl) (by kernel_rfl) ?_
                        repeat (go_big_quiet_step ((go_at_call 126; exact q_same (lessU _ _ _))))
                        refine wpQuiet_nil ?_
                        rintro _ ⟨nr, rfl⟩
                        go_wp2
                        go_meet
                        case rel => exact ⟨by rw [HCt.out], HI.out.drewN nr⟩
                      · have hds : decide (y0 < y1) = false := decide_eq_false hsw
                        have HCt : Hid (C = true) := by show _ = _; rw [← hC, decide_eq_true ha0]; simp [Sort.ltInt]; omega
                        clear hp hy0 hy1 hC
                        refine wp_region_quiet_lit (by kernel_rfl) (by kernel_rfl) ?_
                        repeat (go_big_quiet_step ((go_at_call 126; exact q_same (lessU _ _ _))))
                        refine wpQuiet_nil ?_
                        rintro _ ⟨nr, rfl⟩
                        go_wp2
                        go_meet
                        case rel => exact ⟨by rw [HCt.out], HI.out.drewN nr⟩
                    · have hd2 : decide ((0 : Int) < (a : Int)) = false := decide_eq_false (by omega)
                      have hd3 : decide ((a : Int) > (0 : Int)) = false := decide_eq_false (by omega)
                      have HCt : Hid (C = false) := by show _ = _; rw [← hC, decide_eq_false (by omega)]; rfl
                      clear hC
                      refine wp_region_quiet_lit (by kernel_rfl) (by kernel_rfl) ?_
                      repeat (go_big_quiet_step (fail))
                      refine wpQuiet_nil ?_
                      rintro _ ⟨nr, rfl⟩
                      go_wp2
                      go_meet
                      case rel => exact ⟨by rw [HCt.out], HI.out.drewN nr⟩
                  case rest =>
                    obtain ⟨rfl, hI⟩ := hcut
                    clear HI
                    have HI := Lib.hid hI
                    clear hI hC
                    cases C with
                    | true =>
                      have hq := pq4_eq (d := d2) (limit := lim2) (wb := wb) (wp := wp) HC.out hpr.1 hpr.2 (by omega)
                      have HK := Lib.hid (partEqU w0 wc g off n c a b pv2 d2 (by have := HL.out; omega) hpr.1 hpr.2 hbn hm HI.out)
                      obtain ⟨⟨mid, d4⟩, hr⟩ : ∃ z, Sort.partitionEqual Sort.ltInt d2 a b pv2 = z := ⟨_, rfl⟩
                      rw [hr] at hq HK
                      obtain ⟨hq1, hq2⟩ := hq
                      have HF2 := Lib.hid (hq2.symm.trans HF.out)
                      simp only at hq1
                      clear hr hq2
                      go_wp2_with (go_at_call 127; refine HK.out.mono ?_; rintro e w' ⟨rfl, hN⟩; have HN := Lib.hid hN; clear hN)
                      go_roundw
                      case rel => exact ⟨mid, b, lim2, wb, wp, d4, by omega, by omega, by omega, by omega, hlim3, rfl, rfl, rfl, rfl, rfl, HN.out, HF2.out⟩
                      case measure => simp [intOf] <;> omega
                    | false =>
                      have HK := Lib.hid (partU w0 wc g off n c a b pv2 d2 (by have := HL.out; omega) hpr.1 hpr.2 hbn hm HI.out)
                      obtain ⟨⟨mid, al, d4⟩, hr⟩ : ∃ z, Sort.partition Sort.ltInt d2 a b pv2 = z := ⟨_, rfl⟩
                      have hq := pq4_part (d := d2) (limit := lim2) (wb := wb) (wp := wp) HC.out hpr.1 hpr.2 (by omega) hr
                      rw [hr] at HK
                      obtain ⟨hq1, hq2⟩ := hq
                      have HF2 := Lib.hid (hq2.symm.trans HF.out)
                      clear hr hq2
                      obtain ⟨lf, hlf⟩ : ∃ z, mid - a = z := ⟨_, rfl⟩
                      obtain ⟨rt, hrt⟩ : ∃ z, b - mid = z := ⟨_, rfl⟩
                      obtain ⟨t8, ht8⟩ : ∃ z, (b - a) / 8 = z := ⟨_, rfl⟩
                      obtain ⟨m1, hm1⟩ : ∃ z, mid + 1 = z := ⟨_, rfl⟩
                      rw [hlf, hrt, ht8, hm1] at HF2
                      have HL' := HL.out
                      have e3 : IntKind.i64.wrap ((mid : Int) - (a : Int)) = (lf : Int) := by rw [IntWalk.i64_in _ (by omega)]; omega
                      have e4 : IntKind.i64.wrap ((b : Int) - (mid : Int)) = (rt : Int) := by rw [IntWalk.i64_in _ (by omega)]; omega
                      have e5 : (L : Int).tdiv 8 = (t8 : Int) := by rw [Int.tdiv_eq_ediv_of_nonneg (by omega)]; omega
                      have e6 : IntKind.i64.wrap (t8 : Int) = (t8 : Int) := by rw [IntWalk.i64_in _ (by omega)]
                      have e7 : IntKind.i64.wrap ((mid : Int) + 1) = (m1 : Int) := by rw [IntWalk.i64_in _ (by omega)]; omega
                      have b1 : m1 ≤ mid + 1 := by omega
                      have b2 : mid + 1 ≤ m1 := by omega
                      have b3 : a + lf ≤ mid := by omega
                      have b4 : mid ≤ a + lf := by omega
                      have b5 : mid + rt ≤ b := by omega
                      have b6 : b ≤ mid + rt := by omega
                      have b7 : a + L ≤ b := by omega
                      have b8 : b ≤ a + L := by omega
                      have HR1 : Hid (∀ W d, SoA w0 g off n c d W → Calls Try.prog 108 #[.slice (some ⟨g, off, none⟩) n c, .int .i64 (a : Int), .int .i64 (mid : Int), .int .i64 (lim2 : Int)] W (SoP w0 g off n c (Sort.pdq Sort.ltInt d a mid lim2 true true))) := fun W d h => IH.out w0 W a mid lim2 d (by omega) (by omega) (by omega) (by omega) hlim3 h
                      have HR2 : Hid (∀ W d, SoA w0 g off n c d W → Calls Try.prog 108 #[.slice (some ⟨g, off, none⟩) n c, .int .i64 (m1 : Int), .int .i64 (b : Int), .int .i64 (lim2 : Int)] W (SoP w0 g off n c (Sort.pdq Sort.ltInt d m1 b lim2 true true))) := fun W d h => IH.out w0 W m1 b lim2 d (by omega) (by omega) (by omega) (by omega) hlim3 h
                      clear hlf hrt ht8 hm1 HL'
                      by_cases hlr : lf < rt
                      · have hlr' : (lf : Int) < (rt : Int) := by omega
                        have HF3 := Lib.hid (show Sort.pdq Sort.ltInt (Sort.pdq Sort.ltInt d4 a mid lim2 true true) m1 b lim2 (decide (lf ≥ t8)) al = D from by have h := HF2.out; rw [if_pos hlr] at h; exact h)
                        have HDE : Hid (decide (lf ≥ t8) = decide ((t8 : Int) ≤ (lf : Int))) := decide_eq_decide.2 (by omega)
                        go_wp2_with (first | (go_at_call 128; refine HK.out.mono ?_; rintro e w' ⟨rfl, hN⟩; have HN := Lib.hid hN; clear hN) | (go_at_call 108; refine (HR1.out _ _ HN.out).mono ?_; rintro e w2 ⟨rfl, hN⟩; have HN2 := Lib.hid hN; clear hN))
                        go_roundw
                        case rel => exact ⟨m1, b, lim2, _, al, _, by omega, by omega, by omega, by omega, hlim3, rfl, rfl, rfl, rfl, rfl, HN2.out, HF3.out⟩
                        case measure => simp [intOf] <;> omega
                      · have hlr' : ¬ (lf : Int) < (rt : Int) := by omega
                        have HF3 := Lib.hid (show Sort.pdq Sort.ltInt (Sort.pdq Sort.ltInt d4 m1 b lim2 true true) a mid lim2 (decide (rt ≥ t8)) al = D from by have h := HF2.out; rw [if_neg hlr] at h; exact h)
                        have HDE : Hid (decide (rt ≥ t8) = decide ((t8 : Int) ≤ (rt : Int))) := decide_eq_decide.2 (by omega)
                        go_wp2_with (first | (go_at_call 128; refine HK.out.mono ?_; rintro e w' ⟨rfl, hN⟩; have HN := Lib.hid hN; clear hN) | (go_at_call 108; refine (HR2.out _ _ HN.out).mono ?_; rintro e w2 ⟨rfl, hN⟩; have HN2 := Lib.hid hN; clear hN))
                        go_roundw
                        case rel => exact ⟨a, mid, lim2, _, al, _, by omega, by omega, by omega, by omega, hlim3, rfl, rfl, rfl, rfl, rfl, HN2.out, HF3.out⟩
                        case measure => simp [intOf] <;> omega
end Go.Proofs.Ytngkhligjkcbmaa

namespace Go.Proofs.Ytngkhligjkcbmaa
open Go.RowKit
set_option linter.unusedVariables false
set_option linter.unusedSimpArgs false

section
variable {d : Array Int} {a b n : Nat}
theorem order2_sorted (hs : Sort.SortedIn Sort.ltInt a b d) {i j s : Nat} (h1 : a ≤ i) (h2 : i < j) (h3 : j < b) : Sort.order2 Sort.ltInt d i j s = (i, j, s) := by
  unfold Sort.order2; rw [if_neg (by rw [hs i j h1 h2 h3]; decide)]
theorem median_sorted (hs : Sort.SortedIn Sort.ltInt a b d) {i j k s : Nat} (h1 : a ≤ i) (h2 : i < j) (h3 : j < k) (h4 : k < b) : Sort.median Sort.ltInt d i j k s = (j, s) := by
  unfold Sort.median
  simp only [order2_sorted hs h1 h2 (by omega), order2_sorted hs (by omega) h3 h4]
theorem pivot_sorted (hs : Sort.SortedIn Sort.ltInt a b d) (h8 : a + 8 ≤ b) : (Sort.choosePivot Sort.ltInt d a b).2 = .increasing := by
  unfold Sort.choosePivot
  obtain ⟨l, hl⟩ : ∃ l, b - a = l := ⟨_, rfl⟩
  obtain ⟨q, hq⟩ : ∃ q, l / 4 = q := ⟨_, rfl⟩
  simp only [hl, hq]
  rw [if_pos (show l ≥ 8 by omega)]
  by_cases h50 : l ≥ 50
  · have m1 := median_sorted hs (i := a + q * 1 - 1) (j := a + q * 1) (k := a + q * 1 + 1) (s := 0) (by omega) (by omega) (by omega) (by omega)
    have m2 := median_sorted hs (i := a + q * 2 - 1) (j := a + q * 2) (k := a + q * 2 + 1) (s := 0) (by omega) (by omega) (by omega) (by omega)
    have m3 := median_sorted hs (i := a + q * 3 - 1) (j := a + q * 3) (k := a + q * 3 + 1) (s := 0) (by omega) (by omega) (by omega) (by omega)
    have m4 := median_sorted hs (i := a + q * 1) (j := a + q * 2) (k := a + q * 3) (s := 0) (by omega) (by omega) (by omega) (by omega)
    simp only [if_pos h50, Sort.medianAdjacent, m1, m2, m3, m4]
    simp
  · have m4 := median_sorted hs (i := a + q * 1) (j := a + q * 2) (k := a + q * 3) (s := 0) (by omega) (by omega) (by omega) (by omega)
    simp only [if_neg h50, m4]
    simp
theorem scan_sorted (hs : Sort.SortedIn Sort.ltInt a b d) : ∀ (m k : Nat), b - k = m → a < k → k ≤ b → Sort.scanSorted Sort.ltInt d b k = b := by
  intro m
  induction m with
  | zero => intro k h1 h2 h3; rw [scan_end rfl (.inl (by omega))]; omega
  | succ m ih =>
    intro k h1 h2 h3
    rw [scan_go (by omega) rfl (hs (k - 1) k (by omega) (by omega) (by omega))]
    exact ih (k + 1) (by omega) (by omega) (by omega)
theorem sorted_of (xs : List Int) (h : xs.Pairwise (· ≤ ·)) : Sort.SortedIn Sort.ltInt 0 xs.length xs.toArray := by
  intro i j _ hij hj
  rw [List.pairwise_iff_getElem] at h
  have := h i j (by omega) hj hij
  simp [Sort.ltInt, hj, show i < xs.length by omega]
  omega
theorem insOuter_sorted (hs : Sort.SortedIn Sort.ltInt a b d) : ∀ (m k : Nat), b - k = m → a < k → Sort.insOuter Sort.ltInt a b k d = d := by
  intro m
  induction m with
  | zero => intro k h1 h2; rw [insOuter_end (by omega)]
  | succ m ih =>
    intro k h1 h2
    obtain ⟨j, rfl⟩ : ∃ j, k = j + 1 := ⟨k - 1, by omega⟩
    rw [insOuter_go (by omega), insInner_end (hs j (j + 1) (by omega) (by omega) (by omega))]
    exact ih (j + 2) (by omega) (by omega)
end

set_option maxRecDepth 100000 in
set_option maxHeartbeats 4000000 in
theorem pdqU_s (w0 w : World) (g off n c : Nat) (hm : n ≤ 1000000) (d0 : Array Int) (lim : Nat) (h1 : 1 ≤ n) (hlim : 1 ≤ lim ∧ lim ≤ 1000) (hs : Sort.SortedIn Sort.ltInt 0 n d0) (hS : SoA w0 g off n c d0 w) :
    Calls Try.prog 108 #[.slice (some ⟨g, off, none⟩) n c, .int .i64 0, .int .i64 (n : Int), .int .i64 (lim : Int)] w (SoP w0 g off n c d0) := by
  have e1 : IntKind.i64.wrap (n : Int) = (n : Int) := by rw [IntWalk.i64_in _ (by omega)]
  have hl0 : ¬ (lim : Int) = 0 := by omega
  by_cases h12 : n ≤ 12
  · have h12' : (n : Int) ≤ 12 := by omega
    have hC := insU_x w0 w g off n c 0 n d0 (by omega) (Nat.le_refl _) hm hS
    rw [Sort.insertionSort, insOuter_sorted hs _ _ rfl (by omega)] at hC
    have HC := Lib.hid hC
    clear hS hC
    go_enter Try.func108, Try.ntmps108
    go_wp2
    refine wp_loop_rounds 1 ?_
    rw [rounds_succ]
    go_wp2_with (go_at_call 120; refine HC.out.mono ?_; rintro e w' ⟨rfl, hN⟩)
    exact bodyPost_ret (v := .tuple #[]) (by simp [results, Try.results108, go_sem]) rfl ⟨rfl, hN⟩
  · have h12' : ¬ (n : Int) ≤ 12 := by omega
    have hsc := scan_sorted hs _ 1 rfl (by omega) (by omega)
    have HC := Lib.hid (pivotU (w0 := w0) (w := w) (g := g) (off := off) (n := n) (c := c) (d := d0) 0 n (by omega) (Nat.le_refl _) hm hS)
    have hin := pivot_sorted hs (by omega)
    obtain ⟨⟨pv, hi⟩, hr⟩ : ∃ z, Sort.choosePivot Sort.ltInt d0 0 n = z := ⟨_, rfl⟩
    rw [hr] at HC hin
    obtain rfl : hi = .increasing := hin
    have hq : hintI Sort.Hint.increasing = 1 := rfl
    have HP := Lib.hid (fun W (h : SoA w0 g off n c d0 W) => partInsU w0 W g off n c 0 n d0 (by omega) (Nat.le_refl _) hm (.inr hsc) h)
    rw [partIns_short (.inr hsc), decide_eq_true hsc] at HP
    clear hS hr hsc
    go_enter Try.func108, Try.ntmps108
    go_wp2
    refine wp_loop_rounds 1 ?_
    rw [rounds_succ]
    go_wp2_with (first | (go_at_call 123; refine HC.out.mono ?_; rintro e w' ⟨rfl, hN⟩; have HN := Lib.hid hN; clear hN) | (go_at_call 125; refine (HP.out _ HN.out).mono ?_; rintro e w2 ⟨rfl, hN⟩; have HN2 := Lib.hid hN; clear hN))
    exact bodyPost_ret (v := .tuple #[]) (by simp [results, Try.results108, go_sem]) rfl ⟨rfl, HN2.out⟩

set_option maxRecDepth 100000 in
set_option maxHeartbeats 1000000 in
theorem sortU_x (w0 w : World) (g off n c : Nat) (d0 : Array Int) (h1 : 1 ≤ n) (hm : n < 256) (hv : n < 50 ∨ Sort.SortedIn Sort.ltInt 0 n d0) (hS : SoA w0 g off n c d0 w) :
    Calls Try.prog 93 #[.slice (some ⟨g, off, none⟩) n c] w (SoP w0 g off n c (Sort.sort Sort.ltInt d0)) := by
  have hsz := hS.2.1
  have HL := Lib.hid (fun w => len_x w n hm)
  have h8 : Sort.bitsLen n ≤ 8 := bitsLen_small hm
  have h0 : 1 ≤ Sort.bitsLen n := by
    rcases Nat.eq_zero_or_pos (Sort.bitsLen n) with h | h
    · have := Sort.lt_two_pow_bitsLen n; rw [h] at this; omega
    · exact h
  have HC : Hid (Calls Try.prog 108 #[.slice (some ⟨g, off, none⟩) n c, .int .i64 0, .int .i64 (n : Int), .int .i64 (Sort.bitsLen n : Nat)] w (SoP w0 g off n c (Sort.sort Sort.ltInt d0))) := by
    show Calls _ _ _ _ _
    rcases hv with hv | hv
    · have := pdqU_x g off n c (by omega) (n + 1) w0 w 0 n (Sort.bitsLen n) d0 (by omega) (by omega) (by omega) (Nat.le_refl _) (by omega) hS
      unfold Sort.sort
      rw [hsz]; exact this
    · have hpd := Sort.sort_sorts Sort.ltInt swoInt d0
      have hself : Sort.sort Sort.ltInt d0 = d0 := by
        have hx := Sort.sortInt d0.toList
        have hp : d0.toList.Pairwise (· ≤ ·) := by
          rw [List.pairwise_iff_getElem]
          intro i j hi hj hij
          have hi' : i < d0.size := by simpa using hi
          have hj' : j < d0.size := by simpa using hj
          have := hv i j (Nat.zero_le _) hij (by omega)
          rw [getElem!_pos d0 i hi', getElem!_pos d0 j hj'] at this
          simp [Sort.ltInt] at this
          simpa using this
        rw [List.mergeSort_of_pairwise (by simpa using hp), Array.toArray_toList] at hx
        exact Array.toList_inj.1 hx
      rw [hself]
      exact pdqU_s w0 w g off n c (by omega) d0 (Sort.bitsLen n) h1 ⟨h0, by omega⟩ hv hS
  obtain ⟨k, hk⟩ : ∃ k, Sort.bitsLen n = k := ⟨_, rfl⟩
  rw [hk] at HL HC
  have hw : IntKind.u64.wrap (n : Int) = (n : Int) := IntWalk.u64_in _ (by omega)
  clear hS hk hv
  go_enter Try.func93, Try.ntmps93
  go_wp2_with (first | (go_at_call 101; refine (HL.out _).mono ?_; rintro e w' ⟨rfl, rfl⟩) | (go_at_call 108; refine HC.out.mono ?_; rintro e w' ⟨rfl, hN⟩; have HN := Lib.hid hN; clear hN))
  go_end0
  exact ⟨rfl, HN.out⟩

/-- Words sorted by the plain functions of lists. -/
def srtL (xs : List Int) : List Int := xs.mergeSort fun x y => decide (x ≤ y)
def SrP (w : World) (g off n c : Nat) (xs : List Int) (e : Ending) (w' : World) : Prop := e = .returned (.tuple #[]) ∧ Sl 30 1 w' (some ⟨g, off, none⟩) n c (uints (srtL xs)) ∧ Ch (At g) w w' ∧ bsz w' g = bsz w g
theorem sortU_any (w : World) (g off n c : Nat) (xs : List Int) (hn : xs.length = n) (h1 : 1 ≤ n) (hm : n < 256) (hv : n < 50 ∨ xs.Pairwise (· ≤ ·)) (hS : Sl 30 1 w (some ⟨g, off, none⟩) n c (uints xs)) :
    Calls Try.prog 93 #[.slice (some ⟨g, off, none⟩) n c] w (SrP w g off n c xs) := by
  refine (sortU_x w w g off n c xs.toArray h1 hm (hv.imp_right (fun h => by rw [← hn]; exact sorted_of xs h)) ⟨by simpa using hS, by simpa using hn, Ch.refl _ _, rfl⟩).mono ?_
  rintro e w' ⟨rfl, h1, h2, h3, h4⟩
  refine ⟨rfl, ?_, h3, h4⟩
  have := Sort.sortInt xs
  rw [this] at h1
  exact h1
theorem srtL_sorted (xs : List Int) : (srtL xs).Pairwise (· ≤ ·) := by
  have := List.pairwise_mergeSort (le := fun x y : Int => decide (x ≤ y)) (fun a b c h1 h2 => by simp at *; omega) (fun a b => by simp; omega) xs
  simpa [srtL] using this
theorem srtL_perm (xs : List Int) : (srtL xs).Perm xs := List.mergeSort_perm _ _
theorem srtL_of (xs : List Int) (h : xs.Pairwise (· ≤ ·)) : srtL xs = xs := List.mergeSort_of_pairwise (by simpa using h)
theorem srtL_length (xs : List Int) : (srtL xs).length = xs.length := (srtL_perm xs).length_eq
end Go.Proofs.Ytngkhligjkcbmaa

namespace Go.Proofs.Ytngkhligjkcbmaa
open Go.RowKit
set_option linter.unusedVariables false

/-- The program of Stores. -/
def storesX (ws : List (Int × Int)) : List Ins := insSt ws ++ insFl (cpt (srtL (starts ws))) ++ [(3, 0, 0)]
theorem storesX_of (ws : List (Int × Int)) (h : (starts ws).Pairwise (· ≤ ·)) : storesX ws = storesP ws := by unfold storesX storesP; rw [srtL_of _ h]
theorem ib_of_sl {w : World} {g n : Nat} {xs : List Int} (h : Sl 30 1 w (some ⟨g, 0, none⟩) n n (uints xs)) (hz : bsz w g = n) : IB .u64 30 w g xs := by
  have hl := h.1
  rcases h.2 with ⟨hx, _⟩ | ⟨g', o', cur, hA, hC, _, _, hfit, ht⟩
  · cases hx
  · cases hA
    rw [bsz_cb hC] at hz
    have e : cur = ia .u64 xs := by
      apply Array.toList_inj.1
      rw [← List.take_of_length_le (l := cur.toList) (i := n * 1) (by simp; omega)]
      simpa [ia, uints] using ht
    show w.heap[g]? = _
    rw [← e]; exact hC

set_option maxRecDepth 100000 in
set_option maxHeartbeats 4000000 in
theorem memStoresX (w : World) (A : Option Addr) (n c : Nat) (ws : List (Int × Int)) (hn : ws.length = n) (h1 : 1 ≤ n) (hm : n < 256) (hS : Sl 34 2 w A n c (wcells ws)) (hr : ∀ p ∈ ws, 0 ≤ p.1 ∧ p.1 < 18446744073709551616) (hs : n < 50 ∨ (starts ws).Pairwise (· ≤ ·)) :
    Calls Try.prog 61 #[.slice A n c] w (StoPost w (storesX ws)) := by
  have HN := Lib.hid hn
  have HS := Lib.hid hS
  have HR := Lib.hid hr
  have HSo := Lib.hid hs
  have e0 : ((n : Int) == 0) = false := by simp; omega
  have hmk : ∀ W : World, (Instr.makeSlice 52 (.int .i64 0) (.int .i64 (n : Int))).run Try.prog W = .ok (.slice (some ⟨W.heap.size, 0, none⟩) 0 n) (W.alloc (.cells (ia .u64 (List.replicate n 0)) 30)) := run_make_room 52 30 n Try.underlying52 info_u64 (by omega)
  clear hn hS hr hs
  go_enter Try.func61, Try.ntmps61
  go_wp2
  have HI0 : Hid (StoInv w w.heap.size n ws 0 none 0 (w.alloc (.cells (ia .u64 (List.replicate n 0)) 30))) := by
    refine ⟨Sl.nil, ?_, bl_alloc (Below.refl _ _) _, by simp [OwnB]⟩
    have : lnPad ws n 0 = List.replicate n 0 := by simp [lnPad, starts]
    rw [this]; exact IB.new _ _
  obtain ⟨g, hg⟩ : ∃ g, w.heap.size = g := ⟨_, rfl⟩
  obtain ⟨W, hW⟩ : ∃ W, w.alloc (.cells (ia .u64 (List.replicate n 0)) 30) = W := ⟨_, rfl⟩
  have HI1 : Hid (StoInv w g n ws 0 none 0 W) := by show StoInv _ _ _ _ _ _ _ _; rw [← hg, ← hW]; exact HI0.out
  have hgw : w.heap.size ≤ g := by omega
  rw [hg, hW]
  clear hmk hg hW HI0
  go_loopw [17, 3, 4, 6, 18, 19, 20, 21, 22, 23, 24, 25, 26, 27, 28, 29, 30, 31, 32, 33, 34, 35] (fun i p l _ _ _ _ _ _ _ _ _ _ _ _ _ _ _ _ _ _ _ wr => ∃ (k : Nat) (A' : Option Addr) (c' : Nat), k ≤ n ∧ i = .int .i64 k ∧ p = .slice A' k c' ∧ l = .slice (some ⟨g, 0, none⟩) k n ∧ StoInv w g n ws k A' c' wr) (fun i p l _ _ _ _ _ _ _ _ _ _ _ _ _ _ _ _ _ _ _ _ => n - (intOf i).toNat)
  case atStart => exact ⟨0, none, 0, by omega, rfl, rfl, rfl, HI1.out⟩
  case round =>
    clear HI1
    obtain ⟨k, A', c', hk, rfl, rfl, rfl, hP, hI, hB, hO⟩ := hrel
    have HP := Lib.hid hP
    have HI := Lib.hid hI
    have HB := Lib.hid hB
    have HO := Lib.hid hO
    by_cases hlt : k < n
    · have hkl : k < ws.length := by rw [HN.out]; exact hlt
      obtain ⟨gw, ow, hA, hl, c1, c2⟩ := (HS.out.keep (fun b hb => hB.block b (HS.out.lt hb))).wr hkl
      obtain ⟨⟨of, v⟩, hp⟩ : ∃ p, ws[k] = p := ⟨_, rfl⟩
      have hpp := HR.out _ (List.getElem_mem hkl)
      rw [hp] at c1 c2 hpp
      have HPP := Lib.hid hp
      have hof : 0 ≤ of ∧ of < 18446744073709551616 := hpp
      have HOF := Lib.hid hof
      subst hA
      rw [show 2 * k = k * 2 by omega] at c1 c2
      have hgn : ¬ gw = wr.heap.size := by omega
      have hgr := hI.lt
      clear hP hI hB hO hp hpp hof
      go_wp2_with (at_builtin; refine wpList_append_sl rfl (.tmp 21) (.tmp 27) 25 rfl 32 (.agg #[.int .u8 0, .int .u64 0, .int .u64 0]) 3 24 rfl (by omega) Try.underlying25 info_instr (by omega) A' k c' (pcells (insSt (ws.take k))) ⟨wr.heap.size + 1, 0, none⟩ 1 1 [.int .u8 1, .int .u64 of, .int .u64 v] rfl rfl (HP.out.keep (fun b hb => ((bl_alloc (bl_alloc (Below.refl _ _) _) _ : Below wr.heap.size wr _).block b (HP.out.lt hb)))) rfl (by omega) (by have := cells_three (wr.alloc (.cells #[.int .u64 of, .int .u64 v] 34)) 32 (.int .u8 1) (.int .u64 of) (.int .u64 v); simpa using this) (ins_one _ _ _) (by omega) ?_; intro A2 c2' w2 HO2 HC2 HW2 HG2; have hsz : wr.heap.size + 2 ≤ w2.heap.size := (by have := HC2.out.size; simpa using this); have hno : ∀ b, wr.heap.size ≤ b → ¬ OwnB A' b := (fun b hb ho => by have := HP.out.lt ho; omega); have m0 : w2.cell? ⟨wr.heap.size, 0, none⟩ = some (.int .u64 of) := ((HC2.out.cells _ _ (by simp; omega) (hno _ (Nat.le_refl _))).trans (by go_simp)); have HI2 : Hid (IB .u64 30 w2 g (lnPad ws n k)) := (((HI.out.alloc _).alloc _).ch HC2.out (fun ho => (HO.out g ho).2 rfl)); have m1 : wr.heap.size < w2.heap.size := (by omega); clear hno)
      go_wp2_with (first | (go_at_call 92; refine (memStart _ of HOF.out).mono ?_; rintro e w' ⟨rfl, rfl⟩) | (at_builtin; refine wpList_append_ib rfl (.tmp 29) (.tmp 33) 52 rfl 30 Try.underlying52 info_u64 g k n ⟨w2.heap.size, 0, none⟩ 1 (startOf of) (lnPad ws n k) rfl rfl (HI2.out.alloc _) hlt (by rw [length_lnPad ws n k HN.out hk]; exact Nat.le_refl _) (by simp [go_sem]) ?_))
      refine ⟨⟨k + 1, A2, c2', by omega, by go_num, rfl, rfl, ?_, ?_, ?_, ?_⟩, by simp [intOf]; omega⟩
      · have hx := HO2.out
        have e1 : pcells (insSt (ws.take (k + 1))) = pcells (insSt (ws.take k)) ++ [.int .u8 1, .int .u64 of, .int .u64 v] := by
          rw [List.take_succ_eq_append_getElem hkl, HPP.out, insSt, List.map_append, pcells_append]; rfl
        rw [e1]
        refine hx.keep (fun b hb => ?_)
        have hbl := hx.lt hb
        have hbg : b ≠ g := by
          rcases HW2.out b hb with h | h
          · exact (HO.out b h).2
          · rw [h]; simp; omega
        rw [Below.heap_setCell _ _ _ _ hbg, Below.heap_alloc _ _ _ hbl]
      · have := (HI2.out.alloc (.cells #[.int .u64 (startOf of)] 30)).set k (startOf of)
        rw [← lnPad_set ws n k HN.out hlt, HPP.out]
        exact this
      · refine bl_set (bl_alloc (bl_ch (bl_alloc (bl_alloc HB.out _) _) HC2.out (fun b hb => (HO.out b hb).1)) _) hgw _
      · intro b hb
        rcases HW2.out b hb with h | h
        · exact HO.out b h
        · have := HB.out.size
          rw [h]; simp; omega
    · obtain rfl : k = n := by omega
      have hI' : IB .u64 30 wr g (starts ws) := by rw [← lnPad_all ws k HN.out]; exact hI
      have hP' : Sl 32 3 wr A' k c' (pcells (insSt ws)) := by rw [List.take_of_length_le (by rw [HN.out]; omega)] at hP; exact hP
      have hsl : (starts ws).length = k := by simp [starts, HN.out]
      have HSRT := Lib.hid (sortU_any wr g 0 k k (starts ws) hsl h1 hm HSo.out (by have := hI'.sl (by rw [hsl]; unfold maxLen; omega); rwa [hsl] at this))
      have hbz : bsz wr g = k := by rw [bsz_cb hI']; simp [ia, hsl]
      have HBZ := Lib.hid hbz
      have HCPT := Lib.hid (fun W (hI : IB .u64 30 W g (srtL (starts ws))) => compactU W g k (srtL (starts ws)) (by rw [srtL_length]; exact hsl) h1 (by omega) hI)
      clear hbz
      have HP' := Lib.hid hP'
      clear hP hI hB hO hI' hP' HP HI hsl
      go_wp2_with (first | (go_at_call 93; refine HSRT.out.mono ?_; rintro e wS ⟨rfl, hSl, hSc, hSz⟩; have HSL := Lib.hid hSl; have HSC := Lib.hid hSc; have HSZ := Lib.hid hSz; clear hSl hSc hSz) | (go_at_call 94; refine (HCPT.out wS (ib_of_sl HSL.out (HSZ.out.trans HBZ.out))).mono ?_; rintro e w3 ⟨zs, rfl, hZ, hzt, hC3⟩; have HZ := Lib.hid hZ; have HZT := Lib.hid hzt; have HC3 := Lib.hid hC3; clear hZ hzt hC3))
      have HI2 : Hid (StoInv2 w g k ws zs (cpt (srtL (starts ws))) 0 A' c' w3) := by
        refine ⟨?_, HZ.out, bl_ch (bl_ch HB.out HSC.out (fun b hb => by rw [show b = g from hb]; exact hgw)) HC3.out (fun b hb => by rw [show b = g from hb]; exact hgw), HO.out⟩
        have h1 := (HP'.out.keep (w' := wS) (fun b hb => HSC.out.block b (HP'.out.lt hb) (fun h => (HO.out b hb).2 h))).keep (w' := w3) (fun b hb => HC3.out.block b (Nat.lt_of_lt_of_le (HP'.out.lt hb) HSC.out.size) (fun h => (HO.out b hb).2 h))
        simpa [insFl] using h1
      have hzl : (cpt (srtL (starts ws))).length ≤ k := by have := cpt_le (srtL (starts ws)); rw [srtL_length] at this; simp [starts] at this; rw [HN.out] at this; exact this
      obtain ⟨cs, hcs⟩ : ∃ cs, cpt (srtL (starts ws)) = cs := ⟨_, rfl⟩
      obtain ⟨q, hq⟩ : ∃ q, cs.length = q := ⟨_, rfl⟩
      have HCS := Lib.hid hcs
      have HQ := Lib.hid hq
      rw [hcs] at HI2 HZT hzl ⊢
      rw [hq] at HZT hzl ⊢
      clear hcs hq HSRT HCPT HZ HC3 HB HO HP'
      go_loopw [41, 3, 8, 42, 43, 44, 45, 46, 47, 48, 49, 50] (fun i p _ _ _ _ _ _ _ _ _ _ wr => ∃ (j : Nat) (A' : Option Addr) (c' : Nat), j ≤ q ∧ i = .int .i64 j ∧ p = .slice A' (k + j) c' ∧ StoInv2 w g k ws zs cs j A' c' wr) (fun i _ _ _ _ _ _ _ _ _ _ _ _ => q - (intOf i).toNat)
      case atStart => exact ⟨0, _, _, by omega, rfl, rfl, HI2.out⟩
      case round =>
        clear HI2
        obtain ⟨j, A1, c1, hj, rfl, rfl, hP, hI, hB, hO⟩ := hrel
        have HP := Lib.hid hP
        have HI := Lib.hid hI
        have HB := Lib.hid hB
        have HO := Lib.hid hO
        have hgr := hI.lt
        by_cases hjq : j < q
        · have hjl : j < cs.length := by rw [HQ.out]; exact hjq
          obtain ⟨l, hl⟩ : ∃ l, cs[j] = l := ⟨_, rfl⟩
          have hzl' : q ≤ zs.length := by have := congrArg List.length HZT.out; rw [List.length_take, HQ.out] at this; omega
          have hzj : zs[j]'(by omega) = l := by
            have h1 : (zs.take q)[j]'(by rw [List.length_take]; omega) = l := by
              have h2 := HZT.out
              simp only [h2]; exact hl
            rwa [List.getElem_take] at h1
          have cj : wr.cell? ⟨g, j, none⟩ = some (.int .u64 l) := by rw [hI.cell (by omega), hzj]
          have HL := Lib.hid hl
          have hjn : j < k := by omega
          clear hP hI hB hO hl hzj
          go_wp2_with (at_builtin; refine wpList_append_sl rfl (.tmp 45) (.tmp 48) 25 rfl 32 (.agg #[.int .u8 0, .int .u64 0, .int .u64 0]) 3 24 rfl (by omega) Try.underlying25 info_instr (by omega) A1 (k + j) c1 (pcells (insSt ws ++ insFl (cs.take j))) ⟨wr.heap.size, 0, none⟩ 1 1 [.int .u8 2, .int .u64 l, .int .u64 0] rfl rfl (HP.out.keep (fun b hb => Below.heap_alloc _ _ _ (HP.out.lt hb))) rfl (by omega) (cells_three wr 32 _ _ _) (ins_one _ _ _) (by omega) ?_; intro A2 c2' w2 HO2 HC2 HW2 HG2)
          refine ⟨⟨j + 1, A2, c2', by omega, by go_num, rfl, ?_, ?_, ?_, ?_⟩, by simp [intOf]; omega⟩
          · have e1 : pcells (insSt ws ++ insFl (cs.take (j + 1))) = pcells (insSt ws ++ insFl (cs.take j)) ++ [.int .u8 2, .int .u64 l, .int .u64 0] := by
              rw [List.take_succ_eq_append_getElem hjl, HL.out, insFl, List.map_append, ← List.append_assoc, pcells_append]; rfl
            rw [e1]; exact HO2.out
          · exact (HI.out.alloc _).ch HC2.out (fun ho => (HO.out g ho).2 rfl)
          · exact bl_ch (bl_alloc HB.out _) HC2.out (fun b hb => (HO.out b hb).1)
          · intro b hb
            have := HB.out.size
            rcases HW2.out b hb with h | h
            · exact HO.out b h
            · rw [h]; simp; omega
        · obtain rfl : j = q := by omega
          clear hP hI hB hO
          go_wp2_with (at_builtin; refine wpList_append_sl rfl (.tmp 51) (.tmp 53) 25 rfl 32 (.agg #[.int .u8 0, .int .u64 0, .int .u64 0]) 3 24 rfl (by omega) Try.underlying25 info_instr (by omega) A1 (k + j) c1 (pcells (insSt ws ++ insFl (cs.take j))) ⟨wr.heap.size, 0, none⟩ 1 1 [.int .u8 3, .int .u64 0, .int .u64 0] rfl rfl (HP.out.keep (fun b hb => Below.heap_alloc _ _ _ (HP.out.lt hb))) rfl (by omega) (cells_three wr 32 _ _ _) (ins_one _ _ _) (by omega) ?_; intro A2 c2' w2 HO2 HC2 HW2 HG2)
          go_ret
          have hE : storesX ws = insSt ws ++ insFl (cs.take j) ++ [(3, 0, 0)] := by
            rw [storesX, HCS.out, List.take_of_length_le (by rw [HQ.out]; exact Nat.le_refl _)]
          have hlen : (storesX ws).length = k + j + 1 := by
            rw [hE]; simp [insSt, insFl, HN.out, HQ.out]; omega
          refine ⟨A2, c2', ?_, ?_, ?_, ?_⟩
          · rw [hlen]; rfl
          · rw [hlen, hE, pcells_append]; exact HO2.out
          · exact bl_ch (bl_alloc HB.out _) HC2.out (fun b hb => (HO.out b hb).1)
          · intro b hb
            have := HB.out.size
            rcases HW2.out b hb with h | h
            · exact (HO.out b h).1
            · rw [h]; simp; omega
end Go.Proofs.Ytngkhligjkcbmaa
