/- Contracts of the laws' own functions on bitmaps: fits, read, lay; the reference's Get, Ones and Next. -/
import Derived.Test.YtbhkdngbgokilaaDoorBmG
namespace Go.Proofs.YtbhkdngbgokilaaDoor
open Go.RowKit
set_option linter.unusedVariables false

theorem bitW_congr {ws ws' : List Int} {i : Nat} (h : ws[i / 64]? = ws'[i / 64]?) : bitW ws i = bitW ws' i := by unfold bitW; rw [h]
/-- A bitmap's number of bits, its word, and the words. -/
def inv20 (B At : Int) (A : Option Addr) (n c : Nat) : Value := .agg #[.int .i64 B, .int .i64 At, .slice A n c]
def fitsB (B At : Int) : Bool := decide (1 ≤ B) && (decide (B ≤ 512) && (decide (0 ≤ At) && (decide (At < 96) && decide (At + (B + 63) / 64 ≤ 96))))
set_option maxRecDepth 100000 in
set_option maxHeartbeats 1000000 in
theorem fits20 (w : World) (B At : Int) (A : Option Addr) (n c : Nat) (hB : -9223372036854775808 ≤ B ∧ B < 9223372036854775808) (hAt : -9223372036854775808 ≤ At ∧ At < 9223372036854775808) :
    Calls Tryd.prog 12 #[inv20 B At A n c] w fun e w' => e = .returned (.bool (fitsB B At)) ∧ Below w.heap.size w w' := by
  unfold inv20
  by_cases c1 : B ≥ 1
  · by_cases c2 : B ≤ 512
    · by_cases c3 : At ≥ 0
      · by_cases c4 : At < 96
        · have hv : Hid (fitsB B At = decide (At + (B + 63) / 64 ≤ 96)) := by
            show _ = _; unfold fitsB; rw [decide_eq_true c1, decide_eq_true c2, decide_eq_true c3, decide_eq_true c4]; rfl
          go_enter Tryd.func12, Tryd.ntmps12
          go_wp2
          go_ret
          rw [hv.out]
          exact ⟨rfl, (by repeat (first | with_reducible exact Below.refl _ _ | with_reducible refine bl_alloc ?_ _ | with_reducible refine bl_drew ?_ | with_reducible refine bl_drewN ?_ _ | with_reducible refine bl_bx ?_ _ | with_reducible exact BX.below _ | with_reducible refine bl_set ?_ (by first | (exact Nat.le_refl _) | (simp; done) | (simp; omega)) _ | assumption))⟩
        · have hv : Hid (fitsB B At = false) := by show _ = _; unfold fitsB; rw [decide_eq_false (p := At < 96) c4]; simp
          go_enter Tryd.func12, Tryd.ntmps12
          go_wp2
          go_ret
          rw [hv.out]
          exact ⟨rfl, (by repeat (first | with_reducible exact Below.refl _ _ | with_reducible refine bl_alloc ?_ _ | with_reducible refine bl_drew ?_ | with_reducible refine bl_drewN ?_ _ | with_reducible refine bl_bx ?_ _ | with_reducible exact BX.below _ | with_reducible refine bl_set ?_ (by first | (exact Nat.le_refl _) | (simp; done) | (simp; omega)) _ | assumption))⟩
      · have hv : Hid (fitsB B At = false) := by show _ = _; unfold fitsB; rw [decide_eq_false (p := 0 ≤ At) (by omega)]; simp
        go_enter Tryd.func12, Tryd.ntmps12
        go_wp2
        go_ret
        rw [hv.out]
        exact ⟨rfl, (by repeat (first | with_reducible exact Below.refl _ _ | with_reducible refine bl_alloc ?_ _ | with_reducible refine bl_drew ?_ | with_reducible refine bl_drewN ?_ _ | with_reducible refine bl_bx ?_ _ | with_reducible exact BX.below _ | with_reducible refine bl_set ?_ (by first | (exact Nat.le_refl _) | (simp; done) | (simp; omega)) _ | assumption))⟩
    · have hv : Hid (fitsB B At = false) := by show _ = _; unfold fitsB; rw [decide_eq_false (p := B ≤ 512) c2]; simp
      go_enter Tryd.func12, Tryd.ntmps12
      go_wp2
      go_ret
      rw [hv.out]
      exact ⟨rfl, (by repeat (first | with_reducible exact Below.refl _ _ | with_reducible refine bl_alloc ?_ _ | with_reducible refine bl_drew ?_ | with_reducible refine bl_drewN ?_ _ | with_reducible refine bl_bx ?_ _ | with_reducible exact BX.below _ | with_reducible refine bl_set ?_ (by first | (exact Nat.le_refl _) | (simp; done) | (simp; omega)) _ | assumption))⟩
  · have hv : Hid (fitsB B At = false) := by show _ = _; unfold fitsB; rw [decide_eq_false (p := 1 ≤ B) (by omega)]; simp
    go_enter Tryd.func12, Tryd.ntmps12
    go_wp2
    go_ret
    rw [hv.out]
    exact ⟨rfl, (by repeat (first | with_reducible exact Below.refl _ _ | with_reducible refine bl_alloc ?_ _ | with_reducible refine bl_drew ?_ | with_reducible refine bl_drewN ?_ _ | with_reducible refine bl_bx ?_ _ | with_reducible exact BX.below _ | with_reducible refine bl_set ?_ (by first | (exact Nat.le_refl _) | (simp; done) | (simp; omega)) _ | assumption))⟩

set_option maxRecDepth 100000 in
set_option maxHeartbeats 1000000 in
theorem refGet20 (w : World) (A : Option Addr) (m c : Nat) (ws : List Int) (hm : ws.length = m) (hR : Rd .u64 w A ws) (hf : FitsB ws) (n : Nat) (hn : n ≤ 64 * m) (hn2 : n ≤ 512) (i : Int) :
    Calls Tryd.prog 20 #[.slice A m c, .int .i64 n, .int .i64 i] w fun e w' => e = .returned (.bool (getB ws n i)) ∧ w = w' := by
  by_cases h0 : i ≥ 0
  · by_cases h1 : i < (n : Int)
    · obtain ⟨j, rfl⟩ := Int.eq_ofNat_of_zero_le h0
      have hk : j / 64 < ws.length := by omega
      have hkm : j / 64 < m := by omega
      obtain ⟨b, o, rfl, hb, hc⟩ := hR.at_ hk
      have hvr := hf _ (List.getElem_mem hk)
      have HG : Hid (getB ws n (j : Int) = (bits .and .u64 (ws[j / 64] / 2 ^ (j % 64)) 1 == 1)) := by
        show _ = _
        rw [get_bit _ hvr]
        unfold getB bitW
        rw [decide_eq_true h0, decide_eq_true h1, Int.toNat_natCast, List.getElem?_eq_getElem hk]
        rfl
      obtain ⟨v, hv⟩ : ∃ v, ws[j / 64] = v := ⟨_, rfl⟩
      rw [hv] at hc HG
      clear hv hvr hf hR
      go_enter Tryd.func20, Tryd.ntmps20
      go_wp2
      go_ret
      rw [HG.out]
      exact ⟨rfl, rfl⟩
    · have HG : Hid (getB ws n i = false) := by show _ = _; unfold getB; rw [decide_eq_false (p := i < (n : Int)) h1]; simp
      clear hf hR
      go_enter Tryd.func20, Tryd.ntmps20
      go_wp2
      go_ret
      rw [HG.out]
      exact ⟨rfl, rfl⟩
  · have HG : Hid (getB ws n i = false) := by show _ = _; unfold getB; rw [decide_eq_false (p := 0 ≤ i) (by omega)]; simp
    clear hf hR
    go_enter Tryd.func20, Tryd.ntmps20
    go_wp2
    go_ret
    rw [HG.out]
    exact ⟨rfl, rfl⟩
theorem getB_in {ws : List Int} {n k : Nat} (hk : k < n) : getB ws n (k : Int) = bitW ws k := by
  unfold getB
  rw [decide_eq_true (by omega), decide_eq_true (by omega), Int.toNat_natCast]; rfl
set_option maxRecDepth 100000 in
set_option maxHeartbeats 1000000 in
theorem refOnes20 (w : World) (A : Option Addr) (m c : Nat) (ws : List Int) (hm : ws.length = m) (hR : Rd .u64 w A ws) (hf : FitsB ws) (n : Nat) (hn : n ≤ 64 * m) (hn2 : n ≤ 512) :
    Calls Tryd.prog 22 #[.slice A m c, .int .i64 n] w fun e w' => e = .returned (.int .i64 (onesTo ws n : Nat)) ∧ w = w' := by
  have HG := Lib.hid (fun i => refGet20 w A m c ws hm hR hf n hn hn2 i)
  clear hR hf
  go_enter Tryd.func22, Tryd.ntmps22
  go_wp2
  go_loopw [6, 5, 7, 8, 9, 10, 11, 12, 13, 14, 15, 16, 17] (fun i s _ _ _ _ _ _ _ _ _ _ _ wr => ∃ k : Nat, k ≤ n ∧ i = .int .i64 k ∧ s = .int .i64 (onesTo ws k : Nat) ∧ w = wr) (fun i _ _ _ _ _ _ _ _ _ _ _ _ _ => n - (intOf i).toNat)
  case atStart => exact ⟨0, by omega, rfl, rfl, rfl⟩
  case round =>
    obtain ⟨k, hk, rfl, rfl, rfl⟩ := hrel
    by_cases hlt : k < n
    · have hlt' : (k : Int) < (n : Int) := by omega
      have HK := Lib.hid (HG.out (k : Int))
      rw [getB_in hlt] at HK
      have hst : onesTo ws (k + 1) = onesTo ws k + (if bitW ws k then 1 else 0) := rfl
      have hle := onesTo_le ws k
      obtain ⟨q, hq⟩ : ∃ q, onesTo ws k = q := ⟨_, rfl⟩
      rw [hq] at hst hle
      rw [hq]
      have HST := Lib.hid hst
      clear hst hq
      cases hb : bitW ws k with
      | true =>
        rw [hb] at HK HST
        clear hb
        go_wp2_with (go_at_call 20; refine HK.out.mono ?_; rintro e w' ⟨rfl, rfl⟩)
        exact ⟨⟨k + 1, by omega, by go_num, by rw [HST.out]; go_num, by first | rfl | trivial⟩, by simp [intOf]; omega⟩
      | false =>
        rw [hb] at HK HST
        clear hb
        go_wp2_with (go_at_call 20; refine HK.out.mono ?_; rintro e w' ⟨rfl, rfl⟩)
        exact ⟨⟨k + 1, by omega, by go_num, by rw [HST.out]; simp, by first | rfl | trivial⟩, by simp [intOf]; omega⟩
    · obtain rfl : k = n := by omega
      go_wp2
      go_ret
      exact ⟨rfl, rfl⟩
set_option maxRecDepth 100000 in
set_option maxHeartbeats 1000000 in
theorem refNext20 (w : World) (A : Option Addr) (m c : Nat) (ws : List Int) (hm : ws.length = m) (hR : Rd .u64 w A ws) (hf : FitsB ws) (n : Nat) (hn : n ≤ 64 * m) (hn2 : n ≤ 512) (i : Int) (hi : -9223372036854775808 ≤ i ∧ i < 9223372036854775808) (set : Bool) :
    Calls Tryd.prog 24 #[.slice A m c, .int .i64 n, .int .i64 i, .bool set] w fun e w' => e = .returned (.int .i64 (nextB ws n i set)) ∧ w = w' := by
  have HG := Lib.hid (fun i => refGet20 w A m c ws hm hR hf n hn hn2 i)
  obtain ⟨i1, i2⟩ := hi
  obtain ⟨f, hf0⟩ : ∃ f, i.toNat = f := ⟨_, rfl⟩
  have HFF := Lib.hid hf0
  have hcase : i < 0 ∧ f = 0 ∨ i = (f : Int) := by omega
  clear hR hf hf0
  go_enter Tryd.func24, Tryd.ntmps24
  go_upto_if 11 with (fail)
  go_cut [2] from 10 (fun s wx => s = .int .i64 (f : Int) ∧ wx = w)
  case first =>
    rcases hcase with ⟨h1, h2⟩ | h1
    · subst h2
      go_wp2
      go_meet
      case rel => exact ⟨rfl, rfl⟩
    · have h2 : ¬ i < 0 := by omega
      go_wp2
      go_meet
      case rel => exact ⟨by first | rfl | rw [h1], rfl⟩
  case rest =>
    obtain ⟨rfl, rfl⟩ := hcut
    go_wp2
    go_loopw [9, 8, 13, 14, 15, 16, 17, 18, 19, 20, 21, 22, 23, 24] (fun j _ _ _ _ _ _ _ _ _ _ _ _ _ wr => ∃ k : Nat, f ≤ k ∧ (k ≤ n ∨ k = f) ∧ j = .int .i64 k ∧ (∀ q, f ≤ q → q < k → (bitW ws q == set) = false) ∧ wc = wr) (fun j _ _ _ _ _ _ _ _ _ _ _ _ _ _ => n - (intOf j).toNat)
    case atStart => exact ⟨f, Nat.le_refl _, .inr rfl, rfl, fun q h1 h2 => by omega, rfl⟩
    case round =>
      obtain ⟨k, hfk, hk, rfl, hno, rfl⟩ := hrel
      have HNO := Lib.hid hno
      have hkr : (k : Int) < 9223372036854775808 := by omega
      clear hno
      by_cases hlt : (k : Int) < (n : Int)
      · have HK := Lib.hid (HG.out (k : Int))
        rw [getB_in (by omega)] at HK
        cases hb : (bitW ws k == set) with
        | true =>
          have HR : Hid (nextB ws n i set = (k : Int)) := by
            show _ = _
            exact nextB_some k (by rw [HFF.out]; exact hfk) (by omega) hb (by rw [HFF.out]; exact HNO.out)
          obtain ⟨bb, hbb⟩ : ∃ bb, bitW ws k = bb := ⟨_, rfl⟩
          rw [hbb] at HK hb
          clear hbb
          go_wp2_with (go_at_call 20; refine HK.out.mono ?_; rintro e w' ⟨rfl, rfl⟩)
          go_ret
          rw [HR.out]
          exact ⟨rfl, rfl⟩
        | false =>
          have HB := Lib.hid hb
          obtain ⟨bb, hbb⟩ : ∃ bb, bitW ws k = bb := ⟨_, rfl⟩
          rw [hbb] at HK hb
          clear hbb
          go_wp2_with (go_at_call 20; refine HK.out.mono ?_; rintro e w' ⟨rfl, rfl⟩)
          exact ⟨⟨k + 1, by omega, .inl (by omega), by go_num, fun q h1 h2 => by by_cases hq : q = k; rw [hq]; exact HB.out; exact HNO.out q h1 (by omega), by first | rfl | trivial⟩, by simp [intOf]; omega⟩
      · have HR : Hid (nextB ws n i set = -1) := by
          show _ = _
          exact nextB_none (by rw [HFF.out]; exact fun q h1 h2 => HNO.out q h1 (by omega))
        go_wp2
        go_ret
        rw [HR.out]
        exact ⟨rfl, rfl⟩
end Go.Proofs.YtbhkdngbgokilaaDoor
