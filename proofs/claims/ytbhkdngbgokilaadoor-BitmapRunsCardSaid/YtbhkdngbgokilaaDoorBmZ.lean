/- Contracts of the zero Map; Change on a device that reports an error. -/
import Derived.Test.YtbhkdngbgokilaaDoorBmK
namespace Go.Proofs.YtbhkdngbgokilaaDoor
open Go.RowKit
set_option linter.unusedVariables false

set_option maxRecDepth 100000 in
theorem bmWordsZ (w : World) : Calls Tryd.prog 39 #[zmv] w fun e w' => e = .returned (.int .i64 0) ∧ Below w.heap.size w w' := by
  unfold zmv
  go_enter Tryd.func39, Tryd.ntmps39
  go_wp2
  go_ret
  exact ⟨rfl, (by repeat (first | with_reducible exact Below.refl _ _ | with_reducible refine bl_alloc ?_ _ | with_reducible refine bl_drew ?_ | with_reducible refine bl_drewN ?_ _ | with_reducible refine bl_bx ?_ _ | with_reducible exact BX.below _ | with_reducible refine bl_set ?_ (by first | (exact Nat.le_refl _) | (simp; done) | (simp; omega)) _ | assumption))⟩
set_option maxRecDepth 100000 in
set_option maxHeartbeats 1000000 in
theorem bmOnesZ (w : World) : Calls Tryd.prog 21 #[zmv] w fun e w' => e = .returned (.int .i64 0) ∧ Below w.heap.size w w' := by
  have HW := Lib.hid (fun W => bmWordsZ W)
  unfold zmv at HW ⊢
  go_enter Tryd.func21, Tryd.ntmps21
  go_wp2_with (go_at_call 39; refine (HW.out _).mono ?_; rintro e w' ⟨rfl, hb⟩; obtain ⟨x, rfl⟩ := bx_of hb; clear hb)
  obtain ⟨W, hW⟩ : ∃ W, x.w = W := ⟨_, rfl⟩
  have hb : Below w.heap.size w W := by rw [← hW]; (repeat (first | with_reducible exact Below.refl _ _ | with_reducible refine bl_alloc ?_ _ | with_reducible refine bl_drew ?_ | with_reducible refine bl_drewN ?_ _ | with_reducible refine bl_bx ?_ _ | with_reducible exact BX.below _ | with_reducible refine bl_set ?_ (by first | (exact Nat.le_refl _) | (simp; done) | (simp; omega)) _ | assumption))
  rw [hW]
  have HB := Lib.hid hb
  clear hW hb
  go_loopw [7, 3, 4, 8, 9, 10, 11, 12, 13, 14, 15, 16, 17, 18, 19, 20, 21, 22, 23, 24, 25] (fun i s _ _ _ _ _ _ _ _ _ _ _ _ _ _ _ _ _ _ _ wr => i = .int .i64 0 ∧ s = .int .i64 0 ∧ wr = W) (fun i _ _ _ _ _ _ _ _ _ _ _ _ _ _ _ _ _ _ _ _ _ => 0)
  case atStart => exact ⟨rfl, rfl, rfl⟩
  case round =>
    obtain ⟨rfl, rfl, rfl⟩ := hrel
    go_wp2
    go_ret
    exact ⟨rfl, HB.out⟩
set_option maxRecDepth 100000 in
set_option maxHeartbeats 1000000 in
theorem bmGetZ (w : World) (i : Int) : Calls Tryd.prog 19 #[zmv, .int .i64 i] w fun e w' => e = .returned (.bool false) ∧ Below w.heap.size w w' := by
  unfold zmv
  by_cases h0 : i < 0
  · go_enter Tryd.func19, Tryd.ntmps19
    go_wp2
    go_ret
    exact ⟨rfl, (by repeat (first | with_reducible exact Below.refl _ _ | with_reducible refine bl_alloc ?_ _ | with_reducible refine bl_drew ?_ | with_reducible refine bl_drewN ?_ _ | with_reducible refine bl_bx ?_ _ | with_reducible exact BX.below _ | with_reducible refine bl_set ?_ (by first | (exact Nat.le_refl _) | (simp; done) | (simp; omega)) _ | assumption))⟩
  · have h1 : i ≥ 0 := by omega
    go_enter Tryd.func19, Tryd.ntmps19
    go_wp2
    go_ret
    exact ⟨rfl, (by repeat (first | with_reducible exact Below.refl _ _ | with_reducible refine bl_alloc ?_ _ | with_reducible refine bl_drew ?_ | with_reducible refine bl_drewN ?_ _ | with_reducible refine bl_bx ?_ _ | with_reducible exact BX.below _ | with_reducible refine bl_set ?_ (by first | (exact Nat.le_refl _) | (simp; done) | (simp; omega)) _ | assumption))⟩
set_option maxRecDepth 100000 in
set_option maxHeartbeats 1000000 in
theorem bmNextZ (w : World) (i : Int) (set : Bool) : Calls Tryd.prog 23 #[zmv, .int .i64 i, .bool set] w fun e w' => e = .returned (.int .i64 (-1)) ∧ Below w.heap.size w w' := by
  unfold zmv
  by_cases h0 : i < 0
  · go_enter Tryd.func23, Tryd.ntmps23
    go_wp2
    go_ret
    exact ⟨rfl, (by repeat (first | with_reducible exact Below.refl _ _ | with_reducible refine bl_alloc ?_ _ | with_reducible refine bl_drew ?_ | with_reducible refine bl_drewN ?_ _ | with_reducible refine bl_bx ?_ _ | with_reducible exact BX.below _ | with_reducible refine bl_set ?_ (by first | (exact Nat.le_refl _) | (simp; done) | (simp; omega)) _ | assumption))⟩
  · have h1 : i ≥ 0 := by omega
    go_enter Tryd.func23, Tryd.ntmps23
    go_wp2
    go_ret
    exact ⟨rfl, (by repeat (first | with_reducible exact Below.refl _ _ | with_reducible refine bl_alloc ?_ _ | with_reducible refine bl_drew ?_ | with_reducible refine bl_drewN ?_ _ | with_reducible refine bl_bx ?_ _ | with_reducible exact BX.below _ | with_reducible refine bl_set ?_ (by first | (exact Nat.le_refl _) | (simp; done) | (simp; omega)) _ | assumption))⟩
/-- The notes of a Change of the zero Map, of one index. -/
theorem bmNoteZ (w : World) (A : Addr) (c : Nat) (i : Int) (hR : Rd .i64 w (some A) [i]) (gb gon goff : Nat) (hbx : CB w gb 36 #[.nilIface, .int .u64 0, .int .i64 0]) :
    Calls Tryd.prog 38 #[.slice (some A) 1 c, .pointer (some ⟨gon, 0, none⟩), .pointer (some ⟨gb, 0, none⟩), .pointer (some ⟨gon, 0, none⟩), .pointer (some ⟨goff, 0, none⟩)] w fun e w' =>
      e = .returned (.bool false) ∧ Below w.heap.size w w' := by
  obtain ⟨b1, o1, hA1, hb1, hc1⟩ := hR.at_ (i := 0) (by simp)
  injection hA1 with hA1
  subst hA1
  have hc1 : w.cell? ⟨b1, o1 + 0, none⟩ = some (.int .i64 i) := hc1
  rw [Nat.add_zero] at hc1
  have cb2 := hbx.cell 2
  have cbl := hbx.lt
  clear hR hbx
  go_enter Tryd.func38, Tryd.ntmps38
  go_wp2
  go_loopw [14, 7, 9, 10, 11, 15, 16, 17, 18, 19, 20, 21, 22, 23, 24, 25, 26, 27, 28, 29, 30, 31, 32, 33, 34, 35, 36, 37, 38, 39, 40, 41, 42, 43, 44, 45, 46, 47, 48, 49, 50, 51] (fun i _ _ _ _ _ _ _ _ _ _ _ _ _ _ _ _ _ _ _ _ _ _ _ _ _ _ _ _ _ _ _ _ _ _ _ _ _ _ _ _ _ wr => i = .int .i64 0 ∧ wr = w) (fun i _ _ _ _ _ _ _ _ _ _ _ _ _ _ _ _ _ _ _ _ _ _ _ _ _ _ _ _ _ _ _ _ _ _ _ _ _ _ _ _ _ _ => 0)
  case atStart => exact ⟨rfl, rfl⟩
  case round =>
    obtain ⟨rfl, rfl⟩ := hrel
    by_cases h0 : i < 0
    · go_wp2
      go_ret
      exact ⟨rfl, (by repeat (first | with_reducible exact Below.refl _ _ | with_reducible refine bl_alloc ?_ _ | with_reducible refine bl_drew ?_ | with_reducible refine bl_drewN ?_ _ | with_reducible refine bl_bx ?_ _ | with_reducible exact BX.below _ | with_reducible refine bl_set ?_ (by first | (exact Nat.le_refl _) | (simp; done) | (simp; omega)) _ | assumption))⟩
    · have h1 : i ≥ 0 := by omega
      go_wp2
      go_ret
      exact ⟨rfl, (by repeat (first | with_reducible exact Below.refl _ _ | with_reducible refine bl_alloc ?_ _ | with_reducible refine bl_drew ?_ | with_reducible refine bl_drewN ?_ _ | with_reducible refine bl_bx ?_ _ | with_reducible exact BX.below _ | with_reducible refine bl_set ?_ (by first | (exact Nat.le_refl _) | (simp; done) | (simp; omega)) _ | assumption))⟩
set_option maxRecDepth 100000 in
set_option maxHeartbeats 2000000 in
theorem bmChangeZ (w : World) (A : Addr) (c : Nat) (i : Int) (hR : Rd .i64 w (some A) [i]) :
    Calls Tryd.prog 15 #[zmv, .slice (some A) 1 c, .slice none 0 0] w fun e w' => e = .returned (.tuple #[.slice none 0 0, .int .i64 1]) ∧ Below w.heap.size w w' := by
  have HW0 : Hid (∃ W, ((w.alloc (.cells #[.nilIface, .int .u64 0, .int .i64 0] 36)).alloc (.cells #[.int .u64 0, .int .u64 0, .int .u64 0, .int .u64 0, .int .u64 0, .int .u64 0, .int .u64 0, .int .u64 0] 79)).alloc (.cells #[.int .u64 0, .int .u64 0, .int .u64 0, .int .u64 0, .int .u64 0, .int .u64 0, .int .u64 0, .int .u64 0] 79) = W ∧ CB W w.heap.size 36 #[.nilIface, .int .u64 0, .int .i64 0] ∧ Below w.heap.size w W) := ⟨_, rfl, ((CB.new _ _ _).alloc _).alloc _, (by repeat (first | with_reducible exact Below.refl _ _ | with_reducible refine bl_alloc ?_ _ | with_reducible refine bl_drew ?_ | with_reducible refine bl_drewN ?_ _ | with_reducible refine bl_bx ?_ _ | with_reducible exact BX.below _ | with_reducible refine bl_set ?_ (by first | (exact Nat.le_refl _) | (simp; done) | (simp; omega)) _ | assumption))⟩
  have HR := Lib.hid hR
  clear hR
  unfold zmv
  go_enter Tryd.func15, Tryd.ntmps15
  go_upto_region 3 with (fail)
  obtain ⟨W, hW, hc, hb⟩ := HW0.out
  rw [hW]
  have HN := Lib.hid (bmNoteZ W A c i (HR.out.below hb) w.heap.size (w.heap.size + 1) (w.heap.size + 1 + 1) hc)
  have HB := Lib.hid hb
  clear hW hc hb HW0
  go_wp2_with (go_at_call 38; refine HN.out.mono ?_; rintro e w1 ⟨rfl, hb⟩; obtain ⟨x, rfl⟩ := bx_of hb; clear hb)
  go_ret2
  exact ⟨rfl, HB.out.trans (x.below.mono HB.out.size)⟩
set_option maxRecDepth 100000 in
set_option maxHeartbeats 4000000 in
/-- Change, when the memory reports an error. -/
theorem bmChange_err (w : World) (T : Nat) (off : Int) (n : Nat) (hn : n ≤ 512) (er : Int) (her : er ≠ 0) (hE : ∀ W, Below w.heap.size w W → Calls Tryd.prog 17 #[.pointer (some ⟨T, 0, none⟩)] W fun e w' => e = .returned (.int .i64 er) ∧ W = w')
    (A1 : Option Addr) (n1 c1 : Nat) (l1 : List Int) (hl1 : l1.length = n1) (hn1 : n1 ≤ 9223372036854775807) (hR1 : Rd .i64 w A1 l1) (A2 : Option Addr) (n2 c2 : Nat) (l2 : List Int) (hl2 : l2.length = n2) (hn2 : n2 ≤ 9223372036854775807) (hR2 : Rd .i64 w A2 l2)
    (hok1 : okL n [] l1 = true) (hok2 : okL n (l1.map Int.toNat) l2 = true) :
    Calls Tryd.prog 15 #[bmv T off n, .slice A1 n1 c1, .slice A2 n2 c2] w fun e w' => e = .returned (.tuple #[.slice none 0 0, .int .i64 er]) ∧ Below w.heap.size w w' := by
  have HN1 := Lib.hid (chNote1 w A1 n1 c1 l1 hl1 hn1 hR1 T off n hn)
  have HN2 := Lib.hid (chNote2 w A2 n2 c2 l2 hl2 hn2 hR2 T off n hn)
  have HB0 := Lib.hid (chW0_below w T off n)
  have HE := Lib.hid hE
  have HW0 : Hid (chW0 w T off n = ((w.alloc (.cells #[.iface 28 (.pointer (some ⟨T, 0, none⟩)), .int .u64 off, .int .i64 n] 36)).alloc (.cells #[.int .u64 0, .int .u64 0, .int .u64 0, .int .u64 0, .int .u64 0, .int .u64 0, .int .u64 0, .int .u64 0] 79)).alloc (.cells #[.int .u64 0, .int .u64 0, .int .u64 0, .int .u64 0, .int .u64 0, .int .u64 0, .int .u64 0, .int .u64 0] 79)) := rfl
  have HBX : Hid (CB (chW0 w T off n) w.heap.size 36 #[.iface 28 (.pointer (some ⟨T, 0, none⟩)), .int .u64 off, .int .i64 n]) := ((CB.new _ _ _).alloc _).alloc _
  rw [hok1] at HN1
  have her' : (er != 0) = true := by simpa using her
  clear hR1 hR2 hE hok1
  unfold bmv
  go_enter Tryd.func15, Tryd.ntmps15
  go_upto_region 3 with (fail)
  rw [← HW0.out]
  obtain ⟨W, hW⟩ : ∃ W, chW0 w T off n = W := ⟨_, rfl⟩
  rw [hW] at HN1 HN2 HB0 HBX
  rw [hW]
  clear hW HW0
  go_upto_region 5 with (first
    | (go_at_call 38; refine HN1.out.mono ?_; rintro e w1 ⟨rfl, hI1, hC1⟩; have HC1 := Lib.hid hC1; have HN3 := Lib.hid (HN2.out w1 _ (hI1 (by trivial))); rw [hok2] at HN3; clear hC1 hI1 HN1 HN2)
    | (go_at_call 38; refine HN3.out.mono ?_; rintro e w2 ⟨rfl, hI2, hC2⟩; have HC2 := Lib.hid hC2; clear hC2 hI2 HN3))
  have hbx2 := (HBX.out.ch HC1.out (fun h => by have : w.heap.size = w.heap.size + 1 := h; omega)).ch HC2.out (fun h => by have : w.heap.size = w.heap.size + 1 + 1 := h; omega)
  have hb1 := HB0.out.trans (HC1.out.to_below HB0.out.size (fun b hb => by rw [show b = w.heap.size + 1 from hb]; omega))
  have hb2 := hb1.trans (HC2.out.to_below hb1.size (fun b hb => by rw [show b = w.heap.size + 1 + 1 from hb]; omega))
  have HB2 := Lib.hid hb2
  have b0 := hbx2.cell 0
  have bl := hbx2.lt
  have HER2 := Lib.hid (HE.out w2 hb2)
  clear hbx2 hb1 hb2
  go_wp2_with (go_at_call 17; refine HER2.out.mono ?_; rintro e w' ⟨rfl, rfl⟩)
  go_ret2
  exact ⟨rfl, HB2.out⟩
set_option maxRecDepth 100000 in
theorem bmRuns (w : World) (v : Value) (off n : Int) : Calls Tryd.prog 27 #[.agg #[v, .int .u64 off, .int .i64 n]] w fun e w' => e = .returned (.func (.func 47) #[] #[.pointer (some ⟨w.heap.size, 0, none⟩)]) ∧ w' = w.alloc (.cells #[v, .int .u64 off, .int .i64 n] 36) := by
  go_enter Tryd.func27, Tryd.ntmps27
  go_wp2
  go_ret
  exact ⟨rfl, rfl⟩
end Go.Proofs.YtbhkdngbgokilaaDoor
