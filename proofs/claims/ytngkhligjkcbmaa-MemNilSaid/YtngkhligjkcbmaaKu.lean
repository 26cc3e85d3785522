/- The law MemNil. -/
import Derived.Test.YtngkhligjkcbmaaKv
import Derived.Test.YtngkhligjkcbmaaKq
namespace Go.Proofs.Ytngkhligjkcbmaa
open Go.RowKit
set_option linter.unusedVariables false

set_option maxHeartbeats 400000 in
theorem nStore (w : World) (x y : Int) : Calls Try.prog 24 #[.pointer none, .int .u64 x, .int .u64 y] w fun e w' => e = .returned (.tuple #[]) ∧ w = w' := by
  go_enter Try.func24, Try.ntmps24
  go_wp2
  exact bodyPost_ret (v := .tuple #[]) (by simp [results, Try.results24, go_sem]) rfl ⟨rfl, rfl⟩
set_option maxHeartbeats 400000 in
theorem nMStore (w : World) (x y : Int) : Calls Try.prog 36 #[.pointer none, .int .u64 x, .int .u64 y] w fun e w' => e = .returned (.tuple #[]) ∧ w = w' := by
  go_enter Try.func36, Try.ntmps36
  go_wp2
  exact bodyPost_ret (v := .tuple #[]) (by simp [results, Try.results36, go_sem]) rfl ⟨rfl, rfl⟩
set_option maxHeartbeats 400000 in
theorem nLoad (w : World) (x : Int) : Calls Try.prog 40 #[.pointer none, .int .u64 x] w fun e w' => e = .returned (.int .u64 0) ∧ w = w' := by
  go_enter Try.func40, Try.ntmps40
  go_wp2
  go_ret
  exact ⟨rfl, rfl⟩
set_option maxHeartbeats 400000 in
theorem nWrites (w : World) (x : Int) : Calls Try.prog 45 #[.pointer none] w fun e w' => e = .returned (.slice none 0 0) ∧ w = w' := by
  go_enter Try.func45, Try.ntmps45
  go_wp2
  go_ret
  exact ⟨rfl, rfl⟩
set_option maxHeartbeats 400000 in
theorem nRoll (w : World) (x : Int) : Calls Try.prog 27 #[.pointer none, .int .i64 x] w fun e w' => e = .returned (.int .i64 1) ∧ w = w' := by
  go_enter Try.func27, Try.ntmps27
  go_wp2
  go_ret
  exact ⟨rfl, rfl⟩
set_option maxHeartbeats 400000 in
theorem nErr (w : World) (x : Int) : Calls Try.prog 41 #[.pointer none] w fun e w' => e = .returned (.int .i64 1) ∧ w = w' := by
  go_enter Try.func41, Try.ntmps41
  go_wp2
  go_ret
  exact ⟨rfl, rfl⟩
set_option maxHeartbeats 400000 in
theorem nSize (w : World) (x : Int) : Calls Try.prog 33 #[.pointer none] w fun e w' => e = .returned (.int .u64 0) ∧ w = w' := by
  go_enter Try.func33, Try.ntmps33
  go_wp2
  go_ret
  exact ⟨rfl, rfl⟩
set_option maxHeartbeats 400000 in
theorem nSStep (w : World) (x : Int) : Calls Try.prog 38 #[.pointer none] w fun e w' => e = .returned (.bool true) ∧ w = w' := by
  go_enter Try.func38, Try.ntmps38
  go_wp2
  go_ret
  exact ⟨rfl, rfl⟩
set_option maxHeartbeats 400000 in
theorem nLeft (w : World) (x : Int) : Calls Try.prog 46 #[.pointer none] w fun e w' => e = .returned (.int .i64 0) ∧ w = w' := by
  go_enter Try.func46, Try.ntmps46
  go_wp2
  go_ret
  exact ⟨rfl, rfl⟩
set_option maxHeartbeats 400000 in
theorem nSErr (w : World) (x : Int) : Calls Try.prog 39 #[.pointer none] w fun e w' => e = .returned (.int .i64 1) ∧ w = w' := by
  go_enter Try.func39, Try.ntmps39
  go_wp2
  go_ret
  exact ⟨rfl, rfl⟩
set_option maxHeartbeats 400000 in
theorem nLoads (w : World) (x : Int) : Calls Try.prog 47 #[.pointer none] w fun e w' => e = .returned (.int .i64 0) ∧ w = w' := by
  go_enter Try.func47, Try.ntmps47
  go_wp2
  go_ret
  exact ⟨rfl, rfl⟩
set_option maxHeartbeats 400000 in
theorem nStores (w : World) (x : Int) : Calls Try.prog 48 #[.pointer none] w fun e w' => e = .returned (.int .i64 0) ∧ w = w' := by
  go_enter Try.func48, Try.ntmps48
  go_wp2
  go_ret
  exact ⟨rfl, rfl⟩
set_option maxHeartbeats 400000 in
theorem nMErr (w : World) (x : Int) : Calls Try.prog 43 #[.pointer none] w fun e w' => e = .returned (.int .i64 1) ∧ w = w' := by
  go_enter Try.func43, Try.ntmps43
  go_wp2
  go_ret
  exact ⟨rfl, rfl⟩
set_option maxHeartbeats 400000 in
theorem bStore (w : World) (o : Nat) (x y : Int) (h0 : w.cell? ⟨o, 0, none⟩ = some .nilIface) (hl : o < w.heap.size) : Calls Try.prog 24 #[.pointer (some ⟨o, 0, none⟩), .int .u64 x, .int .u64 y] w fun e w' => e = .returned (.tuple #[]) ∧ w = w' := by
  go_enter Try.func24, Try.ntmps24
  go_wp2
  exact bodyPost_ret (v := .tuple #[]) (by simp [results, Try.results24, go_sem]) rfl ⟨rfl, rfl⟩
set_option maxHeartbeats 400000 in
theorem bMStore (w : World) (o : Nat) (x y : Int) (h0 : w.cell? ⟨o, 0, none⟩ = some .nilIface) (hl : o < w.heap.size) : Calls Try.prog 36 #[.pointer (some ⟨o, 0, none⟩), .int .u64 x, .int .u64 y] w fun e w' => e = .returned (.tuple #[]) ∧ w = w' := by
  go_enter Try.func36, Try.ntmps36
  go_wp2
  exact bodyPost_ret (v := .tuple #[]) (by simp [results, Try.results36, go_sem]) rfl ⟨rfl, rfl⟩
set_option maxHeartbeats 400000 in
theorem bLoad (w : World) (o : Nat) (x : Int) (h0 : w.cell? ⟨o, 0, none⟩ = some .nilIface) (hl : o < w.heap.size) : Calls Try.prog 40 #[.pointer (some ⟨o, 0, none⟩), .int .u64 x] w fun e w' => e = .returned (.int .u64 0) ∧ w = w' := by
  go_enter Try.func40, Try.ntmps40
  go_wp2
  go_ret
  exact ⟨rfl, rfl⟩
set_option maxHeartbeats 400000 in
theorem bErr (w : World) (o : Nat) (x : Int) (h0 : w.cell? ⟨o, 0, none⟩ = some .nilIface) (hl : o < w.heap.size) : Calls Try.prog 41 #[.pointer (some ⟨o, 0, none⟩)] w fun e w' => e = .returned (.int .i64 1) ∧ w = w' := by
  go_enter Try.func41, Try.ntmps41
  go_wp2
  go_ret
  exact ⟨rfl, rfl⟩
set_option maxHeartbeats 400000 in
theorem bSize (w : World) (o : Nat) (x : Int) (h0 : w.cell? ⟨o, 0, none⟩ = some .nilIface) (hl : o < w.heap.size) : Calls Try.prog 33 #[.pointer (some ⟨o, 0, none⟩)] w fun e w' => e = .returned (.int .u64 0) ∧ w = w' := by
  go_enter Try.func33, Try.ntmps33
  go_wp2
  go_ret
  exact ⟨rfl, rfl⟩
set_option maxHeartbeats 400000 in
theorem bMLoad (w : World) (o : Nat) (x : Int) (h0 : w.cell? ⟨o, 0, none⟩ = some .nilIface) (hl : o < w.heap.size) : Calls Try.prog 42 #[.pointer (some ⟨o, 0, none⟩), .int .u64 x] w fun e w' => e = .returned (.int .u64 0) ∧ w = w' := by
  go_enter Try.func42, Try.ntmps42
  go_wp2
  go_ret
  exact ⟨rfl, rfl⟩
set_option maxHeartbeats 400000 in
theorem bMErr (w : World) (o : Nat) (x : Int) (h0 : w.cell? ⟨o, 0, none⟩ = some .nilIface) (hl : o < w.heap.size) : Calls Try.prog 43 #[.pointer (some ⟨o, 0, none⟩)] w fun e w' => e = .returned (.int .i64 1) ∧ w = w' := by
  go_enter Try.func43, Try.ntmps43
  go_wp2
  go_ret
  exact ⟨rfl, rfl⟩
set_option maxHeartbeats 400000 in
theorem bMSize (w : World) (o : Nat) (x : Int) (h0 : w.cell? ⟨o, 0, none⟩ = some .nilIface) (hl : o < w.heap.size) : Calls Try.prog 44 #[.pointer (some ⟨o, 0, none⟩)] w fun e w' => e = .returned (.int .u64 0) ∧ w = w' := by
  go_enter Try.func44, Try.ntmps44
  go_wp2
  go_ret
  exact ⟨rfl, rfl⟩
set_option maxHeartbeats 400000 in
theorem bSErr (w : World) (o : Nat) (x : Int) (h0 : w.cell? ⟨o, 0, none⟩ = some .nilIface) (hl : o < w.heap.size) : Calls Try.prog 39 #[.pointer (some ⟨o, 0, none⟩)] w fun e w' => e = .returned (.int .i64 1) ∧ w = w' := by
  go_enter Try.func39, Try.ntmps39
  go_wp2
  go_ret
  exact ⟨rfl, rfl⟩
set_option maxHeartbeats 400000 in
theorem bSStep (w : World) (o : Nat) (h1 : w.cell? ⟨o, 1, none⟩ = some (.slice none 0 0)) (hl : o < w.heap.size) : Calls Try.prog 38 #[.pointer (some ⟨o, 0, none⟩)] w fun e w' => e = .returned (.bool true) ∧ w = w' := by
  go_enter Try.func38, Try.ntmps38
  go_wp2
  go_ret
  exact ⟨rfl, rfl⟩
set_option maxHeartbeats 400000 in
theorem runNil (w : World) (A : Option Addr) (n c : Nat) : Calls Try.prog 37 #[.slice A n c, .nilIface] w fun e w' => e = .returned (.int .i64 1) ∧ w = w' := by
  go_enter Try.func37, Try.ntmps37
  go_wp2
  go_ret
  exact ⟨rfl, rfl⟩
set_option maxHeartbeats 400000 in
theorem stepNil (w : World) (A : Option Addr) (n c : Nat) : Calls Try.prog 34 #[.nilIface, .slice A n c] w fun e w' => ∃ s, e = .returned (.pointer (some ⟨s, 0, none⟩)) ∧ CB w' s 128 #[.nilIface, .slice none 0 0] ∧ Below w.heap.size w w' := by
  go_enter Try.func34, Try.ntmps34
  go_wp2
  go_ret
  exact ⟨_, rfl, CB.new _ _ _, (by repeat (first | with_reducible exact Below.refl _ _ | with_reducible refine bl_alloc ?_ _ | with_reducible refine bl_drew ?_ | with_reducible refine bl_drewN ?_ _ | with_reducible refine bl_bx ?_ _ | with_reducible exact BX.below _ | with_reducible refine bl_set ?_ (by first | (exact Nat.le_refl _) | (simp; done) | (simp; omega)) _ | assumption))⟩
set_option maxHeartbeats 400000 in
theorem countNil (w : World) : Calls Try.prog 35 #[.nilIface] w fun e w' => ∃ s, e = .returned (.pointer (some ⟨s, 0, none⟩)) ∧ CB w' s 130 #[.nilIface, .int .i64 0, .int .i64 0, .int .i64 0, .int .i64 0] ∧ Below w.heap.size w w' := by
  go_enter Try.func35, Try.ntmps35
  go_wp2
  go_ret
  exact ⟨_, rfl, CB.new _ _ _, (by repeat (first | with_reducible exact Below.refl _ _ | with_reducible refine bl_alloc ?_ _ | with_reducible refine bl_drew ?_ | with_reducible refine bl_drewN ?_ _ | with_reducible refine bl_bx ?_ _ | with_reducible exact BX.below _ | with_reducible refine bl_set ?_ (by first | (exact Nat.le_refl _) | (simp; done) | (simp; omega)) _ | assumption))⟩

set_option maxRecDepth 100000 in
set_option maxHeartbeats 8000000 in
theorem law_MemNil (w : World) (A0 : Option Addr) (n0 c0 : Nat) (z0 : List (Int × Int × Int)) (hz0 : IsTrips w A0 n0 c0 z0) (x y : Int) :
    Calls Try.prog 5 #[.slice A0 n0 c0, .int .u64 x, .int .u64 y] w fun e w' => e = .returned (.bool true) ∧ Below w.heap.size w w' := by
  have HAW := Lib.hid (awake10_ok w)
  have HP0 := Lib.hid (fun W (hW : Below w.heap.size w W) => program10_ok W A0 n0 c0 z0 (hz0.bx hW))
  clear hz0
  go_enter Try.func5, Try.ntmps5
  go_upto_region 8 with (first
    | (go_at_call 11; refine HAW.out.mono ?_; rintro e w1 ⟨rfl, hb⟩; have HB1 := Lib.hid hb; clear hb)
    | (go_at_call 12; refine (HP0.out w1 HB1.out).mono ?_; rintro e w2 ⟨P0, k0, rfl, hS, hb, hO⟩; have HB2 := Lib.hid (HB1.out.trans (hb.mono HB1.out.size)); clear hS hb hO)
    | (go_at_call 34; refine (stepNil _ _ _ _).mono ?_; rintro e w3 ⟨s, rfl, hC, hb⟩; have HC3 := Lib.hid hC; have HB3 := Lib.hid (HB2.out.trans (hb.mono HB2.out.size)); clear hC hb)
    | (go_at_call 21; refine (ovOverN _).mono ?_; rintro e w4 ⟨o, rfl, hO, hb⟩; have HO4 := Lib.hid hO.base; have HC4 := Lib.hid (HC3.out.below hb); have HB4 := Lib.hid (HB3.out.trans (hb.mono HB3.out.size)); clear hO hb)
    | (go_at_call 35; refine (countNil _).mono ?_; rintro e w5 ⟨c, rfl, hC, hb⟩; have o0 : w5.cell? ⟨o, 0, none⟩ = some .nilIface := (hb.cell (p := ⟨o, 0, none⟩) HO4.out.2).trans HO4.out.1; have o1 : o < w5.heap.size := Nat.lt_of_lt_of_le HO4.out.2 hb.size; have s0 : w5.cell? ⟨s, 0, none⟩ = some .nilIface := (HC4.out.below hb).cell_some rfl; have s1 : w5.cell? ⟨s, 1, none⟩ = some (.slice none 0 0) := (HC4.out.below hb).cell_some rfl; have s2 : s < w5.heap.size := (HC4.out.below hb).lt; have m0 : w5.cell? ⟨c, 0, none⟩ = some .nilIface := hC.cell_some rfl; have m1 : c < w5.heap.size := hC.lt; have HB5 := Lib.hid (HB4.out.trans (hb.mono HB4.out.size)); clear hC hb)
    | (go_at_call 24; refine (bStore _ _ _ _ o0 o1).mono ?_; rintro e w' ⟨rfl, rfl⟩)
    | (go_at_call 36; refine (bMStore _ _ _ _ m0 m1).mono ?_; rintro e w' ⟨rfl, rfl⟩))
  go_upto_region 13 with (first
    | (go_at_call 37; refine (runNil _ _ _ _).mono ?_; rintro e w' ⟨rfl, rfl⟩)
    | (go_at_call 38; refine (bSStep _ _ s1 s2).mono ?_; rintro e w' ⟨rfl, rfl⟩)
    | (go_at_call 39; refine (bSErr _ _ 0 s0 s2).mono ?_; rintro e w' ⟨rfl, rfl⟩)
    | (go_at_call 40; refine (bLoad _ _ _ o0 o1).mono ?_; rintro e w' ⟨rfl, rfl⟩)
    | (go_at_call 41; refine (bErr _ _ 0 o0 o1).mono ?_; rintro e w' ⟨rfl, rfl⟩)
    | (go_at_call 42; refine (bMLoad _ _ _ m0 m1).mono ?_; rintro e w' ⟨rfl, rfl⟩)
    | (go_at_call 43; refine (bMErr _ _ 0 m0 m1).mono ?_; rintro e w' ⟨rfl, rfl⟩)
    | (go_at_call 33; refine (bSize _ _ 0 o0 o1).mono ?_; rintro e w' ⟨rfl, rfl⟩)
    | (go_at_call 44; refine (bMSize _ _ 0 m0 m1).mono ?_; rintro e w' ⟨rfl, rfl⟩))
  go_wp2_with (first
    | (go_at_call 24; refine (nStore _ _ _).mono ?_; rintro e w' ⟨rfl, rfl⟩)
    | (go_at_call 36; refine (nMStore _ _ _).mono ?_; rintro e w' ⟨rfl, rfl⟩)
    | (go_at_call 40; refine (nLoad _ _).mono ?_; rintro e w' ⟨rfl, rfl⟩)
    | (go_at_call 45; refine (nWrites _ 0).mono ?_; rintro e w' ⟨rfl, rfl⟩)
    | (go_at_call 27; refine (nRoll _ _).mono ?_; rintro e w' ⟨rfl, rfl⟩)
    | (go_at_call 41; refine (nErr _ 0).mono ?_; rintro e w' ⟨rfl, rfl⟩)
    | (go_at_call 33; refine (nSize _ 0).mono ?_; rintro e w' ⟨rfl, rfl⟩)
    | (go_at_call 38; refine (nSStep _ 0).mono ?_; rintro e w' ⟨rfl, rfl⟩)
    | (go_at_call 46; refine (nLeft _ 0).mono ?_; rintro e w' ⟨rfl, rfl⟩)
    | (go_at_call 39; refine (nSErr _ 0).mono ?_; rintro e w' ⟨rfl, rfl⟩)
    | (go_at_call 47; refine (nLoads _ 0).mono ?_; rintro e w' ⟨rfl, rfl⟩)
    | (go_at_call 48; refine (nStores _ 0).mono ?_; rintro e w' ⟨rfl, rfl⟩)
    | (go_at_call 43; refine (nMErr _ 0).mono ?_; rintro e w' ⟨rfl, rfl⟩))
  go_ret
  exact ⟨rfl, HB5.out⟩
end Go.Proofs.Ytngkhligjkcbmaa
