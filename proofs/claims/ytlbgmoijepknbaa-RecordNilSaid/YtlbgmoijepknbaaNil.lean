/- The walk of RecordNil. -/
import Derived.Test.YtlbgmoijepknbaaNilB
import Derived.Test.YtlbgmoijepknbaaAwake
import Derived.Test.YtlbgmoijepknbaaPerm
import Derived.Deep.Cut
namespace Go.Proofs.Ytlbgmoijepknbaa
open Go.RowKit
set_option linter.unusedVariables false

/-- The law's variables. -/
structure NilVars (B : Nat) (n : Int) (w : World) : Prop where
  lt : B + 1 + 1 + 1 < w.heap.size
  p0 : w.cell? ⟨B, 0, none⟩ = some (.iface 78 (.agg #[]))
  p1 : w.cell? ⟨B, 1, none⟩ = some .nilIface
  q0 : w.cell? ⟨B + 1, 0, none⟩ = some .nilIface
  q1 : w.cell? ⟨B + 1, 1, none⟩ = some (.iface 78 (.agg #[]))
  a0 : w.cell? ⟨B + 1 + 1, 0, none⟩ = some (.int .i64 n)
  a1 : w.cell? ⟨B + 1 + 1, 1, none⟩ = some .nilIface
  o0 : w.cell? ⟨B + 1 + 1 + 1, 0, none⟩ = some .nilIface
theorem NilVars.below {B : Nat} {n : Int} {w w' : World} (h : NilVars B n w) (hb : Below w.heap.size w w') : NilVars B n w' := by
  have hl := h.lt
  have hk : ∀ b o, b ≤ B + 1 + 1 + 1 → w'.cell? ⟨b, o, none⟩ = w.cell? ⟨b, o, none⟩ := fun b o hlt => hb.cell (p := ⟨b, o, none⟩) (by show b < _; omega)
  exact ⟨Nat.lt_of_lt_of_le hl hb.size, (hk _ _ (by omega)).trans h.p0, (hk _ _ (by omega)).trans h.p1, (hk _ _ (by omega)).trans h.q0, (hk _ _ (by omega)).trans h.q1, (hk _ _ (by omega)).trans h.a0, (hk _ _ (by omega)).trans h.a1, (hk _ _ (by omega)).trans h.o0⟩

set_option maxRecDepth 100000 in
set_option maxHeartbeats 4000000 in
theorem law_RecordNil (w : World) (off n : Int) (hn : -9223372036854775808 ≤ n ∧ n < 9223372036854775808) :
    Calls Try.prog 10 #[.int .u64 off, .int .i64 n] w fun e w' => e = .returned (.bool true) ∧ Below w.heap.size w w' := by
  go_enter Try.func10, Try.ntmps10
  go_upto_region 12 with (first
    | (go_at_call 12; refine (awake_any _).mono ?_; rintro e w' ⟨rfl, hb⟩; obtain ⟨x, rfl⟩ := bx_of hb; clear hb)
    | (go_at_call 50; refine (devNew _ 2 (by omega) (by omega)).mono ?_; rintro e w' ⟨d, L, rfl, hD, hb, hF⟩; obtain ⟨y, rfl⟩ := bx_of hb; have HD := Lib.hid hD; clear hb hD hF)
    | (go_at_call 51; with_reducible refine (readU_nomem _ _ _ 1 (sizeU_uint _)).mono ?_; rintro e w' ⟨rfl, hb⟩; obtain ⟨z, rfl⟩ := bx_of hb; clear hb)
    | (go_at_call 51; with_reducible refine (readU_nil _ _ _ _).mono ?_; rintro e w' ⟨rfl, rfl⟩)
    | (go_at_call 52; refine (devThread _ d L _ (HD.out.below (by (repeat (first | with_reducible exact Below.refl _ _ | with_reducible refine bl_alloc ?_ _ | with_reducible refine bl_drew ?_ | with_reducible refine bl_drewN ?_ _ | with_reducible refine bl_bx ?_ _ | with_reducible exact BX.below _ | with_reducible refine bl_set ?_ (by first | (exact Nat.le_refl _) | (simp; done) | (simp; omega)) _ | assumption)))) 0 (by omega)).mono ?_; rintro e w' ⟨rfl, rfl⟩))
  have hS0 : y.w.heap.size + 3 < z.w.heap.size := z.lt_size (by simp)
  have b0 : y.w.heap.size < z.w.heap.size := by omega
  have b1 : y.w.heap.size + 1 < z.w.heap.size := by omega
  have b2 : y.w.heap.size + 1 + 1 < z.w.heap.size := by omega
  have b3 : y.w.heap.size + 1 + 1 + 1 < z.w.heap.size := by omega
  go_cut [15, 16] from 57 (fun _ s wx => s = .int .i64 1 ∧ Below z.w.heap.size z.w wx)
  case first =>
    have c0 : z.w.cell? ⟨y.w.heap.size, 0, none⟩ = some (.iface 78 (.agg #[])) := by go_simp
    have c1 : z.w.cell? ⟨y.w.heap.size, 1, none⟩ = some .nilIface := by go_simp
    go_region_held3 (fun w' => w'.cell? ⟨y.w.heap.size, 0, none⟩ = some (.iface 78 (.agg #[])) ∧ w'.cell? ⟨y.w.heap.size, 1, none⟩ = some .nilIface ∧ y.w.heap.size < w'.heap.size ∧ Below z.w.heap.size z.w w')
      ((refine ⟨?_, ?_, ?_, ?_⟩ <;> first | ((repeat (first | with_reducible exact Below.refl _ _ | with_reducible refine bl_alloc ?_ _ | with_reducible refine bl_drew ?_ | with_reducible refine bl_drewN ?_ _ | with_reducible refine bl_bx ?_ _ | with_reducible exact BX.below _ | with_reducible refine bl_set ?_ (by first | (exact Nat.le_refl _) | (simp; done) | (simp; omega)) _ | assumption)); done) | (go_simp; done) | (simp_all; done)))
      (first
        | (go_at_call 52; refine (devThread _ d L _ (HD.out.below (by (repeat (first | with_reducible exact Below.refl _ _ | with_reducible refine bl_alloc ?_ _ | with_reducible refine bl_drew ?_ | with_reducible refine bl_drewN ?_ _ | with_reducible refine bl_bx ?_ _ | with_reducible exact BX.below _ | with_reducible refine bl_set ?_ (by first | (exact Nat.le_refl _) | (simp; done) | (simp; omega)) _ | assumption)))) 0 (by omega)).mono ?_; rintro e w' ⟨rfl, rfl⟩)
        | (go_at_call 53; refine (readUU_bad _ _ _ _ _ (fun w => sizeUU_any w _ 0 (fun w => pairUUWords w _ _ 1 0 sizeU_isUint sizeU_isNil (by omega) (by omega)) (by omega))).mono ?_; rintro e w' ⟨rfl, hb⟩; obtain ⟨q, rfl⟩ := bx_of hb; clear hb))
    all_goals go_wp2
    all_goals go_meet
    all_goals exact ⟨rfl, (by repeat (first | with_reducible exact Below.refl _ _ | with_reducible refine bl_alloc ?_ _ | with_reducible refine bl_drew ?_ | with_reducible refine bl_drewN ?_ _ | with_reducible refine bl_bx ?_ _ | with_reducible exact BX.below _ | with_reducible refine bl_set ?_ (by first | (exact Nat.le_refl _) | (simp; done) | (simp; omega)) _ | assumption))⟩
  case rest =>
    obtain ⟨rfl, hb⟩ := hcut
    obtain ⟨u, rfl⟩ := bx_of hb
    clear hb
    have Vz : NilVars y.w.heap.size n z.w := ⟨b3, by go_simp, by go_simp, by go_simp, by go_simp, by go_simp, by go_simp, by go_simp⟩
    have Vu := Vz.below u.below
    clear Vz
    have Vu0 := Vu.p0; have Vu1 := Vu.p1; have Vu2 := Vu.q0; have Vu3 := Vu.q1; have Vu4 := Vu.a0; have Vu5 := Vu.a1; have Vu6 := Vu.o0; have Vu7 := Vu.lt; have Vu8 : y.w.heap.size + 1 + 1 < u.w.heap.size := (by omega); have Vu9 : y.w.heap.size + 1 < u.w.heap.size := (by omega); have Vua : y.w.heap.size < u.w.heap.size := (by omega); have HVu := Lib.hid Vu; clear Vu
    go_upto_region 17 with (first
      | (go_at_call 54; refine (planU_nil _ _ _).mono ?_; rintro e w' ⟨rfl, rfl⟩)
      | (go_at_call 55; refine (planPU_bad _ _ _ _ (sizePU_any _ _ 0 (fun w => optUWords w _ 0 sizeU_isNil (by omega)) (by omega))).mono ?_; rintro e w' ⟨rfl, hb⟩; obtain ⟨v, rfl⟩ := bx_of hb; clear hb; have Vv := HVu.out.below v.below; have Vv0 := Vv.p0; have Vv1 := Vv.p1; have Vv2 := Vv.q0; have Vv3 := Vv.q1; have Vv4 := Vv.a0; have Vv5 := Vv.a1; have Vv6 := Vv.o0; have Vv7 := Vv.lt; have Vv8 : y.w.heap.size + 1 + 1 < v.w.heap.size := (by omega); have Vv9 : y.w.heap.size + 1 < v.w.heap.size := (by omega); have Vva : y.w.heap.size < v.w.heap.size := (by omega); have HVv := Lib.hid Vv; clear Vv)
      | (go_at_call 22; refine (pairUUDecode_bad _ _ _ _ _ _ (fun w => pairUUWords w _ _ 1 0 sizeU_isUint sizeU_isNil (by omega) (by omega))).mono ?_; rintro e w' ⟨rfl, hb⟩; obtain ⟨r, rfl⟩ := bx_of hb; clear hb; have Vr := HVv.out.below r.below; have Vr0 := Vr.p0; have Vr1 := Vr.p1; have Vr2 := Vr.q0; have Vr3 := Vr.q1; have Vr4 := Vr.a0; have Vr5 := Vr.a1; have Vr6 := Vr.o0; have Vr7 := Vr.lt; have Vr8 : y.w.heap.size + 1 + 1 < r.w.heap.size := (by omega); have Vr9 : y.w.heap.size + 1 < r.w.heap.size := (by omega); have Vra : y.w.heap.size < r.w.heap.size := (by omega); have HVr := Lib.hid Vr; clear Vr)
      | (go_at_call 56; refine (arrUDecode_bad _ _ _ _ _ _ (fun w => arrUWords w _ _ 0 sizeU_isNil (by omega) hn)).mono ?_; rintro e w' ⟨rfl, hb⟩; obtain ⟨s, rfl⟩ := bx_of hb; clear hb; have Vs : NilVars y.w.heap.size n s.w := HVr.out.below (by (repeat (first | with_reducible exact Below.refl _ _ | with_reducible refine bl_alloc ?_ _ | with_reducible refine bl_drew ?_ | with_reducible refine bl_drewN ?_ _ | with_reducible refine bl_bx ?_ _ | with_reducible exact BX.below _ | with_reducible refine bl_set ?_ (by first | (exact Nat.le_refl _) | (simp; done) | (simp; omega)) _ | assumption))); have Vs0 := Vs.p0; have Vs1 := Vs.p1; have Vs2 := Vs.q0; have Vs3 := Vs.q1; have Vs4 := Vs.a0; have Vs5 := Vs.a1; have Vs6 := Vs.o0; have Vs7 := Vs.lt; have Vs8 : y.w.heap.size + 1 + 1 < s.w.heap.size := (by omega); have Vs9 : y.w.heap.size + 1 < s.w.heap.size := (by omega); have Vsa : y.w.heap.size < s.w.heap.size := (by omega); have HVs := Lib.hid Vs; clear Vs))
    have HBS : Hid (Below w.heap.size w s.w) := by show Below _ _ _; (repeat (first | with_reducible exact Below.refl _ _ | with_reducible refine bl_alloc ?_ _ | with_reducible refine bl_drew ?_ | with_reducible refine bl_drewN ?_ _ | with_reducible refine bl_bx ?_ _ | with_reducible exact BX.below _ | with_reducible refine bl_set ?_ (by first | (exact Nat.le_refl _) | (simp; done) | (simp; omega)) _ | assumption))
    go_region_held3 (fun w' => w'.cell? ⟨y.w.heap.size, 0, none⟩ = some (.iface 78 (.agg #[])) ∧ w'.cell? ⟨y.w.heap.size, 1, none⟩ = some .nilIface ∧ w'.cell? ⟨y.w.heap.size + 1, 0, none⟩ = some .nilIface ∧ w'.cell? ⟨y.w.heap.size + 1, 1, none⟩ = some (.iface 78 (.agg #[])) ∧ w'.cell? ⟨y.w.heap.size + 1 + 1, 0, none⟩ = some (.int .i64 n) ∧ w'.cell? ⟨y.w.heap.size + 1 + 1, 1, none⟩ = some .nilIface ∧ w'.cell? ⟨y.w.heap.size + 1 + 1 + 1, 0, none⟩ = some .nilIface ∧ y.w.heap.size < w'.heap.size ∧ y.w.heap.size + 1 < w'.heap.size ∧ y.w.heap.size + 1 + 1 < w'.heap.size ∧ y.w.heap.size + 1 + 1 + 1 < w'.heap.size ∧ Below s.w.heap.size s.w w')
      (first
        | (obtain ⟨h0, h1, h2, h3, h4, h5, h6, h7, h8, h9, h10, h11⟩ := ‹_ ∧ _ ∧ _ ∧ _ ∧ _ ∧ _ ∧ _ ∧ _ ∧ _ ∧ _ ∧ _ ∧ Below s.w.heap.size s.w _›; exact ⟨(BX.cell _ _ _ h7).trans h0, (BX.cell _ _ _ h7).trans h1, (BX.cell _ _ _ h8).trans h2, (BX.cell _ _ _ h8).trans h3, (BX.cell _ _ _ h9).trans h4, (BX.cell _ _ _ h9).trans h5, (BX.cell _ _ _ h10).trans h6, BX.lt_size _ h7, BX.lt_size _ h8, BX.lt_size _ h9, BX.lt_size _ h10, bl_bx h11 _⟩)
        | (refine ⟨?_, ?_, ?_, ?_, ?_, ?_, ?_, ?_, ?_, ?_, ?_, ?_⟩ <;> first | assumption | ((repeat (first | with_reducible exact Below.refl _ _ | with_reducible refine bl_alloc ?_ _ | with_reducible refine bl_drew ?_ | with_reducible refine bl_drewN ?_ _ | with_reducible refine bl_bx ?_ _ | with_reducible exact BX.below _ | with_reducible refine bl_set ?_ (by first | (exact Nat.le_refl _) | (simp; done) | (simp; omega)) _ | assumption)); done) | (go_simp; done) | (simp_all; done)))
      (first
        | (go_at_call 19; with_reducible refine (pairUUWords _ _ _ 1 0 sizeU_isUint sizeU_isNil (by omega) (by omega)).mono ?_; rintro e w' ⟨rfl, hb⟩; obtain ⟨q, rfl⟩ := bx_of hb; clear hb)
        | (go_at_call 19; with_reducible refine (pairUUWords _ _ _ 0 1 sizeU_isNil sizeU_isUint (by omega) (by omega)).mono ?_; rintro e w' ⟨rfl, hb⟩; obtain ⟨q, rfl⟩ := bx_of hb; clear hb)
        | (go_at_call 20; refine (arrUWords _ _ _ 0 sizeU_isNil (by omega) hn).mono ?_; rintro e w' ⟨rfl, hb⟩; obtain ⟨q, rfl⟩ := bx_of hb; clear hb)
        | (go_at_call 21; refine (optUWords _ _ 0 sizeU_isNil (by omega)).mono ?_; rintro e w' ⟨rfl, hb⟩; obtain ⟨q, rfl⟩ := bx_of hb; clear hb)
        | (go_at_call 57; refine (arrUEncode_bad _ _ _ _ _ _ _ _ _ (fun w => arrUWords w _ _ 0 sizeU_isNil (by omega) hn)).mono ?_; rintro e w' ⟨rfl, hb⟩; obtain ⟨q, rfl⟩ := bx_of hb; clear hb))
    all_goals go_wp2
    all_goals go_ret
    all_goals exact ⟨rfl, HBS.out.trans (Below.mono (by first | exact (‹_ ∧ _ ∧ _ ∧ _ ∧ _ ∧ _ ∧ _ ∧ _ ∧ _ ∧ _ ∧ _ ∧ Below s.w.heap.size s.w _›).2.2.2.2.2.2.2.2.2.2.2 | exact bl_bx (‹_ ∧ _ ∧ _ ∧ _ ∧ _ ∧ _ ∧ _ ∧ _ ∧ _ ∧ _ ∧ _ ∧ Below s.w.heap.size s.w _›).2.2.2.2.2.2.2.2.2.2.2 _) HBS.out.size)⟩
end Go.Proofs.Ytlbgmoijepknbaa
