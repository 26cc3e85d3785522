/- Proved: the law RecordPlans of bedrocklaw11 returns true for every input and leaves its arguments as they were (Rows.RecordPlansSaid). No conditions. -/
import Derived.Test.YtlbgmoijepknbaaRows
import Derived.Test.YtlbgmoijepknbaaAwake
import Derived.Test.YtlbgmoijepknbaaPlan
import Derived.Test.YtlbgmoijepknbaaRow
import Derived.WalkKit
import Derived.ProofKit
import Derived.OpenShut
import Derived.ShutString
import Derived.ChangeOld
import Derived.Below
namespace Go.Proofs.Ytlbgmoijepknbaa.recordPlans
open Go.ChangeShapes Go.WideShapes Go.ChangeAt Go.RowKit
open Go.ChangeMaps (open_string shut_string)
set_option linter.unusedVariables false

set_option maxRecDepth 100000 in
set_option maxHeartbeats 1000000 in
theorem walk_ok (w : World) (off : Nat) (s : ByteArray) (hs : s.size ≤ 16) (ho : off % 8 = 0) (hb : off ≤ 18446744073709551591) :
    Calls Try.prog 5 #[.int .u64 (off : Int), .string s] w fun e w' => e = .returned (.bool true) ∧ Below w.heap.size w w' := by
  have h8 : ((off : Int) % 8 != 0) = false := by simp; omega
  have hle : ¬ (18446744073709551591 : Int) < (off : Int) := by omega
  have hl : ¬ (16 : Int) < (s.size : Int) := by omega
  go_enter Try.func5, Try.ntmps5
  go_wp2_with (go_at_call 12; refine (awake_any _).mono ?_; rintro e w' ⟨rfl, hb⟩; obtain ⟨x, rfl⟩ := bx_of hb; clear hb)
  refine (planS_ok _ off s hs ho hb).mono ?_
  rintro e w1 ⟨⟨g, rfl, hI⟩, hb1⟩
  obtain ⟨y, rfl⟩ := bx_of hb1
  have c0 : y.w.cell? ⟨g, 0, none⟩ = some (.int .u64 (off : Int)) := by
    rw [hI.cell (i := 0) (by rw [length_pf]; omega)]; simp [pf, List.range, List.range.loop]
  have c4 : y.w.cell? ⟨g, 4, none⟩ = some (.int .u64 ((off : Int) + 16)) := by
    rw [hI.cell (i := 4) (by rw [length_pf]; omega)]; simp [pf, List.range, List.range.loop]
  clear hI hb1
  go_wp2
  go_ret
  exact ⟨rfl, (by repeat (first | with_reducible exact Below.refl _ _ | with_reducible refine bl_alloc ?_ _ | with_reducible refine bl_drew ?_ | with_reducible refine bl_drewN ?_ _ | with_reducible refine bl_bx ?_ _ | with_reducible exact BX.below _ | assumption))⟩

set_option maxRecDepth 100000 in
set_option maxHeartbeats 1000000 in
theorem walk_err (w : World) (off : Nat) (s : ByteArray) (hoff : off < 18446744073709551616) (h : off % 8 ≠ 0 ∨ 18446744073709551591 < off ∨ 16 < s.size) :
    Calls Try.prog 5 #[.int .u64 (off : Int), .string s] w fun e w' => e = .returned (.bool true) ∧ Below w.heap.size w w' := by
  have hp : ∀ W : World, Calls Try.prog 27 #[.int .u64 (off : Int), .iface 73 (.agg #[]), .string s] W fun e w' => e = .returned (.tuple #[.slice none 0 0, .int .i64 1]) ∧ Below W.heap.size W w' := by
    intro W
    by_cases h1 : off % 8 ≠ 0 ∨ 18446744073709551591 < off
    · exact planS_off W off s hoff h1
    · exact planS_long W off s (by omega) (by omega) (by omega)
  have HP := Lib.hid hp
  clear hp
  by_cases h8 : off % 8 = 0
  · have h8' : ((off : Int) % 8 != 0) = false := by simp; omega
    by_cases hb : 18446744073709551591 < off
    · have hle : (18446744073709551591 : Int) < (off : Int) := by omega
      clear h h8
      go_enter Try.func5, Try.ntmps5
      go_wp2_with (first | (go_at_call 12; refine (awake_any _).mono ?_; rintro e w' ⟨rfl, hb⟩; obtain ⟨x, rfl⟩ := bx_of hb; clear hb) | (go_at_call 27; refine (HP.out _).mono ?_; rintro e w' ⟨rfl, hb⟩; obtain ⟨y, rfl⟩ := bx_of hb; clear hb))
      go_ret
      exact ⟨rfl, (by repeat (first | with_reducible exact Below.refl _ _ | with_reducible refine bl_alloc ?_ _ | with_reducible refine bl_drew ?_ | with_reducible refine bl_drewN ?_ _ | with_reducible refine bl_bx ?_ _ | with_reducible exact BX.below _ | assumption))⟩
    · have hle : ¬ (18446744073709551591 : Int) < (off : Int) := by omega
      have hl : (16 : Int) < (s.size : Int) := by omega
      clear h h8
      go_enter Try.func5, Try.ntmps5
      go_wp2_with (first | (go_at_call 12; refine (awake_any _).mono ?_; rintro e w' ⟨rfl, hb⟩; obtain ⟨x, rfl⟩ := bx_of hb; clear hb) | (go_at_call 27; refine (HP.out _).mono ?_; rintro e w' ⟨rfl, hb⟩; obtain ⟨y, rfl⟩ := bx_of hb; clear hb))
      go_ret
      exact ⟨rfl, (by repeat (first | with_reducible exact Below.refl _ _ | with_reducible refine bl_alloc ?_ _ | with_reducible refine bl_drew ?_ | with_reducible refine bl_drewN ?_ _ | with_reducible refine bl_bx ?_ _ | with_reducible exact BX.below _ | assumption))⟩
  · have h8' : ((off : Int) % 8 != 0) = true := by simp; omega
    clear h h8
    go_enter Try.func5, Try.ntmps5
    go_wp2_with (first | (go_at_call 12; refine (awake_any _).mono ?_; rintro e w' ⟨rfl, hb⟩; obtain ⟨x, rfl⟩ := bx_of hb; clear hb) | (go_at_call 27; refine (HP.out _).mono ?_; rintro e w' ⟨rfl, hb⟩; obtain ⟨y, rfl⟩ := bx_of hb; clear hb))
    go_ret
    exact ⟨rfl, (by repeat (first | with_reducible exact Below.refl _ _ | with_reducible refine bl_alloc ?_ _ | with_reducible refine bl_drew ?_ | with_reducible refine bl_drewN ?_ _ | with_reducible refine bl_bx ?_ _ | with_reducible exact BX.below _ | assumption))⟩

theorem walk (w : World) (a0 : Int) (w0 : (Lit.int .u64 a0).wf = true) (a1 : ByteArray) (w1 : a1.size ≤ maxLen) :
    Calls Try.prog 5 #[.int .u64 a0, .string a1] w fun e w' => e = .returned (.bool true) ∧ Below w.heap.size w w' := by
  have h0 := wf_u64 w0
  obtain ⟨off, rfl⟩ := Int.eq_ofNat_of_zero_le h0.1
  by_cases h : off % 8 ≠ 0 ∨ 18446744073709551591 < off ∨ 16 < a1.size
  · exact walk_err w off a1 (by omega) h
  · exact walk_ok w off a1 (by omega) (by omega) (by omega)

theorem own : ownKnob Try.prog.godebug = none := by kernel_rfl
theorem laidOut : laidOutB Try.prog = true := by kernel_rfl

set_option maxRecDepth 100000 in
theorem lifted (os : Os) (started : os.Started) (H : Type) (enc : TypeId × Value → H) :
    ReturnsInHanded {} Try.checked os 5 .any (Rows.recordPlansSpec.pre6 enc Try.prog Try.f5 Rows.recordPlansRow.domain false) (Rows.recordPlansSpec.post enc Try.prog Try.f5 false true false false) := by
  refine returnsInHanded_of_change (C := Try.checked) own started (by kernel_rfl) Try.func5
    (ChangeSpec.witness6 (enc := enc) (C := Try.checked) false ⟨#[], #[.int .u64 0, .string ByteArray.empty], []⟩ 8 (by kernel_rfl) (by kernel_rfl) (by kernel_rfl) (by kernel_rfl)) ?_
  intro W base args ds gs before hval0 hW hcnd _
  have hval : ∀ (j : Nat) t v, Try.f5.params[j]? = some t → args[j]? = some v → Value.okWide Try.prog W .any base t v := hval0
  have hW' := hW
  obtain ⟨p, q, hA0, hV, rfl, hfz, hnd⟩ := hW
  have hA : DataW.TrodAll enc Try.prog W 0 (fun _ => true) true Try.f5.params.toList args.toList ds p := hA0
  rw [Try.params5] at hA hval
  obtain ⟨v0, vs0, d0, ds0, p0, q0, hargs, rfl, rfl, h0, r0⟩ := trodAll_cons hA
  obtain ⟨v1, vs1, d1, ds1, p1, q1, rfl, rfl, rfl, h1, r1⟩ := trodAll_cons r0
  obtain ⟨rfl, rfl, rfl⟩ := trodAll_nil r1
  obtain rfl : args = #[v0, v1] := by cases args; simp_all
  obtain ⟨rfl, rfl⟩ := trodVars_none hV
  have k0 := h0
  have lt0 : ∀ x ∈ p0, x.block < W.heap.size := by obtain ⟨m, hm⟩ := k0; exact DataW.trod_lt m _ _ _ hm
  have k1 := h1
  have lt1 : ∀ x ∈ p1, x.block < W.heap.size := by obtain ⟨m, hm⟩ := k1; exact DataW.trod_lt m _ _ _ hm
  obtain ⟨a0, rfl, rfl, rfl, w0⟩ := open_int Try.underlying26 (hval 0 26 v0 rfl rfl) h0
  obtain ⟨a1, rfl, rfl, rfl, w1⟩ := open_string Try.underlying9 (hval 1 9 v1 rfl rfl) h1
  clear hA0 hval0
  refine (walk W a0 w0 a1 w1).mono fun e W' ⟨he, bel⟩ => ?_
  subst he
  exact ⟨_, rfl, _, _, _, [], _, [], hW', trodAll_mk1 (shut_bool Try.underlying4 _), (trodAll_cons_mk (Below.trod laidOut (by kernel_rfl) (of_decide_eq_true (by kernel_rfl)) k0 bel lt0) (trodAll_cons_mk (Below.trod laidOut (by kernel_rfl) (of_decide_eq_true (by kernel_rfl)) k1 bel lt1) trodAll_mk0)), rfl, bel.frame _, fun h => by cases h⟩

theorem over : Rows.recordPlansRow.holds Try.pinned (OpenSpec.ofChange Rows.recordPlansSpec) :=
  OpenClaim.holds_of_wide 5 Try.f5 rfl rfl rfl rfl rfl rfl rfl ⟨rfl, rfl, rfl, rfl, rfl⟩ rfl rfl rfl rfl rfl (by kernel_rfl) Try.func5 (by kernel_rfl)
    (of_decide_eq_true (by kernel_rfl)) (by unfold Func.isWrapper; first | (rw [if_pos (by decide +kernel)]; kernel_rfl) | (rw [if_neg (by decide +kernel)]; exact ⟨rfl, rfl⟩))
    (fun os started H enc _ => lifted os started H enc)

theorem proved : Rows.RecordPlansSaid := over
#print axioms proved
end Go.Proofs.Ytlbgmoijepknbaa.recordPlans
