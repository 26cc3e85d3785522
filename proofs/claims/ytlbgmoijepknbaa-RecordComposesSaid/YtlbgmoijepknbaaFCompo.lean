/- Proved: the law RecordComposes of bedrocklaw11 returns true for every input and leaves its arguments as they were (Rows.RecordComposesSaid). No conditions. -/
import Derived.Test.YtlbgmoijepknbaaRows
import Derived.Test.YtlbgmoijepknbaaCompo
import Derived.Test.YtlbgmoijepknbaaRow
import Derived.Test.YtlbgmoijepknbaaRowS
import Derived.WalkKit
import Derived.ProofKit
import Derived.OpenShut
import Derived.ShutString
import Derived.ChangeOld
import Derived.Below
import Derived.SliceStrings
import Derived.Lib.SmallJoins
namespace Go.Proofs.Ytlbgmoijepknbaa.recordComposes
open Go.ChangeShapes Go.WideShapes Go.ChangeAt Go.RowKit
open Go.ChangeMaps (open_string shut_string)
set_option linter.unusedVariables false

theorem walk (w : World) (a0 g0 : Bool) (m0 : Int) (b0 : Option Addr) (len0 cap0 : Nat) (s0 : List ByteArray) (w0 : IsStrs w b0 len0 cap0 s0) (a1 : Option Addr) (len1 cap1 : Nat) (z1 : List Int) (w1 : IsRow .u64 w a1 len1 cap1 z1) :
    Calls Try.prog 9 #[.agg #[.bool a0, .slice b0 len0 cap0, .bool g0, .int .i64 m0], .slice a1 len1 cap1] w fun e w' => e = .returned (.bool true) ∧ Below w.heap.size w w' := by
  obtain ⟨l, hl0, hc0, hm0, hR0, _⟩ := isStrs_rd w0
  obtain ⟨xs, hl1, hc1, hm1, hR1, hy⟩ := isRow_rd w1
  obtain ⟨m2, hm2', h2a, h2b⟩ : ∃ m : Nat, imin (len1 : Int) 11 = (m : Int) ∧ m ≤ 11 ∧ m ≤ len1 := by
    rcases imin_cases (len1 : Int) 11 with ⟨h, h'⟩ | ⟨h, h'⟩
    · exact ⟨len1, h, by omega, by omega⟩
    · exact ⟨11, h, by omega, by omega⟩
  exact law_RecordComposes w a0 g0 m0 b0 len0 cap0 l hl0 hR0 hc0 hm0 a1 len1 cap1 hc1 hm1 m2 hm2' (by omega) (xs.take m2) (by simp; omega) (hR1.take _) (fun x h => wf_u64 (hy x (List.mem_of_mem_take h)))

theorem own : ownKnob Try.prog.godebug = none := by kernel_rfl
theorem laidOut : laidOutB Try.prog = true := by kernel_rfl

set_option maxRecDepth 100000 in
theorem lifted (os : Os) (started : os.Started) (H : Type) (enc : TypeId × Value → H) :
    ReturnsInHanded {} Try.checked os 9 .any (Rows.recordComposesSpec.pre6 enc Try.prog Try.f9 Rows.recordComposesRow.domain false) (Rows.recordComposesSpec.post enc Try.prog Try.f9 false true false false) := by
  refine returnsInHanded_of_change (C := Try.checked) own started (by kernel_rfl) Try.func9
    (ChangeSpec.witness6 (enc := enc) (C := Try.checked) false ⟨#[], #[.agg #[.bool false, .slice none 0 0, .bool false, .int .i64 0], .slice none 0 0], []⟩ 8 (by kernel_rfl) (by kernel_rfl) (by kernel_rfl) (by kernel_rfl)) ?_
  intro W base args ds gs before hval0 hW hcnd _
  have hval : ∀ (j : Nat) t v, Try.f9.params[j]? = some t → args[j]? = some v → Value.okWide Try.prog W .any base t v := hval0
  have hW' := hW
  obtain ⟨p, q, hA0, hV, rfl, hfz, hnd⟩ := hW
  have hA : DataW.TrodAll enc Try.prog W 0 (fun _ => true) true Try.f9.params.toList args.toList ds p := hA0
  rw [Try.params9] at hA hval
  obtain ⟨v0, vs0, d0, ds0, p0, q0, hargs, rfl, rfl, h0, r0⟩ := trodAll_cons hA
  obtain ⟨v1, vs1, d1, ds1, p1, q1, rfl, rfl, rfl, h1, r1⟩ := trodAll_cons r0
  obtain ⟨rfl, rfl, rfl⟩ := trodAll_nil r1
  obtain rfl : args = #[v0, v1] := by cases args; simp_all
  obtain ⟨rfl, rfl⟩ := trodVars_none hV
  have k0 := h0
  have lt0 : ∀ x ∈ p0, x.block < W.heap.size := by obtain ⟨m, hm⟩ := k0; exact DataW.trod_lt m _ _ _ hm
  have k1 := h1
  have lt1 : ∀ x ∈ p1, x.block < W.heap.size := by obtain ⟨m, hm⟩ := k1; exact DataW.trod_lt m _ _ _ hm
  obtain ⟨u00, u01, u02, u03, y00, y01, y02, y03, n0, rfl, rfl, rfl, t00, t01, t02, t03⟩ := Go.Joins.open_agg4 Try.underlying24 (by kernel_rfl) (by kernel_rfl) (hval 0 24 v0 rfl rfl) h0
  obtain ⟨a0, e0, _⟩ := DataW.trod_bool Try.underlying4 t00
  obtain ⟨g0, i0, _⟩ := DataW.trod_bool Try.underlying4 t02
  obtain ⟨m0, j0, _⟩ := DataW.trod_int Try.underlying2 t03
  simp only [List.cons.injEq, and_true] at e0 i0 j0
  subst e0 i0 j0
  obtain ⟨b0, len0, cap0, s0, o0, w0⟩ : ∃ b len cap ss, u01 = .slice b len cap ∧ IsStrs W b len cap ss := by
    rcases open_strings Try.underlying22 Try.underlying9 (by kernel_rfl) t01 with ⟨hcs, _⟩ | ⟨x, l, c, ss, hcs, _, hl, hm, hz, _, hcell, hwz⟩
    · simp at hcs
      exact ⟨none, 0, 0, [], hcs, .inl ⟨rfl, rfl, rfl, rfl⟩⟩
    · simp at hcs
      exact ⟨some x, l, c, ss, hcs, .inr ⟨x, rfl, hl, hm, by simpa using hz, hcell, hwz⟩⟩
  subst o0
  obtain ⟨a1, len1, cap1, rfl⟩ := okWide_slice Try.underlying31 (hval 1 31 v1 rfl rfl)
  obtain ⟨z1, w1⟩ : ∃ zs, IsRow .u64 W a1 len1 cap1 zs := by
    obtain ⟨fuel, hf⟩ := h1
    rcases open_ints Try.underlying31 Try.underlying26 (by kernel_rfl) hf with ⟨hcs, _⟩ | ⟨x, l, c, zs, hcs, _, hl, hm, hz, _, hcell, hwz⟩
    · simp [Value.cells] at hcs
      obtain ⟨rfl, rfl, rfl⟩ := hcs
      exact ⟨[], .inl ⟨rfl, rfl, rfl, rfl⟩⟩
    · simp [Value.cells] at hcs
      obtain ⟨rfl, rfl, rfl⟩ := hcs
      exact ⟨zs, .inr ⟨_, rfl, hl, hm, by simpa using hz, hcell, hwz⟩⟩
  clear hA0 hval0
  refine (walk W a0 g0 m0 b0 len0 cap0 s0 w0 a1 len1 cap1 z1 w1).mono fun e W' ⟨he, bel⟩ => ?_
  subst he
  exact ⟨_, rfl, _, _, _, [], _, [], hW', trodAll_mk1 (shut_bool Try.underlying4 _), (trodAll_cons_mk (Below.trod laidOut (by kernel_rfl) (of_decide_eq_true (by kernel_rfl)) k0 bel lt0) (trodAll_cons_mk (Below.trod laidOut (by kernel_rfl) (of_decide_eq_true (by kernel_rfl)) k1 bel lt1) trodAll_mk0)), rfl, bel.frame _, fun h => by cases h⟩

theorem over : Rows.recordComposesRow.holds Try.pinned (OpenSpec.ofChange Rows.recordComposesSpec) :=
  OpenClaim.holds_of_wide 9 Try.f9 rfl rfl rfl rfl rfl rfl rfl ⟨rfl, rfl, rfl, rfl, rfl⟩ rfl rfl rfl rfl rfl (by kernel_rfl) Try.func9 (by kernel_rfl)
    (of_decide_eq_true (by kernel_rfl)) (by unfold Func.isWrapper; first | (rw [if_pos (by decide +kernel)]; kernel_rfl) | (rw [if_neg (by decide +kernel)]; exact ⟨rfl, rfl⟩))
    (fun os started H enc _ => lifted os started H enc)

theorem proved : Rows.RecordComposesSaid := over
#print axioms proved
end Go.Proofs.Ytlbgmoijepknbaa.recordComposes
