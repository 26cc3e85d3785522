/- Proved: the law RecordStores of bedrocklaw11 returns true for every input and leaves its arguments as they were (Rows.RecordStoresSaid). No conditions. -/
import Derived.Test.YtlbgmoijepknbaaGreatRows
import Derived.Test.YtlbgmoijepknbaaGreatKy
import Derived.Test.YtlbgmoijepknbaaGreatRow
import Derived.Test.YtlbgmoijepknbaaGreatRowS
import Derived.WalkKit
import Derived.ProofKit
import Derived.OpenShut
import Derived.ShutString
import Derived.ChangeOld
import Derived.Below
import Derived.SliceStrings
import Derived.Lib.SmallJoins
namespace Go.Proofs.YtlbgmoijepknbaaGreat.recordStores
open Go.ChangeShapes Go.WideShapes Go.ChangeAt Go.RowKit
open Go.ChangeMaps (open_string shut_string)
set_option linter.unusedVariables false

theorem walk (w : World) (a0 g0 : Bool) (m0 : Int) (x0 : (Lit.int .i64 m0).wf = true) (b0 : Option Addr) (len0 cap0 : Nat) (s0 : List ByteArray) (w0 : IsStrs w b0 len0 cap0 s0) (a1 : Int) (w1 : (Lit.int .u8 a1).wf = true) (a2 : Option Addr) (len2 cap2 : Nat) (z2 : List Int) (w2 : IsRow .u8 w a2 len2 cap2 z2) :
    Calls Tryz.prog 3 #[.agg #[.bool a0, .slice b0 len0 cap0, .bool g0, .int .i64 m0], .int .u8 a1, .slice a2 len2 cap2] w fun e w' => e = .returned (.bool true) ∧ Below w.heap.size w w' := by
  obtain ⟨l, hl0, hc0, hm0, hR0, _⟩ := isStrs_rd w0
  obtain ⟨xs, hl2, hc2, hm2, hR2, hy⟩ := isRow_rd w2
  have h1 := wf_u8 w1
  obtain ⟨word, rfl⟩ := Int.eq_ofNat_of_zero_le h1.1
  exact law_RecordStores w a0 g0 m0 (wf_i64 x0) b0 len0 cap0 l hl0 hR0 hc0 hm0 word (by omega) a2 len2 cap2 hc2 hm2 xs hl2 hR2 (fun x h => by have := wf_u8 (hy x h); omega)

theorem own : ownKnob Tryz.prog.godebug = none := by kernel_rfl
theorem laidOut : laidOutB Tryz.prog = true := by kernel_rfl

set_option maxRecDepth 100000 in
theorem lifted (os : Os) (started : os.Started) (H : Type) (enc : TypeId × Value → H) :
    ReturnsInHanded {} Tryz.checked os 3 .any (Rows.recordStoresSpec.pre6 enc Tryz.prog Tryz.f3 Rows.recordStoresRow.domain false) (Rows.recordStoresSpec.post enc Tryz.prog Tryz.f3 false true false false) := by
  refine returnsInHanded_of_change (C := Tryz.checked) own started (by kernel_rfl) Tryz.func3
    (ChangeSpec.witness6 (enc := enc) (C := Tryz.checked) false ⟨#[], #[.agg #[.bool false, .slice none 0 0, .bool false, .int .i64 0], .int .u8 0, .slice none 0 0], []⟩ 8 (by kernel_rfl) (by kernel_rfl) (by kernel_rfl) (by kernel_rfl)) ?_
  intro W base args ds gs before hval0 hW hcnd _
  have hval : ∀ (j : Nat) t v, Tryz.f3.params[j]? = some t → args[j]? = some v → Value.okWide Tryz.prog W .any base t v := hval0
  have hW' := hW
  obtain ⟨p, q, hA0, hV, rfl, hfz, hnd⟩ := hW
  have hA : DataW.TrodAll enc Tryz.prog W 0 (fun _ => true) true Tryz.f3.params.toList args.toList ds p := hA0
  rw [Tryz.params3] at hA hval
  obtain ⟨v0, vs0, d0, ds0, p0, q0, hargs, rfl, rfl, h0, r0⟩ := trodAll_cons hA
  obtain ⟨v1, vs1, d1, ds1, p1, q1, rfl, rfl, rfl, h1, r1⟩ := trodAll_cons r0
  obtain ⟨v2, vs2, d2, ds2, p2, q2, rfl, rfl, rfl, h2, r2⟩ := trodAll_cons r1
  obtain ⟨rfl, rfl, rfl⟩ := trodAll_nil r2
  obtain rfl : args = #[v0, v1, v2] := by cases args; simp_all
  obtain ⟨rfl, rfl⟩ := trodVars_none hV
  have k0 := h0
  have lt0 : ∀ x ∈ p0, x.block < W.heap.size := by obtain ⟨m, hm⟩ := k0; exact DataW.trod_lt m _ _ _ hm
  have k1 := h1
  have lt1 : ∀ x ∈ p1, x.block < W.heap.size := by obtain ⟨m, hm⟩ := k1; exact DataW.trod_lt m _ _ _ hm
  have k2 := h2
  have lt2 : ∀ x ∈ p2, x.block < W.heap.size := by obtain ⟨m, hm⟩ := k2; exact DataW.trod_lt m _ _ _ hm
  obtain ⟨u00, u01, u02, u03, y00, y01, y02, y03, n0, rfl, rfl, rfl, t00, t01, t02, t03⟩ := Go.Joins.open_agg4 Tryz.underlying24 (by kernel_rfl) (by kernel_rfl) (hval 0 24 v0 rfl rfl) h0
  obtain ⟨a0, e0, _⟩ := DataW.trod_bool Tryz.underlying4 t00
  obtain ⟨g0, i0, _⟩ := DataW.trod_bool Tryz.underlying4 t02
  obtain ⟨m0, j0, _, x0⟩ := DataW.trod_int Tryz.underlying2 t03
  simp only [List.cons.injEq, and_true] at e0 i0 j0
  subst e0 i0 j0
  obtain ⟨b0, len0, cap0, s0, o0, w0⟩ : ∃ b len cap ss, u01 = .slice b len cap ∧ IsStrs W b len cap ss := by
    rcases open_strings Tryz.underlying22 Tryz.underlying9 (by kernel_rfl) t01 with ⟨hcs, _⟩ | ⟨x, l, c, ss, hcs, _, hl, hm, hz, _, hcell, hwz⟩
    · simp at hcs
      exact ⟨none, 0, 0, [], hcs, .inl ⟨rfl, rfl, rfl, rfl⟩⟩
    · simp at hcs
      exact ⟨some x, l, c, ss, hcs, .inr ⟨x, rfl, hl, hm, by simpa using hz, hcell, hwz⟩⟩
  subst o0
  obtain ⟨a1, rfl, rfl, rfl, w1⟩ := open_int Tryz.underlying5 (hval 1 5 v1 rfl rfl) h1
  obtain ⟨a2, len2, cap2, rfl⟩ := okWide_slice Tryz.underlying25 (hval 2 25 v2 rfl rfl)
  obtain ⟨z2, w2⟩ : ∃ zs, IsRow .u8 W a2 len2 cap2 zs := by
    obtain ⟨fuel, hf⟩ := h2
    rcases open_ints Tryz.underlying25 Tryz.underlying5 (by kernel_rfl) hf with ⟨hcs, _⟩ | ⟨x, l, c, zs, hcs, _, hl, hm, hz, _, hcell, hwz⟩
    · simp [Value.cells] at hcs
      obtain ⟨rfl, rfl, rfl⟩ := hcs
      exact ⟨[], .inl ⟨rfl, rfl, rfl, rfl⟩⟩
    · simp [Value.cells] at hcs
      obtain ⟨rfl, rfl, rfl⟩ := hcs
      exact ⟨zs, .inr ⟨_, rfl, hl, hm, by simpa using hz, hcell, hwz⟩⟩
  clear hA0 hval0
  refine (walk W a0 g0 m0 x0 b0 len0 cap0 s0 w0 a1 w1 a2 len2 cap2 z2 w2).mono fun e W' ⟨he, bel⟩ => ?_
  subst he
  exact ⟨_, rfl, _, _, _, [], _, [], hW', trodAll_mk1 (shut_bool Tryz.underlying4 _), (trodAll_cons_mk (Below.trod laidOut (by kernel_rfl) (of_decide_eq_true (by kernel_rfl)) k0 bel lt0) (trodAll_cons_mk (Below.trod laidOut (by kernel_rfl) (of_decide_eq_true (by kernel_rfl)) k1 bel lt1) (trodAll_cons_mk (Below.trod laidOut (by kernel_rfl) (of_decide_eq_true (by kernel_rfl)) k2 bel lt2) trodAll_mk0))), rfl, bel.frame _, fun h => by cases h⟩

theorem over : Rows.recordStoresRow.holds Tryz.pinned (OpenSpec.ofChange Rows.recordStoresSpec) :=
  OpenClaim.holds_of_wide 3 Tryz.f3 rfl rfl rfl rfl rfl rfl rfl ⟨rfl, rfl, rfl, rfl, rfl⟩ rfl rfl rfl rfl rfl (by kernel_rfl) Tryz.func3 (by kernel_rfl)
    (of_decide_eq_true (by kernel_rfl)) (by unfold Func.isWrapper; first | (rw [if_pos (by decide +kernel)]; kernel_rfl) | (rw [if_neg (by decide +kernel)]; exact ⟨rfl, rfl⟩))
    (fun os started H enc _ => lifted os started H enc)

theorem proved : Rows.RecordStoresSaid := over
#print axioms proved
end Go.Proofs.YtlbgmoijepknbaaGreat.recordStores
