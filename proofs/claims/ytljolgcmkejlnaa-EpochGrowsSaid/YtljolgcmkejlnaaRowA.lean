/- Slices of calls that came in. -/
import Derived.Test.YtljolgcmkejlnaaRow
import Derived.Test.YtljolgcmkejlnaaProg
import Derived.Deep.SlicePairs
namespace Go.Proofs.Ytljolgcmkejlnaa
open Go.RowKit
set_option linter.unusedVariables false

/-- A slice of calls (kind, thread). -/
def IsActs (w : World) (A : Option Addr) (len cap : Nat) (acts : List (Int × Int)) : Prop :=
  acts.length = len ∧ len ≤ cap ∧ cap ≤ 9223372036854775807 ∧ ∀ k (h : k < acts.length), ∃ b off, A = some ⟨b, off, none⟩ ∧ b < w.heap.size ∧ w.cell? ⟨b, off + k * 2, none⟩ = some (.int .i64 acts[k].1) ∧ w.cell? ⟨b, off + k * 2 + 1, none⟩ = some (.int .i64 acts[k].2) ∧
    (-9223372036854775808 ≤ acts[k].1 ∧ acts[k].1 < 9223372036854775808) ∧ (-9223372036854775808 ≤ acts[k].2 ∧ acts[k].2 < 9223372036854775808)
theorem isActs_of {H : Type} {enc : TypeId × Value → H} {W : World} {fuel : Nat} {A : Option Addr} {len cap : Nat} {x : DataW H × List MemPlace} (h : DataW.trod enc Try.prog W 0 (fun _ => true) true fuel 22 [.slice A len cap] = some x) : ∃ acts, IsActs W A len cap acts := by
  rcases Go.Deep.open_slice_pairs Try.underlying22 Try.underlying35 (by kernel_rfl) rfl rfl (by kernel_rfl) (by kernel_rfl) h with ⟨hcs, _⟩ | ⟨a, l, c, m, n, V0, V1, D0, D1, P0, P1, hcs, _, hl, hm, hmm, _, hx⟩
  · simp only [List.cons.injEq, Value.slice.injEq, and_true] at hcs
    obtain ⟨rfl, rfl, rfl⟩ := hcs
    exact ⟨[], rfl, Nat.le_refl _, by omega, fun k h => by simp at h⟩
  · simp only [List.cons.injEq, Value.slice.injEq, and_true] at hcs
    obtain ⟨rfl, rfl, rfl⟩ := hcs
    simp only [if_true] at hmm
    have hall : ∀ i, i < len → ∃ p : Int × Int, V0 i = .int .i64 p.1 ∧ V1 i = .int .i64 p.2 ∧ (Lit.int .i64 p.1).wf = true ∧ (Lit.int .i64 p.2).wf = true := by
      intro i hi
      obtain ⟨_, _, t0, t1⟩ := hx i (by omega)
      obtain ⟨z0, e0, _, f0⟩ := DataW.trod_int Try.underlying3 t0
      obtain ⟨z1, e1, _, f1⟩ := DataW.trod_int Try.underlying3 t1
      simp only [List.cons.injEq, and_true] at e0 e1
      exact ⟨(z0, z1), e0, e1, f0, f1⟩
    refine ⟨(List.range len).map fun i => (intOf (V0 i), intOf (V1 i)), by simp, hl, by unfold maxLen at hm; omega, fun k hk => ?_⟩
    have hk' : k < len := by simpa using hk
    obtain ⟨p, e0, e1, f0, f1⟩ := hall k hk'
    obtain ⟨c0, c1, _, _⟩ := hx k (by omega)
    have h00 := (hx 0 (by omega)).1
    have hx0 : a.add (0 * 2) = a := by simp [Addr.add]
    rw [hx0] at h00
    have hlt := World.block_lt_of_cell? W a h00
    obtain ⟨b, off, sp⟩ := a
    have hsp : sp = none := by
      cases sp with
      | none => rfl
      | some s =>
        unfold World.cell? at h00
        split at h00 <;> simp at h00
    subst hsp
    have h3 : ∀ i, (⟨b, off, none⟩ : Addr).add i = ⟨b, off + i, none⟩ := by intro i; unfold Addr.add; split <;> simp_all
    rw [h3] at c0 c1
    simp only [List.getElem_map, List.getElem_range]
    rw [e0, e1] at *
    refine ⟨b, off, rfl, hlt, c0, ?_, wf_i64 f0, wf_i64 f1⟩
    rw [← Nat.add_assoc] at c1
    exact c1
end Go.Proofs.Ytljolgcmkejlnaa
