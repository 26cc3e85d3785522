/- What a law's walk is told of a slice of strings that came in. -/
import Derived.Test.YtlbgmoijepknbaaGreatRdV
import Derived.Test.YtlbgmoijepknbaaGreatArrS
namespace Go.Proofs.YtlbgmoijepknbaaGreat
open Go.RowKit

/-- A slice of strings that came in. -/
def IsStrs (w : World) (a : Option Addr) (len cap : Nat) (ss : List ByteArray) : Prop :=
  (a = none ∧ len = 0 ∧ cap = 0 ∧ ss = []) ∨
  ∃ x, a = some x ∧ len ≤ cap ∧ cap ≤ maxLen ∧ ss.length = cap ∧ (∀ i, i < ss.length → w.cell? (x.add i) = some (.string (ss.getD i ByteArray.empty))) ∧ ∀ s ∈ ss, s.size ≤ maxLen

theorem isStrs_rd {w : World} {a : Option Addr} {len cap : Nat} {ss : List ByteArray} (h : IsStrs w a len cap ss) :
    ∃ l : List ByteArray, l.length = len ∧ len ≤ cap ∧ cap ≤ 9223372036854775807 ∧ RdV w a (strVals l) ∧ ∀ s ∈ l, s.size ≤ maxLen := by
  rcases h with ⟨rfl, rfl, rfl, rfl⟩ | ⟨x, rfl, hl, hm, hz, hc, hw⟩
  · exact ⟨[], rfl, Nat.le_refl _, by omega, .inl rfl, by simp⟩
  · refine ⟨ss.take len, by simp; omega, hl, by unfold maxLen at hm; omega, ?_, fun n hn => hw n (List.mem_of_mem_take hn)⟩
    by_cases h0 : ss.length = 0
    · left
      have : ss = [] := List.eq_nil_of_length_eq_zero h0
      simp [this, strVals]
    · have h1 := hc 0 (by omega)
      have hx : x.add 0 = x := by simp [Addr.add]
      rw [hx] at h1
      have hlt := World.block_lt_of_cell? w x h1
      obtain ⟨b, off, sp⟩ := x
      have hsp : sp = none := by
        cases sp with
        | none => rfl
        | some s =>
          unfold World.cell? at h1
          split at h1 <;> simp at h1
      subst hsp
      refine .inr ⟨b, off, rfl, hlt, fun i hi => ?_⟩
      have hi1 : i < (ss.take len).length := by simpa using hi
      have hi' : i < ss.length := by simp at hi1; omega
      have h2 := hc i hi'
      have h3 : (⟨b, off, none⟩ : Addr).add i = ⟨b, off + i, none⟩ := by unfold Addr.add; split <;> simp_all
      rw [h3] at h2
      rw [h2, get_strVals _ i hi1]
      simp [hi']
end Go.Proofs.YtlbgmoijepknbaaGreat
