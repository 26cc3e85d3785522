/- What a law's walk is told of its arguments. -/
import Derived.Test.YtngkhligjkcbmaaLib
namespace Go.Proofs.Ytngkhligjkcbmaa
open Go.RowKit

/-- A slice of integers that came in: it is nil, or it leads to a row of numbers, each fitting its kind. -/
def IsRow (k : IntKind) (w : World) (a : Option Addr) (len cap : Nat) (zs : List Int) : Prop :=
  (a = none ∧ len = 0 ∧ cap = 0 ∧ zs = []) ∨
  ∃ x, a = some x ∧ len ≤ cap ∧ cap ≤ maxLen ∧ zs.length = cap ∧ (∀ i, i < zs.length → w.cell? (x.add i) = some (.int k (zs.getD i 0))) ∧ ∀ n ∈ zs, (Lit.int k n).wf = true

theorem isRow_rd {k : IntKind} {w : World} {a : Option Addr} {len cap : Nat} {zs : List Int} (h : IsRow k w a len cap zs) :
    ∃ xs : List Int, xs.length = len ∧ len ≤ cap ∧ cap ≤ 9223372036854775807 ∧ Rd k w a xs ∧ ∀ n ∈ xs, (Lit.int k n).wf = true := by
  rcases h with ⟨rfl, rfl, rfl, rfl⟩ | ⟨x, rfl, hl, hm, hz, hc, hw⟩
  · exact ⟨[], rfl, Nat.le_refl _, by omega, .inl rfl, by simp⟩
  · refine ⟨zs.take len, by simp; omega, hl, by unfold maxLen at hm; omega, ?_, fun n hn => hw n (List.mem_of_mem_take hn)⟩
    by_cases h0 : zs.length = 0
    · left
      have : zs = [] := List.eq_nil_of_length_eq_zero h0
      simp [this]
    · have h1 := hc 0 (by omega)
      have hx : x.add 0 = x := by simp [Addr.add]
      rw [hx] at h1
      have hlt := World.block_lt_of_cell? w x h1
      obtain ⟨b, off, sp⟩ := x
      have hsp : sp = none := by
        cases sp with
        | none => rfl
        | some s =>
          unfold World.cell? at h1
          split at h1 <;> simp at h1
      subst hsp
      refine .inr ⟨b, off, rfl, hlt, fun i hi => ?_⟩
      have hi' : i < zs.length := by simp at hi; omega
      have h2 := hc i hi'
      have h3 : (⟨b, off, none⟩ : Addr).add i = ⟨b, off + i, none⟩ := by unfold Addr.add; split <;> simp_all
      rw [h3] at h2
      rw [h2]
      simp [hi']

theorem wf_u64 {a : Int} (h : (Lit.int .u64 a).wf = true) : 0 ≤ a ∧ a < 18446744073709551616 := by
  simp [Lit.wf, IntKind.min, IntKind.max, IntKind.signed, IntKind.bits] at h; omega
theorem wf_i64 {a : Int} (h : (Lit.int .i64 a).wf = true) : -9223372036854775808 ≤ a ∧ a < 9223372036854775808 := by
  simp [Lit.wf, IntKind.min, IntKind.max, IntKind.signed, IntKind.bits] at h; omega
theorem wf_u8 {a : Int} (h : (Lit.int .u8 a).wf = true) : 0 ≤ a ∧ a ≤ 255 := by
  simp [Lit.wf, IntKind.min, IntKind.max, IntKind.signed, IntKind.bits] at h; omega
theorem wf_u16 {a : Int} (h : (Lit.int .u16 a).wf = true) : 0 ≤ a ∧ a ≤ 65535 := by
  simp [Lit.wf, IntKind.min, IntKind.max, IntKind.signed, IntKind.bits] at h; omega
theorem wf_u32 {a : Int} (h : (Lit.int .u32 a).wf = true) : 0 ≤ a ∧ a ≤ 4294967295 := by
  simp [Lit.wf, IntKind.min, IntKind.max, IntKind.signed, IntKind.bits] at h; omega
end Go.Proofs.Ytngkhligjkcbmaa
