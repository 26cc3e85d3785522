/- Slices of triples (uint8, uint8, uint64) that came in. -/
import Derived.Test.YtngkhligjkcbmaaRow
import Derived.Test.YtngkhligjkcbmaaProg
import Derived.Deep.SlicePairs
namespace Go.Proofs.Ytngkhligjkcbmaa
open Go.RowKit
set_option linter.unusedVariables false

/-- A slice of triples. -/
def IsTrips (w : World) (A : Option Addr) (len cap : Nat) (acts : List (Int × Int × Int)) : Prop :=
  acts.length = len ∧ len ≤ cap ∧ cap ≤ 9223372036854775807 ∧ ∀ k (h : k < acts.length), ∃ b off, A = some ⟨b, off, none⟩ ∧ b < w.heap.size ∧
    w.cell? ⟨b, off + k * 3, none⟩ = some (.int .u8 acts[k].1) ∧ w.cell? ⟨b, off + k * 3 + 1, none⟩ = some (.int .u8 acts[k].2.1) ∧ w.cell? ⟨b, off + k * 3 + 2, none⟩ = some (.int .u64 acts[k].2.2) ∧
    (0 ≤ acts[k].1 ∧ acts[k].1 ≤ 255) ∧ (0 ≤ acts[k].2.1 ∧ acts[k].2.1 ≤ 255) ∧ (0 ≤ acts[k].2.2 ∧ acts[k].2.2 < 18446744073709551616)
theorem isTrips_of {P : Program} {H : Type} {enc : TypeId × Value → H} {W : World} {fuel : Nat} {A : Option Addr} {len cap : Nat} {x : DataW H × List MemPlace} {t e : TypeId} {f0 f1 f2 : Field}
    (ht : P.underlying t = some (.slice e)) (he : P.underlying e = some (.struct #[f0, f1, f2])) (ce : P.cellsOf e = 3) (o0 : f0.offset = 0) (o1 : f1.offset = 1) (o2 : f2.offset = 2)
    (c0 : P.cellsOf f0.type = 1) (c1 : P.cellsOf f1.type = 1) (c2 : P.cellsOf f2.type = 1) (u0 : P.underlying f0.type = some (.int .u8)) (u1 : P.underlying f1.type = some (.int .u8)) (u2 : P.underlying f2.type = some (.int .u64))
    (h : DataW.trod enc P W 0 (fun _ => true) true fuel t [.slice A len cap] = some x) : ∃ acts, IsTrips W A len cap acts := by
  rcases Go.Deep.open_slice ht h with ⟨hcs, _⟩ | ⟨a, l, c, m, n, D, Pl, hcs, hb, hl, hm, hmm, _, hx⟩
  · simp only [List.cons.injEq, Value.slice.injEq, and_true] at hcs
    obtain ⟨rfl, rfl, rfl⟩ := hcs
    exact ⟨[], rfl, Nat.le_refl _, by omega, fun k h => by simp at h⟩
  · simp only [List.cons.injEq, Value.slice.injEq, and_true] at hcs
    obtain ⟨rfl, rfl, rfl⟩ := hcs
    simp only [if_true] at hmm
    have each : ∀ i, i < m → ∃ p : Int × Int × Int, W.cell? (a.add (i * 3)) = some (.int .u8 p.1) ∧ W.cell? (a.add (i * 3 + 1)) = some (.int .u8 p.2.1) ∧ W.cell? (a.add (i * 3 + 2)) = some (.int .u64 p.2.2) ∧
        (0 ≤ p.1 ∧ p.1 ≤ 255) ∧ (0 ≤ p.2.1 ∧ p.2.1 ≤ 255) ∧ (0 ≤ p.2.2 ∧ p.2.2 < 18446744073709551616) := by
      intro i hi
      obtain ⟨cs', h1, h2⟩ := hx i hi
      rw [ce] at h1
      obtain ⟨_, hlen, hcell⟩ := World.cells?_some h1
      obtain ⟨xs, k, hk, hxy, _, hxl, hf⟩ := DataW.trod_struct he h2
      match xs, hxl, cs', hlen with
      | [y0, y1, y2], _, [v0, v1, v2], _ =>
        have g0 := hf 0 f0 rfl
        have g1 := hf 1 f1 rfl
        have g2 := hf 2 f2 rfl
        simp [o0, o1, o2, c0, c1, c2] at g0 g1 g2
        have e0 := hcell 0 (by omega)
        have e1 := hcell 1 (by omega)
        have e2 := hcell 2 (by omega)
        rw [Go.Deep.add_add] at e0 e1 e2
        obtain ⟨z0, q0, _, r0⟩ := DataW.trod_int u0 g0
        obtain ⟨z1, q1, _, r1⟩ := DataW.trod_int u1 g1
        obtain ⟨z2, q2, _, r2⟩ := DataW.trod_int u2 g2
        simp only [List.cons.injEq, and_true] at q0 q1 q2
        subst q0 q1 q2
        exact ⟨(z0, z1, z2), by simpa using e0, by simpa using e1, by simpa using e2, wf_u8 r0, wf_u8 r1, wf_u64 r2⟩
    obtain ⟨q, hq⟩ := Go.Deep.choose_lt each
    refine ⟨(List.range len).map q, by simp, hl, by unfold maxLen at hm; omega, fun k hk => ?_⟩
    have hk' : k < len := by simpa using hk
    obtain ⟨e0, e1, e2, r0, r1, r2⟩ := hq k (by omega)
    have h00 := (hq 0 (by omega)).1
    have hx0 : a.add (0 * 3) = a := by simp [Addr.add]
    rw [hx0] at h00
    have hlt := World.block_lt_of_cell? W a h00
    obtain ⟨b, off, sp⟩ := a
    have hsp : sp = none := by
      cases sp with
      | none => rfl
      | some s =>
        unfold World.cell? at h00
        split at h00 <;> simp at h00
    subst hsp
    have h3 : ∀ i, (⟨b, off, none⟩ : Addr).add i = ⟨b, off + i, none⟩ := by intro i; unfold Addr.add; split <;> simp_all
    rw [h3] at e0 e1 e2
    simp only [List.getElem_map, List.getElem_range]
    refine ⟨b, off, rfl, hlt, e0, ?_, ?_, r0, r1, r2⟩
    · rw [← Nat.add_assoc] at e1; exact e1
    · rw [← Nat.add_assoc] at e2; exact e2
end Go.Proofs.Ytngkhligjkcbmaa
