/- The law RecordArrays returns true. -/
import Derived.Test.YtlbgmoijepknbaaAwake
import Derived.Test.YtlbgmoijepknbaaRefA
import Derived.Test.YtlbgmoijepknbaaMin
namespace Go.Proofs.Ytlbgmoijepknbaa
open Go.RowKit
set_option linter.unusedVariables false

theorem u64_wrap64 (x : Int) (h : 0 ≤ x) (h' : x < 18446744073709551616) : IntKind.u64.wrap (wrap64 x) = x := by
  unfold wrap64; rw [IntKind.wrap_u64]; omega

def UaPost (W : World) (k : Nat) (is : Bool) (ms : List Int) (e : Ending) (w' : World) : Prop := (∃ A' c', e = .returned (.tuple #[.slice A' k c', .bool is]) ∧ Rd .u64 W A' ms) ∧ W = w'
def AdPost (W : World) (k : Nat) (is : Bool) (ms : List Int) (e : Ending) (w' : World) : Prop := (∃ A' c', e = .returned (.tuple #[.slice A' k c', .bool is]) ∧ Rd .i64 w' A' (ms.map wrap64)) ∧ Below W.heap.size W w'

/-- Of a slice of words the reference and the program return the same numbers. -/
theorem arrays_dec (w : World) (n : Int) (hn : n ≤ 40) (A : Option Addr) (m c : Nat) (xs : List Int) (hl : xs.length = m) (hc : m ≤ c) (hm : m ≤ 50) (hR : Rd .u64 w A xs) (hx : ∀ x ∈ xs, 0 ≤ x ∧ x < 18446744073709551616) :
    ∃ (k : Nat) (is : Bool) (ms : List Int), ms.length = k ∧ k ≤ 50 ∧ (∀ x ∈ ms, 0 ≤ x ∧ x < 18446744073709551616) ∧
      (∀ W, Below w.heap.size w W → Calls Try.prog 46 #[.int .i64 n, .slice A m c] W (UaPost W k is ms)) ∧
      (∀ W, Below w.heap.size w W → Calls Try.prog 47 #[.agg #[.int .i64 n, .iface 80 (.agg #[])], .slice A m c] W (AdPost W k is ms)) := by
  by_cases hbad : n < 0 ∨ (m : Int) ≠ n + 1
  · refine ⟨0, false, [], rfl, by omega, by simp, fun W hB => ?_, fun W hB => ?_⟩
    · refine (refUnarray_len W n A m c (by omega)).mono ?_
      rintro e w' ⟨rfl, rfl⟩
      exact ⟨⟨none, 0, rfl, .inl rfl⟩, rfl⟩
    · refine (arrIDecode_len W n A m c ?_).mono ?_
      · by_cases h0 : n < 0
        · exact .inl (arrW_neg h0)
        · right; rw [arrW_ok h0 (by omega)]; omega
      · rintro e w' ⟨rfl, hb⟩
        exact ⟨⟨none, 0, rfl, .inl rfl⟩, hb⟩
  · obtain ⟨N, rfl⟩ := Int.eq_ofNat_of_zero_le (show 0 ≤ n by omega)
    obtain rfl : m = N + 1 := by omega
    obtain ⟨g, off, rfl, hg, hc0⟩ := hR.at_ (i := 0) (by omega)
    have hcell : ∀ W, Below w.heap.size w W → g < W.heap.size ∧ W.cell? ⟨g, off, none⟩ = some (.int .u64 xs[0]) := by
      intro W hB
      obtain ⟨_, _, e0, q0, p0⟩ := (hR.below hB).at_ (i := 0) (by omega)
      injection e0 with e0; injection e0 with e0 e0'
      subst e0 e0'
      exact ⟨q0, p0⟩
    have b0 := hx xs[0] (List.getElem_mem _)
    generalize xs[0] = x0 at *
    by_cases hb : (N : Int) < x0
    · refine ⟨0, false, [], rfl, by omega, by simp, fun W hB => ?_, fun W hB => ?_⟩
      · refine (refUnarray_big W N (by omega) g off c x0 (hcell W hB).2 hb).mono ?_
        rintro e w' ⟨rfl, rfl⟩
        exact ⟨⟨none, 0, rfl, .inl rfl⟩, rfl⟩
      · refine (arrIDecode_big W N (by omega) g off c x0 (hcell W hB).1 (hcell W hB).2 hb).mono ?_
        rintro e w' ⟨rfl, hb⟩
        exact ⟨⟨none, 0, rfl, .inl rfl⟩, hb⟩
    · obtain ⟨u, rfl⟩ := Int.eq_ofNat_of_zero_le b0.1
      have hu : u ≤ N := by omega
      have hU := fun W (hB : Below w.heap.size w W) => refUnarray_any W N (by omega) g off c (xs.drop (1 + u)) ((xs.drop 1).take u) u (by simp; omega) (by simp; omega) hc ((hR.below hB).drop (1 + u)) (((hR.below hB).drop 1).take u) (hcell W hB).2 hu
      cases hz : (xs.drop (1 + u)).all (· == 0)
      · refine ⟨0, false, [], rfl, by omega, by simp, fun W hB => ?_, fun W hB => ?_⟩
        · refine (hU W hB).mono ?_
          rintro e w' ⟨⟨h, _⟩ | ⟨_, rfl⟩, rfl⟩
          · rw [hz] at h; cases h
          · exact ⟨⟨none, 0, rfl, .inl rfl⟩, rfl⟩
        · refine (arrIDecode_bad W N (by omega) g off c xs u hl hc (hR.below hB) (hcell W hB).1 (hcell W hB).2 hu hz).mono ?_
          rintro e w' ⟨rfl, hb⟩
          exact ⟨⟨none, 0, rfl, .inl rfl⟩, hb⟩
      · refine ⟨u, true, (xs.drop 1).take u, by simp; omega, by omega, fun x h => hx x (List.mem_of_mem_drop (List.mem_of_mem_take h)), fun W hB => ?_, fun W hB => ?_⟩
        · refine (hU W hB).mono ?_
          rintro e w' ⟨⟨_, A', c', rfl, hr⟩ | ⟨h, _⟩, rfl⟩
          · exact ⟨⟨A', c', rfl, hr⟩, rfl⟩
          · rw [hz] at h; cases h
        · refine (arrIDecode_ok W N (by omega) g off c xs u hl hc (hR.below hB) (hcell W hB).1 (hcell W hB).2 hu hz).mono ?_
          rintro e w' ⟨⟨A', c', rfl, hr⟩, hb⟩
          exact ⟨⟨A', c', rfl, hr⟩, hb⟩
end Go.Proofs.Ytlbgmoijepknbaa
