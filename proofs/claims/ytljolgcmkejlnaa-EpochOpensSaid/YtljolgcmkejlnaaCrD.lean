/- Contract of Image: a crash image of a device. -/
import Derived.Test.YtljolgcmkejlnaaCrC
namespace Go.Proofs.Ytljolgcmkejlnaa
open Go.RowKit
set_option linter.unusedVariables false

def histL (S : DevS) (q : Nat) : List (Int × Int) := (S.lns[q]?.map (·.hist)).getD []
theorem hlen_histL (S : DevS) (q : Nat) : (histL S q).length = hlen S q := by
  unfold histL hlen
  cases S.lns[q]? with
  | none => rfl
  | some l => rfl
/-- How many stores of a line a choice selects. -/
def imgK (S : DevS) (cs : List Int) (q : Nat) : Nat := (cs[(dirtyL S S.lns.length).idxOf q % cs.length]?.getD 0).toNat % (hlen S q + 1)
/-- The words after the first k dirty lines. -/
def imgC (S : DevS) (K : Nat → Nat) (D : List Nat) (k : Nat) : List Int := (D.take k).foldl (fun xs q => applyW xs ((histL S q).take (K q))) S.pers
theorem imgC_step (S : DevS) (K : Nat → Nat) (D : List Nat) (k : Nat) (hk : k < D.length) : imgC S K D (k + 1) = applyW (imgC S K D k) ((histL S D[k]).take (K D[k])) := by
  unfold imgC
  rw [List.take_succ_eq_append_getElem hk, List.foldl_append]; rfl
theorem length_imgC (S : DevS) (K : Nat → Nat) (D : List Nat) : ∀ k, (imgC S K D k).length = S.pers.length := by
  intro k
  induction k with
  | zero => rfl
  | succ k ih =>
    by_cases hk : k < D.length
    · rw [imgC_step S K D k hk, length_applyW, ih]
    · unfold imgC at ih ⊢
      rw [List.take_of_length_le (by omega)] at ih ⊢
      exact ih
theorem mem_dirtyL {S : DevS} {k q : Nat} : q ∈ dirtyL S k ↔ q < k ∧ 0 < hlen S q := by unfold dirtyL; simp
theorem nodup_dirtyL (S : DevS) (k : Nat) : (dirtyL S k).Nodup := List.Pairwise.sublist List.filter_sublist List.nodup_range
section
variable {S : DevS} {N : Nat}
theorem hist_line (h : Good S N) (q : Nat) : ∀ p ∈ histL S q, ∃ k : Nat, p.1 = 8 * (k : Int) ∧ k / 8 = q := by
  intro p hp
  unfold histL at hp
  cases hl : S.lns[q]? with
  | none => rw [hl] at hp; simp at hp
  | some l =>
    rw [hl] at hp
    exact (h.ln q l hl).2.2 p hp
/-- The words after dirty lines, one by one. -/
theorem imgC_at (h : Good S N) (K : Nat → Nat) (D : List Nat) (hD : D.Nodup) (j : Nat) : ∀ k, k ≤ D.length → (imgC S K D k)[j]? = if j / 8 ∈ D.take k then (applyW S.pers ((histL S (j / 8)).take (K (j / 8))))[j]? else S.pers[j]? := by
  intro k
  induction k with
  | zero => intro _; simp [imgC]
  | succ k ih =>
    intro hk
    have hkl : k < D.length := by omega
    have ih := ih (by omega)
    rw [imgC_step S K D k hkl, List.take_succ_eq_append_getElem hkl]
    by_cases hq : D[k] = j / 8
    · have hnot : ¬ j / 8 ∈ D.take k := by
        intro hm
        obtain ⟨i, hi, hie⟩ := List.getElem_of_mem hm
        have hik : i < k := by simp at hi; omega
        rw [List.getElem_take] at hie
        have := (List.getElem_inj hD).1 (hie.trans hq.symm)
        omega
      rw [if_neg hnot] at ih
      rw [if_pos (by simp [hq]), hq]
      exact applyW_congr _ j _ _ (length_imgC S K D k) ih
    · rw [applyW_none _ j (fun p hp => by
        obtain ⟨i, hi1, hi2⟩ := hist_line h D[k] p (List.mem_of_mem_take hp)
        rw [hi1]; omega), ih]
      have : (j / 8 ∈ D.take k ++ [D[k]]) = (j / 8 ∈ D.take k) := by
        simp only [List.mem_append, List.mem_singleton, eq_iff_iff]
        constructor
        · rintro (h | h)
          · exact h
          · exact absurd h.symm hq
        · exact .inl
      simp only [this]
/-- What all dirty lines make of the words. -/
theorem imgC_all (h : Good S N) (K : Nat → Nat) : imgC S K (dirtyL S S.lns.length) (dirtyL S S.lns.length).length = (S.upto K).pers := by
  apply List.ext_getElem?
  intro j
  by_cases hj : j < S.pers.length
  · rw [imgC_at h K _ (nodup_dirtyL S _) j _ (Nat.le_refl _), List.take_length, upto_pers K j hj]
    have hl : j / 8 < S.lns.length := by have := h.np; omega
    have e1 : (S.lns[j / 8]?.map (·.hist)).getD [] = histL S (j / 8) := rfl
    rw [e1]
    by_cases hm : j / 8 ∈ dirtyL S S.lns.length
    · rw [if_pos hm]
    · rw [if_neg hm]
      have h0 : hlen S (j / 8) = 0 := Nat.eq_zero_of_not_pos (fun h0 => hm (mem_dirtyL.2 ⟨hl, h0⟩))
      have : histL S (j / 8) = [] := List.eq_nil_of_length_eq_zero (by rw [hlen_histL]; exact h0)
      rw [this]; simp [applyW]
  · rw [List.getElem?_eq_none (by rw [length_imgC]; omega), List.getElem?_eq_none (by rw [(length_upto K).1]; omega)]
end
end Go.Proofs.Ytljolgcmkejlnaa
