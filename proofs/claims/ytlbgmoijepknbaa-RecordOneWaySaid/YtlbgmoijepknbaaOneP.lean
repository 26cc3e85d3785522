/- Plain laws: what is encoded is decoded to the value, and what is decoded is what is encoded. -/
import Derived.Test.YtlbgmoijepknbaaDecW
import Derived.Test.YtlbgmoijepknbaaPairB
import Derived.Test.YtlbgmoijepknbaaNames
namespace Go.Proofs.Ytlbgmoijepknbaa
open Go.RowKit
set_option linter.unusedVariables false

theorem pow8 (i : Nat) : (2 : Int) ^ ((i + 1) * 8) = 256 * 2 ^ (i * 8) := by
  rw [show (i + 1) * 8 = 8 + i * 8 by omega, Int.pow_add]; rfl
theorem pow8_pos (i : Nat) : 0 < (2 : Int) ^ (i * 8) := Int.pow_pos (by omega)
theorem leN_digit (bs : List Int) (h : ∀ b ∈ bs, 0 ≤ b ∧ b ≤ 255) (i : Nat) (hi : i < bs.length) : leN bs / 2 ^ (i * 8) % 256 = bs[i] := by
  induction bs generalizing i with
  | nil => simp at hi
  | cons b r ih =>
    have hb := h b (by simp)
    cases i with
    | zero => simp [leN]; omega
    | succ i =>
      rw [leN, pow8, ← Int.ediv_ediv_of_nonneg (by omega), show (b + 256 * leN r) / 256 = leN r by omega]
      simpa using ih (fun c hc => h c (by simp [hc])) i (by simpa using hi)
theorem emod_mul256 (x m : Int) (hm : 0 < m) : x % (256 * m) = x % 256 + 256 * (x / 256 % m) := by
  have h1 : x = 256 * (x / 256) + x % 256 := (Int.mul_ediv_add_emod x 256).symm
  have h2 : x / 256 = m * (x / 256 / m) + x / 256 % m := (Int.mul_ediv_add_emod _ m).symm
  have h3 := Int.emod_nonneg (x / 256) (Int.ne_of_gt hm)
  have h4 := Int.emod_lt_of_pos (x / 256) hm
  have h5 : x = (x % 256 + 256 * (x / 256 % m)) + 256 * m * (x / 256 / m) := by
    rw [Int.mul_assoc]; omega
  rw [h5, Int.add_mul_emod_self_left]
  rw [← h5]
  apply Int.emod_eq_of_lt
  · omega
  · omega
theorem leN_digits (x : Int) (k : Nat) : leN ((List.range k).map fun i => x / 2 ^ (i * 8) % 256) = x % 2 ^ (k * 8) := by
  induction k generalizing x with
  | zero => simp [leN]
  | succ k ih =>
    rw [List.range_succ_eq_map, List.map_cons, List.map_map, leN]
    have e : ((fun i => x / 2 ^ (i * 8) % 256) ∘ Nat.succ) = fun i : Nat => (x / 256) / 2 ^ (i * 8) % 256 := by
      funext i
      simp only [Function.comp, Nat.succ_eq_add_one]
      rw [pow8, Int.ediv_ediv_of_nonneg (by omega)]
    rw [e, ih, pow8, emod_mul256 _ _ (pow8_pos k)]
    simp

theorem part_bound (bs : List Int) (h : ∀ b ∈ bs, 0 ≤ b ∧ b ≤ 255) (j : Nat) : 0 ≤ pkw bs j ∧ pkw bs j < 2 ^ (min 8 (bs.length - 8 * j) * 8) := by
  unfold pkw
  have h1 := leN_bound ((bs.drop (8 * j)).take 8) (fun b hb => h b (List.mem_of_mem_drop (List.mem_of_mem_take hb)))
  rwa [List.length_take, List.length_drop] at h1
theorem pow_le64 (k : Nat) (h : k ≤ 8) : (2 : Int) ^ (k * 8) ≤ 18446744073709551616 := by
  have : k = 0 ∨ k = 1 ∨ k = 2 ∨ k = 3 ∨ k = 4 ∨ k = 5 ∨ k = 6 ∨ k = 7 ∨ k = 8 := by omega
  rcases this with rfl | rfl | rfl | rfl | rfl | rfl | rfl | rfl | rfl <;> decide

theorem unpk_get (ws : List Int) (n i : Nat) (h : i < (unpk ws n).length) : (unpk ws n)[i] = (ws[i / 8]?.getD 0) / 2 ^ (i % 8 * 8) % 256 := by simp [unpk]

theorem name_back (s : ByteArray) (hs : s.size ≤ 16) : nameDec (s.size : Int) (pkw (bytesOf s) 0) (pkw (bytesOf s) 1) = some (bytesOf s) := by
  have hb := bytesOf_bound s
  have hl := length_bytesOf s
  obtain ⟨a0, b0⟩ := part_bound (bytesOf s) hb 0
  obtain ⟨a1, b1⟩ := part_bound (bytesOf s) hb 1
  rw [hl] at b0 b1
  have u0 := Int.lt_of_lt_of_le b0 (pow_le64 _ (Nat.min_le_left _ _))
  have u1 := Int.lt_of_lt_of_le b1 (pow_le64 _ (Nat.min_le_left _ _))
  rw [nameDec_eq s.size _ _ hs a0 a1 u0 u1]
  have r0 : rst (pkw (bytesOf s) 0) s.size 0 = 0 := Int.ediv_eq_zero_of_lt a0 b0
  have r1 : rst (pkw (bytesOf s) 1) s.size 1 = 0 := Int.ediv_eq_zero_of_lt a1 b1
  rw [r0, r1, if_pos (by decide)]
  congr 1
  apply List.ext_getElem
  · rw [length_unpk, hl]
  · intro i h1 h2
    rw [unpk_get]
    rw [length_unpk] at h1
    have hi : i < (bytesOf s).length := by omega
    rcases Nat.lt_or_ge i 8 with h8 | h8
    · rw [show i / 8 = 0 by omega, show i % 8 = i by omega]
      have := leN_digit (((bytesOf s).drop (8 * 0)).take 8) (fun b hb' => hb b (List.mem_of_mem_drop (List.mem_of_mem_take hb'))) i (by simp; omega)
      simp only [List.getElem?_cons_zero, Option.getD_some]
      unfold pkw
      rw [this]
      simp
    · rw [show i / 8 = 1 by omega, show i % 8 = i - 8 by omega]
      have := leN_digit (((bytesOf s).drop (8 * 1)).take 8) (fun b hb' => hb b (List.mem_of_mem_drop (List.mem_of_mem_take hb'))) (i - 8) (by simp; omega)
      simp only [List.getElem?_cons_succ, List.getElem?_cons_zero, Option.getD_some]
      unfold pkw
      rw [this]
      simp only [List.getElem_take, List.getElem_drop]
      congr 1
      omega

theorem unpk_part (x1 x2 : Int) (n j : Nat) (x : Int) (hx : [x1, x2][j]?.getD 0 = x) (hn : n ≤ 16) (hj : j ≤ 1) : pkw (unpk [x1, x2] n) j = x % 2 ^ (min 8 (n - 8 * j) * 8) := by
  unfold pkw
  rw [← leN_digits]
  congr 1
  apply List.ext_getElem
  · simp [length_unpk]
  · intro i h1 h2
    simp only [List.length_take, List.length_drop, length_unpk] at h1
    rw [List.getElem_take, List.getElem_drop, List.getElem_map, List.getElem_range, unpk_get]
    rw [show (8 * j + i) / 8 = j by omega, show (8 * j + i) % 8 = i by omega, hx]

theorem lt_of_div_zero {x m : Int} (h : 0 ≤ x) (hm : 0 < m) (hd : x / m = 0) : x < m := by
  have h1 := Int.mul_ediv_add_emod x m
  have h2 := Int.emod_lt_of_pos x hm
  rw [hd] at h1
  omega

theorem name_enc (x0 x1 x2 : Int) (l : List Int) (h0 : 0 ≤ x0) (h1 : 0 ≤ x1) (h2 : 0 ≤ x2) (u1 : x1 < 18446744073709551616) (u2 : x2 < 18446744073709551616) (h : nameDec x0 x1 x2 = some l) :
    nameEnc (bytesOf (strOf l)) = [x0, x1, x2] ∧ (strOf l).size ≤ 16 := by
  by_cases hx : 16 < x0
  · rw [show nameDec x0 x1 x2 = none from if_pos hx] at h; cases h
  · obtain ⟨n, rfl⟩ := Int.eq_ofNat_of_zero_le h0
    have hn : n ≤ 16 := by omega
    rw [nameDec_eq n x1 x2 hn h1 h2 u1 u2] at h
    split at h
    · rename_i hr
      injection h with h
      subst h
      simp only [Bool.and_eq_true, beq_iff_eq] at hr
      have hbd : ∀ b ∈ unpk [x1, x2] n, 0 ≤ b ∧ b ≤ 255 := by
        intro b hb
        unfold unpk at hb
        obtain ⟨i, _, rfl⟩ := List.mem_map.1 hb
        omega
      rw [bytesOf_strOf _ hbd, nameEnc_eq _ (by rw [length_unpk]; exact hn), length_unpk]
      have f1 : x1 % 2 ^ (min 8 (n - 8 * 0) * 8) = x1 := by
        apply Int.emod_eq_of_lt h1
        have hm := pow8_pos (min 8 (n - 8 * 0))
        have hr1 := hr.1
        unfold rst at hr1
        exact lt_of_div_zero h1 hm hr1
      have f2 : x2 % 2 ^ (min 8 (n - 8 * 1) * 8) = x2 := by
        apply Int.emod_eq_of_lt h2
        have hm := pow8_pos (min 8 (n - 8 * 1))
        have hr2 := hr.2
        unfold rst at hr2
        exact lt_of_div_zero h2 hm hr2
      rw [unpk_part x1 x2 n 0 x1 rfl hn (by omega), unpk_part x1 x2 n 1 x2 rfl hn (by omega), f1, f2]
      refine ⟨rfl, ?_⟩
      rw [← length_bytesOf, bytesOf_strOf _ hbd, length_unpk]; exact hn
    · cases h
end Go.Proofs.Ytlbgmoijepknbaa
