/- Plain law: the bytes of words, and the words that are made of them again. -/
import Derived.Test.YtjaohgnloddgfaaGreatDoorLib
import Derived.Laws.BitsAllLaws
namespace Go.Proofs.YtjaohgnloddgfaaGreatDoor
open Go.RowKit
set_option linter.unusedVariables false

/-- All words fit. -/
def Fits (ws : List Int) : Prop := ∀ x ∈ ws, 0 ≤ x ∧ x < 18446744073709551616
def byteAt (ws : List Int) (i : Nat) : Int := ws[i / 8]?.getD 0 / 2 ^ (i % 8 * 8) % 256
/-- The little-endian bytes of words. -/
def bytesL (ws : List Int) : List Int := (List.range (8 * ws.length)).map (byteAt ws)
theorem length_bytesL (ws : List Int) : (bytesL ws).length = 8 * ws.length := by simp [bytesL]
theorem bytesL_getq (ws : List Int) (i : Nat) (h : i < 8 * ws.length) : (bytesL ws)[i]? = some (byteAt ws i) := by
  simp [bytesL, h]
theorem bytesL_get (ws : List Int) (i : Nat) (h : i < (bytesL ws).length) : (bytesL ws)[i] = byteAt ws i := by
  simp [bytesL]
theorem byteAt_range (ws : List Int) (i : Nat) : 0 ≤ byteAt ws i ∧ byteAt ws i < 256 := by unfold byteAt; omega
theorem Fits.getD {ws : List Int} (h : Fits ws) (i : Nat) : 0 ≤ ws[i]?.getD 0 ∧ ws[i]?.getD 0 < 18446744073709551616 := by
  by_cases hi : i < ws.length
  · rw [List.getElem?_eq_getElem hi]; exact h _ (List.getElem_mem hi)
  · rw [List.getElem?_eq_none (by omega)]; exact ⟨Int.le_refl _, by decide⟩
theorem Fits.set {ws : List Int} (h : Fits ws) (i : Nat) {v : Int} (hv : 0 ≤ v ∧ v < 18446744073709551616) : Fits (ws.set i v) := by
  intro x hx
  rcases List.mem_or_eq_of_mem_set hx with h1 | h1
  · exact h x h1
  · rw [h1]; exact hv
theorem Fits.zeros (n : Nat) : Fits (List.replicate n 0) := by
  intro x hx
  rw [(List.mem_replicate.1 hx).2]; exact ⟨Int.le_refl _, by decide⟩

/-- The bytes of which k are laid. -/
def byPad (ws : List Int) (k : Nat) : List Int := (bytesL ws).take k ++ List.replicate (8 * ws.length - k) 0
theorem byPad_zero (ws : List Int) : byPad ws 0 = List.replicate (8 * ws.length) 0 := by simp [byPad]
theorem byPad_all (ws : List Int) : byPad ws (8 * ws.length) = bytesL ws := by
  unfold byPad
  rw [List.take_of_length_le (by rw [length_bytesL]; omega), Nat.sub_self]; simp
theorem length_byPad (ws : List Int) (k : Nat) (hk : k ≤ 8 * ws.length) : (byPad ws k).length = 8 * ws.length := by simp [byPad, length_bytesL]; omega
theorem byPad_set (ws : List Int) (k : Nat) (hk : k < 8 * ws.length) : (byPad ws k).set k (byteAt ws k) = byPad ws (k + 1) := by
  have hkl : k < (bytesL ws).length := by rw [length_bytesL]; exact hk
  unfold byPad
  rw [List.take_succ_eq_append_getElem hkl, bytesL_get, List.set_append_right _ _ (by simp; omega)]
  obtain ⟨m, hm⟩ : ∃ m, 8 * ws.length - k = m + 1 := ⟨8 * ws.length - k - 1, by omega⟩
  have e1 : k - ((bytesL ws).take k).length = 0 := by simp; omega
  rw [e1, hm, List.replicate_succ, List.set_cons_zero, show 8 * ws.length - (k + 1) = m by omega]
  simp

/-- The words of which i bytes are laid. -/
def partAt (ws : List Int) (i j : Nat) : Int := ws[j]?.getD 0 % 2 ^ (8 * min 8 (i - 8 * j))
def partW (ws : List Int) (i : Nat) : List Int := (List.range ws.length).map (partAt ws i)
theorem length_partW (ws : List Int) (i : Nat) : (partW ws i).length = ws.length := by simp [partW]
theorem partW_get (ws : List Int) (i j : Nat) (h : j < ws.length) : (partW ws i)[j]? = some (partAt ws i j) := by simp [partW, h]
theorem partW_zero (ws : List Int) : partW ws 0 = List.replicate ws.length 0 := by
  apply List.ext_getElem?
  intro j
  by_cases h : j < ws.length
  · rw [partW_get ws 0 j h]; simp [h, partAt]
  · rw [List.getElem?_eq_none (by rw [length_partW]; omega), List.getElem?_eq_none (by simp; omega)]
theorem partW_all (ws : List Int) (hf : Fits ws) : partW ws (8 * ws.length) = ws := by
  apply List.ext_getElem?
  intro j
  by_cases h : j < ws.length
  · rw [partW_get ws _ j h, List.getElem?_eq_getElem h]
    have hb := hf _ (List.getElem_mem h)
    unfold partAt
    rw [List.getElem?_eq_getElem h, show min 8 (8 * ws.length - 8 * j) = 8 by omega]
    simp only [Option.getD_some, Nat.reduceMul, Int.reducePow]
    congr 1
    omega
  · rw [List.getElem?_eq_none (by rw [length_partW]; omega), List.getElem?_eq_none (by omega)]
theorem partAt_now (ws : List Int) (i : Nat) : partAt ws i (i / 8) = ws[i / 8]?.getD 0 % 2 ^ (i % 8 * 8) := by
  unfold partAt
  rw [show min 8 (i - 8 * (i / 8)) = i % 8 by omega, Nat.mul_comm]
theorem partW_step (ws : List Int) (i : Nat) (hi : i < 8 * ws.length) : (partW ws i).set (i / 8) (ws[i / 8]?.getD 0 % 2 ^ ((i % 8 + 1) * 8)) = partW ws (i + 1) := by
  have hl : i / 8 < ws.length := by omega
  apply List.ext_getElem?
  intro j
  rw [List.getElem?_set]
  by_cases hj : i / 8 = j
  · subst hj
    rw [if_pos rfl, if_pos (by rw [length_partW]; exact hl), partW_get ws _ _ hl]
    unfold partAt
    rw [show min 8 (i + 1 - 8 * (i / 8)) = i % 8 + 1 by omega, Nat.mul_comm]
  · rw [if_neg hj]
    by_cases h : j < ws.length
    · rw [partW_get ws i j h, partW_get ws _ j h]
      unfold partAt
      rw [show min 8 (i + 1 - 8 * j) = min 8 (i - 8 * j) by omega]
    · rw [List.getElem?_eq_none (by rw [length_partW]; omega), List.getElem?_eq_none (by rw [length_partW]; omega)]
/-- A byte is laid into a word. -/
theorem or_byte (v : Int) (hv : 0 ≤ v ∧ v < 18446744073709551616) (s : Nat) (hs : s < 8) : bits .or .u64 (v % 2 ^ (s * 8)) (IntKind.u64.wrap (v / 2 ^ (s * 8) % 256 * 2 ^ (s * 8))) = v % 2 ^ ((s + 1) * 8) := by
  obtain ⟨n, rfl⟩ := Int.eq_ofNat_of_zero_le hv.1
  have hp : ∀ k : Nat, (2 : Int) ^ k = ((2 ^ k : Nat) : Int) := fun k => (Int.natCast_pow 2 k).symm
  have key : n % 2 ^ (s * 8) + 2 ^ (s * 8) * (n / 2 ^ (s * 8) % 256) = n % 2 ^ ((s + 1) * 8) := by
    rw [show (s + 1) * 8 = s * 8 + 8 by omega, Nat.pow_add, Nat.mod_mul]
  have hlt : n % 2 ^ (s * 8) < 2 ^ (s * 8) := Nat.mod_lt _ (Nat.two_pow_pos _)
  have h64 : n % 2 ^ ((s + 1) * 8) < 18446744073709551616 := Nat.lt_of_le_of_lt (Nat.mod_le _ _) (by omega)
  have h2 := Nat.two_pow_add_eq_or_of_lt hlt (n / 2 ^ (s * 8) % 256)
  rw [hp (s * 8), hp ((s + 1) * 8)]
  generalize 2 ^ (s * 8) = a at *
  generalize 2 ^ ((s + 1) * 8) = b at *
  have e1 : ((n : Nat) : Int) / (a : Int) % 256 * (a : Int) = ((a * (n / a % 256) : Nat) : Int) := by
    rw [Int.natCast_mul, Int.natCast_emod, Int.natCast_ediv, Int.mul_comm]; rfl
  have e2 : ((n : Nat) : Int) % (a : Int) = ((n % a : Nat) : Int) := (Int.natCast_emod n a).symm
  have e3 : ((n : Nat) : Int) % (b : Int) = ((n % b : Nat) : Int) := (Int.natCast_emod n b).symm
  rw [e1, e2, e3, IntWalk.u64_in _ (by omega), bits_or_u64_nat _ _ (by omega) (by omega), Nat.or_comm, ← h2]
  congr 1
  omega
end Go.Proofs.YtjaohgnloddgfaaGreatDoor
