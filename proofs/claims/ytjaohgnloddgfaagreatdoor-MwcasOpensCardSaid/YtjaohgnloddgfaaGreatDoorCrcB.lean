/- Plain law: a bit that is inverted in words and in their bytes; the words as one number. -/
import Derived.Test.YtjaohgnloddgfaaGreatDoorCrc
import Derived.Test.YtjaohgnloddgfaaGreatDoorBytes
namespace Go.Proofs.YtjaohgnloddgfaaGreatDoor
open Go.RowKit
set_option linter.unusedVariables false

def nats (ws : List Int) : List Nat := ws.map Int.toNat
theorem nats_lt {ws : List Int} (h : Fits ws) : ∀ w ∈ nats ws, w < 2 ^ 64 := by
  intro w hw
  obtain ⟨x, hx, rfl⟩ := List.mem_map.1 hw
  have := h x hx
  omega
theorem nats_inj {a b : List Int} (ha : Fits a) (hb : Fits b) (h : nats a = nats b) : a = b := by
  have e : ∀ {c : List Int}, Fits c → c = (nats c).map fun (n : Nat) => (n : Int) := by
    intro c hc
    unfold nats
    rw [List.map_map]
    apply List.ext_getElem
    · simp
    · intro i h1 h2
      have := hc _ (List.getElem_mem h1)
      simp; omega
  rw [e ha, e hb, h]
theorem crN_inj : ∀ (a b : List Nat), a.length = b.length → (∀ w ∈ a, w < 2 ^ 64) → (∀ w ∈ b, w < 2 ^ 64) → crN a = crN b → a = b := by
  intro a
  induction a with
  | nil => intro b hl _ _ _; cases b with | nil => rfl | cons => cases hl
  | cons x a ih =>
    intro b hl ha hb h
    cases b with
    | nil => cases hl
    | cons y b =>
      have hx := ha x (by simp)
      have hy := hb y (by simp)
      have h1 : ∀ (u v : Nat), u < 2 ^ 64 → (u ^^^ v * 2 ^ 64) % 2 ^ 64 = u := by
        intro u v hu
        rw [Nat.xor_mod_two_pow, Nat.mul_mod_left, Nat.xor_zero, Nat.mod_eq_of_lt hu]
      have h2 : ∀ (u v : Nat), u < 2 ^ 64 → (u ^^^ v * 2 ^ 64) / 2 ^ 64 = v := by
        intro u v hu
        rw [Nat.xor_div_two_pow, Nat.div_eq_of_lt hu, Nat.zero_xor, Nat.mul_div_cancel _ (by decide)]
      have hxy : x = y := by rw [← h1 x (crN a) hx, ← h1 y (crN b) hy]; exact congrArg (· % 2 ^ 64) h
      have hab : crN a = crN b := by rw [← h2 x (crN a) hx, ← h2 y (crN b) hy]; exact congrArg (· / 2 ^ 64) h
      rw [hxy, ih b (by simpa using hl) (fun w hw => ha w (by simp [hw])) (fun w hw => hb w (by simp [hw])) hab]

/-- Words of which bit k is inverted. -/
def flipK (ws : List Int) (k : Nat) : List Int := ws.set (k / 64) ((((ws[k / 64]?.getD 0).toNat ^^^ 2 ^ (k % 64) : Nat)) : Int)
theorem length_flipK (ws : List Int) (k : Nat) : (flipK ws k).length = ws.length := by simp [flipK]
theorem Fits.flipK {ws : List Int} (h : Fits ws) (k : Nat) : Fits (flipK ws k) := by
  refine h.set _ ?_
  have h0 := h.getD (k / 64)
  have := Nat.xor_lt_two_pow (n := 64) (x := (ws[k / 64]?.getD 0).toNat) (y := 2 ^ (k % 64)) (by omega) (Nat.pow_lt_pow_right (by omega) (by omega))
  omega
theorem crN_set : ∀ (a : List Nat) (i t : Nat), i < a.length → crN (a.set i (a[i]?.getD 0 ^^^ 2 ^ t)) = crN a ^^^ 2 ^ (64 * i + t) := by
  intro a
  induction a with
  | nil => intro i t h; simp at h
  | cons x a ih =>
    intro i t h
    cases i with
    | zero =>
      simp only [List.set_cons_zero, List.getElem?_cons_zero, Option.getD_some, crN, Nat.mul_zero, Nat.zero_add]
      rw [Nat.xor_assoc, Nat.xor_comm (2 ^ t), ← Nat.xor_assoc]
    | succ i =>
      simp only [List.set_cons_succ, List.getElem?_cons_succ, crN]
      rw [ih i t (by simpa using h), xor_mul_pow, ← Nat.xor_assoc, ← Nat.pow_add, show 64 * i + t + 64 = 64 * (i + 1) + t by omega]
theorem crN_flip {ws : List Int} (k : Nat) (hk : k < 64 * ws.length) : crN (nats (flipK ws k)) = crN (nats ws) ^^^ 2 ^ k := by
  have hi : k / 64 < ws.length := by omega
  have e : nats (flipK ws k) = (nats ws).set (k / 64) ((nats ws)[k / 64]?.getD 0 ^^^ 2 ^ (k % 64)) := by
    unfold nats flipK
    rw [List.map_set, Int.toNat_natCast, List.getElem?_map, List.getElem?_eq_getElem hi]
    rfl
  rw [e, crN_set _ _ _ (by simpa [nats] using hi), show 64 * (k / 64) + k % 64 = k by omega]
theorem byte_flip (x t b : Nat) : (x ^^^ 2 ^ t) / 2 ^ (b * 8) % 256 = (x / 2 ^ (b * 8) % 256) ^^^ (if t / 8 = b then 2 ^ (t % 8) else 0) := by
  apply Nat.eq_of_testBit_eq
  intro i
  rw [show (256 : Nat) = 2 ^ 8 from rfl, Nat.testBit_mod_two_pow, Nat.testBit_div_two_pow, Nat.testBit_xor, Nat.testBit_xor, Nat.testBit_mod_two_pow, Nat.testBit_div_two_pow, Nat.testBit_two_pow]
  by_cases h : i < 8
  · by_cases hb : t / 8 = b
    · rw [if_pos hb, Nat.testBit_two_pow]
      have : (t = i + b * 8) ↔ (t % 8 = i) := by omega
      simp [h, this]
    · rw [if_neg hb, Nat.zero_testBit]
      have : ¬ (t = i + b * 8) := by omega
      simp [this]
  · by_cases hb : t / 8 = b
    · rw [if_pos hb, Nat.testBit_two_pow]
      have : ¬ (t % 8 = i) := by omega
      simp [h, this]
    · rw [if_neg hb, Nat.zero_testBit]
      simp [h]
theorem byteAt_nat {ws : List Int} (h : Fits ws) (i : Nat) : byteAt ws i = (((ws[i / 8]?.getD 0).toNat / 2 ^ (i % 8 * 8) % 256 : Nat) : Int) := by
  have h0 := h.getD (i / 8)
  obtain ⟨x, hx⟩ := Int.eq_ofNat_of_zero_le h0.1
  unfold byteAt
  rw [hx]
  have hp : ∀ k : Nat, (2 : Int) ^ k = ((2 ^ k : Nat) : Int) := fun k => (Int.natCast_pow 2 k).symm
  rw [hp, Int.natCast_emod, Int.natCast_ediv]
  rfl
/-- A byte of which a bit is inverted is the byte of words of which a bit is inverted. -/
theorem bytesL_flip {ws : List Int} (h : Fits ws) (k : Nat) (hk : k < 64 * ws.length) :
    (bytesL ws).set (k / 8) (((byteAt ws (k / 8)).toNat ^^^ 2 ^ (k % 8) : Nat) : Int) = bytesL (flipK ws k) := by
  apply List.ext_getElem?
  intro i
  rw [List.getElem?_set]
  by_cases hi : i < 8 * ws.length
  · rw [bytesL_getq (flipK ws k) i (by rw [length_flipK]; exact hi), byteAt_nat (h.flipK k)]
    have hw : ∀ j, (flipK ws k)[j]?.getD 0 = if k / 64 = j then ((((ws[k / 64]?.getD 0).toNat ^^^ 2 ^ (k % 64) : Nat)) : Int) else ws[j]?.getD 0 := by
      intro j
      unfold flipK
      rw [List.getElem?_set]
      by_cases hj : k / 64 = j
      · rw [if_pos hj, if_pos hj, if_pos (by omega)]; rfl
      · rw [if_neg hj, if_neg hj]
    rw [hw]
    by_cases hik : k / 8 = i
    · rw [if_pos hik, if_pos (by rw [length_bytesL]; omega), byteAt_nat h]
      subst hik
      rw [if_pos (by omega), Int.toNat_natCast, Int.toNat_natCast, byte_flip, if_pos (by omega), show k / 64 = k / 8 / 8 by omega, show k % 64 % 8 = k % 8 by omega]
    · rw [if_neg hik, bytesL_getq ws i hi, byteAt_nat h]
      by_cases hj : k / 64 = i / 8
      · rw [if_pos hj, Int.toNat_natCast, byte_flip, if_neg (by omega), Nat.xor_zero, hj]
      · rw [if_neg hj]
  · rw [if_neg (by omega), List.getElem?_eq_none (by rw [length_bytesL]; omega), List.getElem?_eq_none (by rw [length_bytesL, length_flipK]; omega)]

/-- What Burst makes of words in the first j rounds. -/
structure BurI (ws : List Int) (bit : Int) (j : Nat) (vs : List Int) : Prop where
  fits : Fits vs
  len : vs.length = ws.length
  num : ∃ p, p < 2 ^ j ∧ crN (nats vs) = crN (nats ws) ^^^ p * 2 ^ bit.toNat
theorem BurI.start {ws : List Int} (h : Fits ws) (bit : Int) : BurI ws bit 0 ws := ⟨h, rfl, 0, by decide, by simp⟩
theorem BurI.skip {ws vs : List Int} {bit : Int} {j : Nat} (h : BurI ws bit j vs) : BurI ws bit (j + 1) vs := by
  obtain ⟨h1, h2, p, h3, h4⟩ := h
  exact ⟨h1, h2, p, Nat.lt_trans h3 (Nat.pow_lt_pow_right (by omega) (by omega)), h4⟩
theorem BurI.flip {ws vs : List Int} {bit : Int} {j k : Nat} (h : BurI ws bit j vs) (hk : bit + (j : Int) = (k : Int)) (hl : k < 64 * ws.length) : BurI ws bit (j + 1) (flipK vs k) := by
  obtain ⟨h1, h2, p, h3, h4⟩ := h
  refine ⟨h1.flipK k, by rw [length_flipK, h2], p ^^^ 2 ^ (k - bit.toNat), ?_, ?_⟩
  · exact Nat.xor_lt_two_pow (Nat.lt_trans h3 (Nat.pow_lt_pow_right (by omega) (by omega))) (Nat.pow_lt_pow_right (by omega) (by omega))
  · rw [crN_flip k (by rw [h2]; exact hl), h4, xor_mul_pow, ← Nat.pow_add, show k - bit.toNat + bit.toNat = k by omega, Nat.xor_assoc]

/-- The sum of words. -/
def sumI (ws : List Int) : Int := (crSum (nats ws) : Nat)
theorem sumI_range {ws : List Int} (h : Fits ws) : 0 ≤ sumI ws ∧ sumI ws < 4294967296 := by
  have := crSum_lt (nats ws) (nats_lt h)
  unfold sumI
  omega
/-- The law: what is not as it was is not sealed. -/
theorem seals_law {ws us : List Int} {d : Int} {bit : Int} (hw : Fits ws) (h : BurI (ws ++ [sumI ws]) bit 32 (us ++ [d])) (hne : us ++ [d] ≠ ws ++ [sumI ws]) : d ≠ sumI us := by
  obtain ⟨h1, h2, p, h3, h4⟩ := h
  have hs := sumI_range hw
  have hf : Fits (ws ++ [sumI ws]) := by
    intro x hx
    rcases List.mem_append.1 hx with hx | hx
    · exact hw x hx
    · rw [List.mem_singleton.1 hx]; omega
  have hd : 0 ≤ d := (h1 d (by simp)).1
  have hp : 0 < p := by
    apply Nat.pos_of_ne_zero
    rintro rfl
    apply hne
    refine nats_inj h1 hf (crN_inj _ _ (by simpa [nats] using h2) (nats_lt h1) (nats_lt hf) ?_)
    rw [h4]; simp
  have e : ∀ (a : List Int) (b : Int), nats (a ++ [b]) = nats a ++ [b.toNat] := by intro a b; simp [nats]
  rw [e, e] at h4
  have := crSum_burst (nats ws) (nats us) (sumI ws).toNat d.toNat p bit.toNat (by simpa [nats] using h2.symm) (by unfold sumI; simp) hp h3 h4.symm
  intro hd2
  apply this
  rw [hd2]; unfold sumI; simp
end Go.Proofs.YtjaohgnloddgfaaGreatDoor
