/- Plain law of the checksum: a message with its checksum is not a message with its checksum after a burst of up to 32 bits. -/
import Derived.Test.YtjaohgnloddgfaaGreatDoorLib
namespace Go.Proofs.YtjaohgnloddgfaaGreatDoor
set_option linter.unusedVariables false

/-- One step of the register, of any length. -/
def crT (x : Nat) : Nat := x / 2 ^^^ (if x % 2 = 1 then 2197175160 else 0)
def crTi : Nat → Nat → Nat
  | 0, x => x
  | n + 1, x => crTi n (crT x)

theorem crT_zero : crT 0 = 0 := by decide
theorem crT_xor (a b : Nat) : crT (a ^^^ b) = crT a ^^^ crT b := by
  unfold crT
  have h1 : (a ^^^ b) / 2 = a / 2 ^^^ b / 2 := by
    have := Nat.shiftRight_xor_distrib (a := a) (b := b) (i := 1)
    simpa [Nat.shiftRight_succ] using this
  have h2 : (a ^^^ b) % 2 = (a % 2) ^^^ (b % 2) := by
    have := Nat.xor_mod_two_pow (a := a) (b := b) (n := 1)
    simpa using this
  rw [h1, h2]
  rcases Nat.mod_two_eq_zero_or_one a with ha | ha <;> rcases Nat.mod_two_eq_zero_or_one b with hb | hb <;> rw [ha, hb]
  · simp
  · simp [Nat.xor_assoc]
  · simp only [show ((1 : Nat) ^^^ 0) = 1 from rfl, if_true, show ¬ ((0 : Nat) = 1) by decide, if_false, Nat.xor_zero]
    rw [Nat.xor_assoc, Nat.xor_comm (b / 2), ← Nat.xor_assoc]
  · simp only [show ((1 : Nat) ^^^ 1) = 0 from rfl, if_true, show ¬ ((0 : Nat) = 1) by decide, if_false, Nat.xor_zero]
    rw [Nat.xor_assoc, ← Nat.xor_assoc 2197175160, Nat.xor_comm 2197175160, Nat.xor_assoc, Nat.xor_self, Nat.xor_zero]
theorem crTi_xor (n : Nat) : ∀ a b, crTi n (a ^^^ b) = crTi n a ^^^ crTi n b := by
  induction n with
  | zero => intro a b; rfl
  | succ n ih => intro a b; rw [crTi, crT_xor, ih]; rfl
theorem crTi_zero (n : Nat) : crTi n 0 = 0 := by
  induction n with
  | zero => rfl
  | succ n ih => rw [crTi, crT_zero, ih]
theorem crTi_add (n m x : Nat) : crTi (n + m) x = crTi m (crTi n x) := by
  induction n generalizing x with
  | zero => rw [Nat.zero_add]; rfl
  | succ n ih => rw [Nat.succ_add, crTi, ih]; rfl
theorem crT_two (x : Nat) : crT (2 * x) = x := by
  unfold crT
  rw [if_neg (by omega), Nat.xor_zero]; omega
theorem crTi_shift (n x : Nat) : crTi n (x * 2 ^ n) = x := by
  induction n generalizing x with
  | zero => simp [crTi]
  | succ n ih => rw [crTi, show x * 2 ^ (n + 1) = 2 * (x * 2 ^ n) by rw [Nat.pow_succ, ← Nat.mul_assoc, Nat.mul_comm 2], crT_two, ih]
theorem crT_ne {x : Nat} (h : 0 < x) (hx : x < 2 ^ 32) : 0 < crT x ∧ crT x < 2 ^ 32 := by
  unfold crT
  have hl : x / 2 ^^^ (if x % 2 = 1 then 2197175160 else 0) < 2 ^ 32 := Nat.xor_lt_two_pow (by omega) (by split <;> omega)
  refine ⟨?_, hl⟩
  by_cases ho : x % 2 = 1
  · rw [if_pos ho]
    apply Nat.pos_of_ne_zero
    intro h0
    have : (x / 2 ^^^ 2197175160).testBit 31 = false := by rw [h0]; exact Nat.zero_testBit _
    rw [Nat.testBit_xor, Nat.testBit_lt_two_pow (show x / 2 < 2 ^ 31 by omega), show Nat.testBit 2197175160 31 = true by decide] at this
    cases this
  · rw [if_neg ho, Nat.xor_zero]; omega
theorem crTi_ne (n : Nat) {x : Nat} (h : 0 < x) (hx : x < 2 ^ 32) : 0 < crTi n x := by
  induction n generalizing x with
  | zero => exact h
  | succ n ih => exact ih (crT_ne h hx).1 (crT_ne h hx).2
theorem crTi_lt (n : Nat) {x : Nat} (hx : x < 2 ^ 32) : crTi n x < 2 ^ 32 := by
  by_cases h : x = 0
  · rw [h, crTi_zero]; decide
  · induction n generalizing x with
    | zero => exact hx
    | succ n ih =>
      have := crT_ne (by omega : 0 < x) hx
      exact ih this.2 (by omega)
/-- A burst is not taken for zeros. -/
theorem crTi_burst (n p s : Nat) (hp : 0 < p) (h32 : p < 2 ^ 32) : crTi n (p * 2 ^ s) ≠ 0 := by
  by_cases h : n ≤ s
  · obtain ⟨k, rfl⟩ : ∃ k, s = n + k := ⟨s - n, by omega⟩
    rw [Nat.pow_add, Nat.mul_comm (2 ^ n), ← Nat.mul_assoc, crTi_shift]
    have := Nat.two_pow_pos k
    exact Nat.mul_ne_zero (by omega) (by omega)
  · obtain ⟨k, rfl⟩ : ∃ k, n = s + k := ⟨n - s, by omega⟩
    rw [crTi_add, crTi_shift]
    exact Nat.ne_of_gt (crTi_ne k hp h32)

/-- The table of four bits. -/
def nibT : List Nat := [0, 274646895, 549293790, 820201905, 1098587580, 1361435347, 1640403810, 1905808397, 2197175160, 2460548119, 2722870694, 2987750089, 3280807620, 3553878443, 3811616794, 4084100981]
theorem nib_ok : ∀ n, n < 16 → crTi 4 n = nibT.getD n 0 := by decide
theorem split_xor (x k : Nat) : x = (x / 2 ^ k * 2 ^ k) ^^^ (x % 2 ^ k) := by
  apply Nat.eq_of_testBit_eq
  intro i
  rw [Nat.testBit_xor, Nat.testBit_mod_two_pow, Nat.testBit_mul_two_pow, Nat.testBit_div_two_pow]
  by_cases h : k ≤ i
  · have : ¬ i < k := by omega
    simp [h, this, Nat.sub_add_cancel h]
  · have : i < k := by omega
    simp [h, this]
theorem crTi_split (k x : Nat) : crTi k x = x / 2 ^ k ^^^ crTi k (x % 2 ^ k) := by
  conv => lhs; rw [split_xor x k]
  rw [crTi_xor, crTi_shift]
theorem crTi_four (x : Nat) : crTi 4 x = x / 16 ^^^ nibT.getD (x % 16) 0 := by
  rw [crTi_split 4 x, nib_ok _ (by omega)]

/-- The register after words. -/
def crW : Nat → List Nat → Nat
  | r, [] => r
  | r, w :: ws => crW (crTi 64 (r ^^^ w)) ws
/-- Words as one number. -/
def crN : List Nat → Nat
  | [] => 0
  | w :: ws => w ^^^ crN ws * 2 ^ 64
theorem crW_eq (ws : List Nat) (r : Nat) : crW r ws = crTi (64 * ws.length) (r ^^^ crN ws) := by
  induction ws generalizing r with
  | nil => simp [crW, crN, crTi]
  | cons w ws ih =>
    rw [crW, ih, crN, List.length_cons, show 64 * (ws.length + 1) = 64 + 64 * ws.length by omega, crTi_add, ← Nat.xor_assoc, crTi_xor 64 (r ^^^ w), crTi_shift]
theorem crW_lt (ws : List Nat) (r : Nat) (hr : r < 2 ^ 32) (hws : ∀ w ∈ ws, w < 2 ^ 64) : crW r ws < 2 ^ 32 := by
  induction ws generalizing r with
  | nil => exact hr
  | cons w ws ih =>
    refine ih _ ?_ (fun x hx => hws x (by simp [hx]))
    rw [crTi_xor]
    refine Nat.xor_lt_two_pow (crTi_lt _ hr) ?_
    have hw := hws w (by simp)
    rw [show (64 : Nat) = 32 + 32 from rfl, crTi_add, crTi_split 32 w]
    refine crTi_lt _ (Nat.xor_lt_two_pow (by omega) (crTi_lt _ (Nat.mod_lt _ (by decide))))
def crSum (ws : List Nat) : Nat := 4294967295 ^^^ crW 4294967295 ws
theorem crSum_lt (ws : List Nat) (h : ∀ w ∈ ws, w < 2 ^ 64) : crSum ws < 2 ^ 32 := Nat.xor_lt_two_pow (by decide) (crW_lt _ _ (by decide) h)
theorem xor_mul_pow (a b k : Nat) : (a ^^^ b) * 2 ^ k = a * 2 ^ k ^^^ b * 2 ^ k := by
  rw [← Nat.shiftLeft_eq, ← Nat.shiftLeft_eq, ← Nat.shiftLeft_eq, Nat.shiftLeft_xor_distrib]
theorem crN_append (a b : List Nat) : crN (a ++ b) = crN a ^^^ crN b * 2 ^ (64 * a.length) := by
  induction a with
  | nil => simp [crN]
  | cons w a ih =>
    rw [List.cons_append, crN, ih, crN, xor_mul_pow, List.length_cons, Nat.xor_assoc, show 64 * (a.length + 1) = 64 * a.length + 64 by omega, Nat.pow_add, Nat.mul_assoc]
/-- The law: what differs by a burst is not sealed. -/
theorem crSum_burst (ws vs : List Nat) (c d p s : Nat) (hl : ws.length = vs.length) (hc : c = crSum ws) (hp : 0 < p) (h32 : p < 2 ^ 32)
    (hx : crN (ws ++ [c]) ^^^ p * 2 ^ s = crN (vs ++ [d])) : d ≠ crSum vs := by
  intro hd
  have key : ∀ (us : List Nat), crTi (64 * us.length) (crN (us ++ [crSum us])) = 4294967295 ^^^ crTi (64 * us.length) 4294967295 := by
    intro us
    rw [crN_append, crTi_xor, crTi_shift]
    simp only [crN, Nat.zero_mul, Nat.xor_zero]
    unfold crSum
    rw [crW_eq, crTi_xor]
    rw [Nat.xor_comm (crTi _ 4294967295) (crTi _ (crN us)), ← Nat.xor_assoc, ← Nat.xor_assoc, Nat.xor_comm (crTi _ (crN us)) 4294967295, Nat.xor_assoc 4294967295, Nat.xor_self, Nat.xor_zero]
  have h1 := key ws
  have h2 := key vs
  rw [← hc] at h1
  rw [← hd, ← hx, ← hl, crTi_xor, h1] at h2
  have h3 : crTi (64 * ws.length) (p * 2 ^ s) = 0 := by
    have h4 := congrArg (fun z => (4294967295 ^^^ crTi (64 * ws.length) 4294967295) ^^^ z) h2
    simp only [← Nat.xor_assoc, Nat.xor_self, Nat.zero_xor] at h4
    generalize (4294967295 ^^^ crTi (64 * ws.length) 4294967295) = z at h4
    simpa using h4
  exact crTi_burst _ _ _ hp h32 h3
end Go.Proofs.YtjaohgnloddgfaaGreatDoor
