/- Plain law: bits of words; the first bit from some index on; the number of ones. -/
import Derived.Test.YtbhkdngbgokilaaDoorPop
import Derived.Lib.TrailingZeros
import Derived.Laws.BitsAllLaws
namespace Go.Proofs.YtbhkdngbgokilaaDoor
open Go.RowKit
set_option linter.unusedVariables false

/-- All words fit. -/
def FitsB (ws : List Int) : Prop := ∀ x ∈ ws, 0 ≤ x ∧ x < 18446744073709551616
theorem FitsB.getD {ws : List Int} (h : FitsB ws) (i : Nat) : 0 ≤ ws[i]?.getD 0 ∧ ws[i]?.getD 0 < 18446744073709551616 := by
  by_cases hi : i < ws.length
  · rw [List.getElem?_eq_getElem hi]; exact h _ (List.getElem_mem hi)
  · rw [List.getElem?_eq_none (by omega)]; exact ⟨Int.le_refl _, by decide⟩
/-- Bit i of words. -/
def bitW (ws : List Int) (i : Nat) : Bool := (ws[i / 64]?.getD 0).toNat.testBit (i % 64)
def getB (ws : List Int) (n : Nat) (i : Int) : Bool := decide (0 ≤ i) && (decide (i < (n : Int)) && bitW ws i.toNat)
/-- How Get reckons a bit. -/
theorem get_bit (v : Int) (hv : 0 ≤ v ∧ v < 18446744073709551616) (j : Nat) : (bits .and .u64 (v / 2 ^ j) 1 == 1) = v.toNat.testBit j := by
  obtain ⟨x, rfl⟩ := Int.eq_ofNat_of_zero_le hv.1
  have e1 : ((x : Nat) : Int) / 2 ^ j = ((x / 2 ^ j : Nat) : Int) := by push_cast; rfl
  have hlt : x / 2 ^ j < 18446744073709551616 := Nat.lt_of_le_of_lt (Nat.div_le_self _ _) (by omega)
  have h1 := bits_and_u64_nat (x / 2 ^ j) 1 hlt (by omega)
  rw [nat_mask1] at h1
  rw [e1]
  rw [show ((1 : Nat) : Int) = 1 from rfl] at h1
  rw [h1, Int.toNat_natCast, Nat.testBit_eq_decide_div_mod_eq]
  by_cases h : x / 2 ^ j % 2 = 1
  · simp [h]
  · simp [h]; omega

/-- The first index from i on, of k, with that property. -/
def nextP (p : Nat → Bool) : Nat → Nat → Option Nat
  | 0, _ => none
  | k + 1, i => if p i then some i else nextP p k (i + 1)
theorem nextP_none (p : Nat → Bool) : ∀ k i, (∀ m, i ≤ m → m < i + k → p m = false) → nextP p k i = none := by
  intro k
  induction k with
  | zero => intro i _; rfl
  | succ k ih =>
    intro i h
    unfold nextP
    rw [h i (by omega) (by omega)]
    exact ih (i + 1) (fun m h1 h2 => h m (by omega) (by omega))
theorem nextP_some (p : Nat → Bool) : ∀ k i j, i ≤ j → j < i + k → p j = true → (∀ m, i ≤ m → m < j → p m = false) → nextP p k i = some j := by
  intro k
  induction k with
  | zero => intro i j h1 h2; omega
  | succ k ih =>
    intro i j h1 h2 h3 h4
    unfold nextP
    by_cases hij : i = j
    · subst hij; rw [h3]; rfl
    · rw [h4 i (by omega) (by omega)]
      exact ih (i + 1) j (by omega) (by omega) h3 (fun m h5 h6 => h4 m (by omega) h6)
theorem nextP_spec (p : Nat → Bool) : ∀ k i, match nextP p k i with
    | none => ∀ m, i ≤ m → m < i + k → p m = false
    | some j => i ≤ j ∧ j < i + k ∧ p j = true ∧ ∀ m, i ≤ m → m < j → p m = false := by
  intro k
  induction k with
  | zero => intro i; exact fun m h1 h2 => by omega
  | succ k ih =>
    intro i
    unfold nextP
    by_cases hp : p i = true
    · rw [if_pos hp]; exact ⟨by omega, by omega, hp, fun m h1 h2 => by omega⟩
    · have hp' : p i = false := by simpa using hp
      rw [if_neg hp]
      have := ih (i + 1)
      split at this
      · rename_i he
        exact fun m h1 h2 => by
          by_cases hm : m = i
          · rw [hm]; exact hp'
          · exact this m (by omega) (by omega)
      · rename_i j he
        obtain ⟨a, b, c, d⟩ := this
        exact ⟨by omega, by omega, c, fun m h1 h2 => by
          by_cases hm : m = i
          · rw [hm]; exact hp'
          · exact d m (by omega) h2⟩
def idxO : Option Nat → Int
  | none => -1
  | some j => (j : Int)
/-- Next, of n bits. -/
def nextB (ws : List Int) (n : Nat) (i : Int) (set : Bool) : Int := idxO (nextP (fun m => bitW ws m == set) (n - i.toNat) i.toNat)

/-- The bits that a round of Next looks at: of word v, those of a bitmap of which l bits are left, from s on. -/
def lookN (v : Nat) (set : Bool) (l s : Nat) : Nat := ((if set then v else 18446744073709551615 - v) % 2 ^ l) / 2 ^ s * 2 ^ s
theorem lookN_bit (v : Nat) (hv : v < 18446744073709551616) (set : Bool) (l s m : Nat) (hl : l ≤ 64) : (lookN v set l s).testBit m = (decide (s ≤ m) && (decide (m < l) && (v.testBit m == set))) := by
  unfold lookN
  rw [Nat.testBit_mul_two_pow, Nat.testBit_div_two_pow]
  by_cases hs : s ≤ m
  · rw [show m - s + s = m by omega, Nat.testBit_mod_two_pow]
    by_cases hm : m < l
    · cases set with
      | true => simp [hs, hm]
      | false =>
        have h1 := Nat.testBit_two_pow_sub_succ (n := 64) (x := v) (by simpa using hv) m
        rw [show 2 ^ 64 - (v + 1) = 18446744073709551615 - v by omega] at h1
        simp [hs, hm, h1, show m < 64 by omega]
    · simp [hs, hm]
  · simp [hs]
theorem ctz_spec (x : Nat) (h0 : x ≠ 0) (hx : x < 18446744073709551616) : x.testBit (Lib.ctz 64 x) = true ∧ Lib.ctz 64 x < 64 ∧ ∀ m, m < Lib.ctz 64 x → x.testBit m = false := by
  unfold Lib.ctz
  rw [if_neg h0]
  obtain ⟨q, hq, hk⟩ := Lib.ctzFrom_spec 64 x (by omega) hx
  generalize Lib.ctzFrom 64 x = k at *
  subst hq
  refine ⟨?_, hk, fun m hm => ?_⟩
  · rw [Nat.mul_comm, Nat.testBit_mul_two_pow]; simp
  · rw [Nat.mul_comm, Nat.testBit_mul_two_pow]; simp; omega
/-- A round of Next that finds none. -/
theorem look_zero (v : Nat) (hv : v < 18446744073709551616) (set : Bool) (l s : Nat) (hl : l ≤ 64) (h0 : lookN v set l s = 0) : ∀ m, s ≤ m → m < l → (v.testBit m == set) = false := by
  intro m h1 h2
  have := lookN_bit v hv set l s m hl
  rw [h0] at this
  simp [h1, h2] at this
  simpa using this
theorem lookN_lt (v : Nat) (hv : v < 18446744073709551616) (set : Bool) (l s : Nat) : lookN v set l s < 18446744073709551616 := by
  unfold lookN
  have h1 : (if set then v else 18446744073709551615 - v) < 18446744073709551616 := by split <;> omega
  have h2 := Nat.mod_le (if set then v else 18446744073709551615 - v) (2 ^ l)
  have h3 := Nat.div_mul_le_self ((if set then v else 18446744073709551615 - v) % 2 ^ l) (2 ^ s)
  omega
theorem look_some (v : Nat) (hv : v < 18446744073709551616) (set : Bool) (l s : Nat) (hl : l ≤ 64) (h0 : lookN v set l s ≠ 0) :
    s ≤ Lib.ctz 64 (lookN v set l s) ∧ Lib.ctz 64 (lookN v set l s) < l ∧ (v.testBit (Lib.ctz 64 (lookN v set l s)) == set) = true ∧ ∀ m, s ≤ m → m < Lib.ctz 64 (lookN v set l s) → (v.testBit m == set) = false := by
  obtain ⟨a, b, c⟩ := ctz_spec _ h0 (lookN_lt v hv set l s)
  rw [lookN_bit v hv set l s _ hl] at a
  simp only [Bool.and_eq_true, decide_eq_true_eq] at a
  refine ⟨a.1, a.2.1, a.2.2, fun m h1 h2 => ?_⟩
  have := c m h2
  rw [lookN_bit v hv set l s _ hl] at this
  simpa [h1, show m < l by omega] using this

/-- How many of the first i bits are set. -/
def onesTo (ws : List Int) : Nat → Nat
  | 0 => 0
  | i + 1 => onesTo ws i + (if bitW ws i then 1 else 0)
theorem testBit_mod2 (x l : Nat) : (if x.testBit l then 1 else 0) = x / 2 ^ l % 2 := by
  rw [Nat.testBit_eq_decide_div_mod_eq]
  by_cases h : x / 2 ^ l % 2 = 1
  · simp [h]
  · simp [h]; omega
/-- The ones of a word's first l bits. -/
theorem onesTo_word (ws : List Int) (w : Nat) : ∀ l, l ≤ 64 → onesTo ws (64 * w + l) = onesTo ws (64 * w) + popU l (ws[w]?.getD 0).toNat := by
  intro l
  induction l with
  | zero => intro _; simp [popU]
  | succ l ih =>
    intro h
    have e1 : onesTo ws (64 * w + (l + 1)) = onesTo ws (64 * w + l) + (if bitW ws (64 * w + l) then 1 else 0) := rfl
    have e2 : popU (l + 1) (ws[w]?.getD 0).toNat = popU l (ws[w]?.getD 0).toNat + (ws[w]?.getD 0).toNat / 2 ^ l % 2 := rfl
    have e3 : bitW ws (64 * w + l) = (ws[w]?.getD 0).toNat.testBit l := by
      unfold bitW
      rw [show (64 * w + l) / 64 = w by omega, show (64 * w + l) % 64 = l by omega]
    rw [e1, e2, ih (by omega), ← testBit_mod2, e3]
    omega
theorem popU_le (x : Nat) : ∀ l, popU l x ≤ l := by
  intro l
  induction l with
  | zero => exact Nat.le_refl _
  | succ l ih => simp only [popU]; omega
/-- What Ones counts of a word. -/
theorem pop_mask (v : Nat) (l : Nat) (hl : l ≤ 64) : popU 64 (v &&& (2 ^ l - 1)) = popU l v := by
  rw [Nat.and_two_pow_sub_one_eq_mod]
  have h1 := popU_small (v % 2 ^ l) l (Nat.mod_lt _ (Nat.two_pow_pos _)) (64 - l)
  rw [show l + (64 - l) = 64 by omega] at h1
  rw [h1, popU_mod v l l (Nat.le_refl _)]
/-- The bits from s on. -/
theorem and_high (x s : Nat) (hx : x < 18446744073709551616) (hs : s < 64) : bits .and .u64 (x : Int) (IntKind.u64.wrap (18446744073709551615 * 2 ^ s)) = ((x / 2 ^ s * 2 ^ s : Nat) : Int) := by
  have hp : (2 : Int) ^ s = ((2 ^ s : Nat) : Int) := (Int.natCast_pow 2 s).symm
  have hlt : 2 ^ s < 2 ^ 64 := Nat.pow_lt_pow_right (by omega) hs
  have hpos := Nat.two_pow_pos s
  have e1 : IntKind.u64.wrap (18446744073709551615 * 2 ^ s) = ((18446744073709551616 - 2 ^ s : Nat) : Int) := by
    rw [hp, IntKind.wrap_u64]; omega
  rw [e1, bits_and_u64_nat _ _ hx (by omega)]
  congr 1
  apply Nat.eq_of_testBit_eq
  intro i
  rw [Nat.testBit_and, Nat.testBit_mul_two_pow, Nat.testBit_div_two_pow]
  by_cases hi : i < 64
  · have e2 : 18446744073709551616 - 2 ^ s = (2 ^ 64 - ((2 ^ s - 1) + 1)) := by omega
    rw [e2, Nat.testBit_two_pow_sub_succ (by omega), Nat.testBit_two_pow_sub_one]
    by_cases h : s ≤ i
    · rw [show i - s + s = i by omega]
      simp [h, hi]
    · simp [h]; omega
  · have hx' : x.testBit i = false := Nat.testBit_lt_two_pow (Nat.lt_of_lt_of_le hx (by have := Nat.pow_le_pow_right (n := 2) (by omega) (show 64 ≤ i by omega); omega))
    rw [hx']
    by_cases h : s ≤ i
    · rw [show i - s + s = i by omega, hx']; simp
    · simp [h]
theorem xor_all (v : Nat) (hv : v < 18446744073709551616) : bits .xor .u64 (if IntKind.u64.signed = true then -1 else IntKind.u64.max) (v : Int) = ((18446744073709551615 - v : Nat) : Int) := by
  show bits .xor .u64 ((18446744073709551615 : Nat) : Int) (v : Int) = _
  rw [bits_xor_u64_nat _ _ (by omega) hv]
  congr 1
  apply Nat.eq_of_testBit_eq
  intro i
  have h1 := Nat.testBit_two_pow_sub_succ (n := 64) (x := v) (by simpa using hv) i
  have h2 := Nat.testBit_two_pow_sub_one 64 i
  rw [show 2 ^ 64 - (v + 1) = 18446744073709551615 - v by omega] at h1
  rw [show (2 : Nat) ^ 64 - 1 = 18446744073709551615 by decide] at h2
  rw [Nat.testBit_xor, h1, h2]
  by_cases hi : i < 64
  · simp [hi]
  · have : v.testBit i = false := Nat.testBit_lt_two_pow (Nat.lt_of_lt_of_le hv (by have := Nat.pow_le_pow_right (n := 2) (by omega) (show 64 ≤ i by omega); omega))
    simp [hi, this]
theorem onesTo_le (ws : List Int) : ∀ i, onesTo ws i ≤ i := by
  intro i
  induction i with
  | zero => exact Nat.le_refl _
  | succ i ih => simp only [onesTo]; split <;> omega
end Go.Proofs.YtbhkdngbgokilaaDoor
