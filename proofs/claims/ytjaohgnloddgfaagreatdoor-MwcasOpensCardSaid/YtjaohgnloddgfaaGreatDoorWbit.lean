/- Plain law: the bits of a managed word. -/
import Derived.RowKit
import Derived.Laws.BitsAllLaws
namespace Go.Proofs.YtjaohgnloddgfaaGreatDoor
open Go.RowKit
set_option linter.unusedVariables false
set_option linter.unusedSimpArgs false

theorem wb_high (x s : Nat) (hx : x < 18446744073709551616) (hs : s < 64) : bits .and .u64 (x : Int) (IntKind.u64.wrap (18446744073709551615 * 2 ^ s)) = ((x / 2 ^ s * 2 ^ s : Nat) : Int) := by
  have hp : (2 : Int) ^ s = ((2 ^ s : Nat) : Int) := (Int.natCast_pow 2 s).symm
  have hlt : 2 ^ s < 2 ^ 64 := Nat.pow_lt_pow_right (by omega) hs
  have hpos := Nat.two_pow_pos s
  have e1 : IntKind.u64.wrap (18446744073709551615 * 2 ^ s) = ((18446744073709551616 - 2 ^ s : Nat) : Int) := by
    rw [hp, IntKind.wrap_u64]; omega
  rw [e1, u64_and_nat _ _ hx (by omega)]
  congr 1
  apply Nat.eq_of_testBit_eq
  intro i
  rw [Nat.testBit_and, Nat.testBit_mul_two_pow, Nat.testBit_div_two_pow]
  by_cases hi : i < 64
  · have e2 : 18446744073709551616 - 2 ^ s = (2 ^ 64 - ((2 ^ s - 1) + 1)) := by omega
    rw [e2, Nat.testBit_two_pow_sub_succ (by omega), Nat.testBit_two_pow_sub_one]
    by_cases h : s ≤ i
    · rw [show i - s + s = i by omega]
      simp [h, hi]
    · simp [h]; omega
  · have hx' : x.testBit i = false := Nat.testBit_lt_two_pow (Nat.lt_of_lt_of_le hx (by have := Nat.pow_le_pow_right (n := 2) (by omega) (show 64 ≤ i by omega); omega))
    rw [hx']
    by_cases h : s ≤ i
    · rw [show i - s + s = i by omega, hx']; simp
    · simp [h]
theorem wb_lim (x : Int) (h : 0 ≤ x ∧ x < 18446744073709551616) : bits .and .u64 x 1099511627775 = x % 1099511627776 := by
  obtain ⟨n, rfl⟩ := Int.eq_ofNat_of_zero_le h.1
  have e := u64_and_nat n 1099511627775 (by omega) (by omega)
  rw [show n &&& 1099511627775 = n % 2 ^ 40 from Nat.and_two_pow_sub_one_eq_mod n 40] at e
  have e' : bits .and .u64 (n : Int) 1099511627775 = ((n % 2 ^ 40 : Nat) : Int) := e
  rw [e']; omega
theorem wb_cnt (x : Int) (h : 0 ≤ x ∧ x < 18446744073709551616) : bits .and .u64 x 4194303 = x % 4194304 := by
  obtain ⟨n, rfl⟩ := Int.eq_ofNat_of_zero_le h.1
  have e := u64_and_nat n 4194303 (by omega) (by omega)
  rw [show n &&& 4194303 = n % 2 ^ 22 from Nat.and_two_pow_sub_one_eq_mod n 22] at e
  have e' : bits .and .u64 (n : Int) 4194303 = ((n % 2 ^ 22 : Nat) : Int) := e
  rw [e']; omega
theorem wb_busy (x : Int) (h : 0 ≤ x ∧ x < 9223372036854775808) : bits .and .u64 x 9223372036854775808 = 0 := by
  obtain ⟨n, rfl⟩ := Int.eq_ofNat_of_zero_le h.1
  have e := u64_and_nat n 9223372036854775808 (by omega) (by omega)
  rw [show n &&& 9223372036854775808 = n / 2 ^ 63 % 2 * 2 ^ 63 from nat_bit 63 n, Nat.div_eq_of_lt (by omega)] at e
  exact e
theorem wb_busy1 (x : Int) (h : 9223372036854775808 ≤ x ∧ x < 18446744073709551616) : bits .and .u64 x 9223372036854775808 = 9223372036854775808 := by
  obtain ⟨n, rfl⟩ := Int.eq_ofNat_of_zero_le (show 0 ≤ x by omega)
  have e := u64_and_nat n 9223372036854775808 (by omega) (by omega)
  rw [show n &&& 9223372036854775808 = n / 2 ^ 63 % 2 * 2 ^ 63 from nat_bit 63 n, show n / 2 ^ 63 = 1 by omega] at e
  exact e
/-- Both flags. -/
theorem wb_flags (x : Int) (h : 0 ≤ x ∧ x < 18446744073709551616) : bits .and .u64 x 13835058055282163712 = x / 4611686018427387904 * 4611686018427387904 := by
  obtain ⟨n, rfl⟩ := Int.eq_ofNat_of_zero_le h.1
  have e := wb_high n 62 (by omega) (by omega)
  rw [show IntKind.u64.wrap (18446744073709551615 * 2 ^ 62) = 13835058055282163712 by rw [IntKind.wrap_u64]; rfl] at e
  exact e.trans (by omega)
theorem wb_dirty (x : Int) (h : 0 ≤ x ∧ x < 4611686018427387904) : bits .andNot .u64 x 4611686018427387904 = x := by
  obtain ⟨n, rfl⟩ := Int.eq_ofNat_of_zero_le h.1
  have e := u64_andNot_nat n 4611686018427387904 (by omega) (by omega)
  have e2 : n &&& (18446744073709551615 - 4611686018427387904) = n := by
    apply Nat.eq_of_testBit_eq
    intro i
    rw [Nat.testBit_and]
    by_cases hi : i < 62
    · have : Nat.testBit (18446744073709551615 - 4611686018427387904) i = true := by
        have : ∀ j, j < 62 → Nat.testBit (18446744073709551615 - 4611686018427387904) j = true := by decide +kernel
        exact this i hi
      rw [this, Bool.and_true]
    · rw [Nat.testBit_lt_two_pow (show n < 2 ^ i from Nat.lt_of_lt_of_le (show n < 2 ^ 62 by omega) (Nat.pow_le_pow_right (by omega) (by omega)))]
      simp
  rw [e2] at e
  exact e
theorem wb_or (v c : Int) (hv : 0 ≤ v ∧ v < 1099511627776) (hc : 0 ≤ c ∧ c < 4194304) : bits .or .u64 v (c * 1099511627776) = v + c * 1099511627776 := by
  obtain ⟨n, rfl⟩ := Int.eq_ofNat_of_zero_le hv.1
  obtain ⟨m, rfl⟩ := Int.eq_ofNat_of_zero_le hc.1
  have e := u64_or_nat n (m * 1099511627776) (by omega) (by omega)
  rw [Nat.or_comm, nat_join 40 (m * 1099511627776) n (by omega) (by omega)] at e
  rw [Int.natCast_mul m 1099511627776] at e
  have e2 : bits .or .u64 (n : Int) ((m : Int) * 1099511627776) = ((m * 1099511627776 + n : Nat) : Int) := e
  rw [e2]
  clear e e2
  omega
theorem wb_or1 (k : Nat) (h : 8 * k < 18446744073709551615) : bits .or .u64 (8 * (k : Int)) 1 = 8 * (k : Int) + 1 := by
  have e := u64_or_nat (8 * k) 1 (by omega) (by omega)
  rw [nat_join 3 (8 * k) 1 (by omega) (by omega)] at e
  have e1 : ((8 * k : Nat) : Int) = 8 * (k : Int) := by omega
  rw [e1] at e
  have e2 : bits .or .u64 (8 * (k : Int)) 1 = ((8 * k + 1 : Nat) : Int) := e
  rw [e2]; omega
/-- The status of a descriptor whose operation has succeeded. -/
theorem wb_succ (n c : Nat) (hn : n < 256) (hc : c < 4294967296) : bits .or .u64 (bits .or .u64 (bits .or .u64 3 ((n : Int) * 256)) 1836515328) ((c : Int) * 4294967296) = 3 + (n : Int) * 256 + 1836515328 + (c : Int) * 4294967296 := by
  have s1 : bits .or .u64 3 ((n : Int) * 256) = ((n * 256 + 3 : Nat) : Int) := by
    have a1 := u64_or_nat 3 (n * 256) (by omega) (by omega)
    rw [Nat.or_comm, nat_join 8 (n * 256) 3 (by omega) (by omega), Int.natCast_mul n 256] at a1
    exact a1
  have s2 : bits .or .u64 ((n * 256 + 3 : Nat) : Int) 1836515328 = ((1836515328 + (n * 256 + 3) : Nat) : Int) := by
    have a1 := u64_or_nat (n * 256 + 3) 1836515328 (by omega) (by omega)
    rw [Nat.or_comm, nat_join 16 1836515328 (n * 256 + 3) (by omega) (by omega)] at a1
    exact a1
  have s3 : bits .or .u64 ((1836515328 + (n * 256 + 3) : Nat) : Int) ((c : Int) * 4294967296) = ((c * 4294967296 + (1836515328 + (n * 256 + 3)) : Nat) : Int) := by
    have a1 := u64_or_nat (1836515328 + (n * 256 + 3)) (c * 4294967296) (by omega) (by omega)
    rw [Nat.or_comm, nat_join 32 (c * 4294967296) (1836515328 + (n * 256 + 3)) (by omega) (by omega), Int.natCast_mul c 4294967296] at a1
    exact a1
  rw [s1, s2, s3]
  clear s1 s2 s3
  omega
end Go.Proofs.YtjaohgnloddgfaaGreatDoor
