/- Contracts of record.zeros and slices.Equal. -/
import Derived.Test.YtlbgmoijepknbaaProg
import Derived.Test.YtlbgmoijepknbaaLib
namespace Go.Proofs.Ytlbgmoijepknbaa
open Go.RowKit

set_option maxHeartbeats 400000 in
theorem zeros_any (w : World) (A : Option Addr) (c : Nat) (xs : List Int) (h : Rd .u64 w A xs) (hl : xs.length ≤ 9223372036854775807) :
    Calls Try.prog 66 #[.slice A xs.length c] w fun e w' => e = .returned (.bool (xs.all (· == 0))) ∧ w = w' := by
  have H := Lib.hid h
  clear h
  go_enter Try.func66, Try.ntmps66
  go_wp2
  go_loop [7, 4, 8, 9, 10, 11, 12, 13] (fun i _ _ _ _ _ _ _ => ∃ k : Nat, k ≤ xs.length ∧ i = .int .i64 k ∧ (xs.take k).all (· == 0) = true) (fun i _ _ _ _ _ _ _ => xs.length - (intOf i).toNat)
  case atStart => exact ⟨0, Nat.zero_le _, rfl, rfl⟩
  case round =>
    obtain ⟨k, hk, rfl, hall⟩ := hrel
    have HA := Lib.hid hall
    clear hall
    by_cases hlt : k < xs.length
    · obtain ⟨b, off, rfl, _, hc⟩ := H.out.at_ hlt
      go_wp2
      · go_ret
        exact ⟨ret_bool (all_false _ _ k hlt (by have : (xs[k] != 0) = true := by assumption
                                                 simpa using this)).symm, rfl⟩
      · go_round
        case rel => exact ⟨k + 1, by omega, by go_num, all_take_succ _ _ _ hlt HA.out (by have : (xs[k] != 0) = false := by assumption
                                                                                          simpa using this)⟩
        case measure => simp [intOf]; omega
    · go_wp2
      go_ret
      exact ⟨ret_bool (all_take_all _ _ _ hlt HA.out).symm, rfl⟩

theorem zeros_n (w : World) (A : Option Addr) (n c : Nat) (xs : List Int) (hn : xs.length = n) (h : Rd .u64 w A xs) (hl : xs.length ≤ 9223372036854775807) :
    Calls Try.prog 66 #[.slice A n c] w fun e w' => e = .returned (.bool (xs.all (· == 0))) ∧ w = w' := by
  subst hn; exact zeros_any w A c xs h hl

set_option maxHeartbeats 400000 in
theorem equalU_any (w : World) (A B : Option Addr) (c d : Nat) (xs ys : List Int) (h : Rd .u64 w A xs) (h' : Rd .u64 w B ys) (hl : xs.length ≤ 9223372036854775807) (hl' : ys.length ≤ 9223372036854775807) :
    Calls Try.prog 17 #[.slice A xs.length c, .slice B ys.length d] w fun e w' => e = .returned (.bool (xs == ys)) ∧ ∃ n, w' = w.drewN n := by
  have H := Lib.hid h
  have H' := Lib.hid h'
  clear h h'
  by_cases hn : xs.length = ys.length
  · rw [← hn]
    have HN := Lib.hid hn
    clear hn
    go_enter Try.func17, Try.ntmps17
    go_wp2
    go_loopw [13, 5, 14, 15, 16, 17, 18, 19, 20, 21, 22, 23, 24, 25] (fun i _ _ _ _ _ _ _ _ _ _ _ _ _ wr => ∃ k n : Nat, k ≤ xs.length ∧ i = .int .i64 k ∧ (xs.take k) = ys.take k ∧ wr = w.drewN n) (fun i _ _ _ _ _ _ _ _ _ _ _ _ _ _ => xs.length - (intOf i).toNat)
    case atStart => exact ⟨0, 0, Nat.zero_le _, rfl, rfl, rfl⟩
    case round =>
      obtain ⟨k, n, hk, rfl, hall, rfl⟩ := hrel
      have HA := Lib.hid hall
      clear hall
      by_cases hlt : k < xs.length
      · obtain ⟨b, off, rfl, _, hc⟩ := H.out.at_ hlt
        have hlt' : k < ys.length := by have := HN.out; omega
        obtain ⟨b', off', rfl, _, hc'⟩ := H'.out.at_ hlt'
        go_wp2
        go_quiet (fail)
        go_wp2
        · go_ret
          have hne : (xs[k] != ys[k]) = true := by assumption
          exact ⟨ret_bool (beq_eq_false_iff_ne.2 (ne_of_get _ _ k hlt hlt' (by simpa using hne))).symm, _, World.drewN_drewN _ _ _⟩
        · have hne : (xs[k] != ys[k]) = false := by assumption
          go_roundw
          case rel => exact ⟨k + 1, _, by omega, by go_num, eq_take_succ _ _ _ hlt hlt' HA.out (by simpa using hne), rfl⟩
          case measure => simp [intOf]; omega
      · go_wp2
        go_ret
        exact ⟨ret_bool (by
          have h1 := HA.out
          rw [List.take_of_length_le (by omega), List.take_of_length_le (by have := HN.out; omega)] at h1
          exact (beq_iff_eq.2 h1).symm), _, rfl⟩
  · have hn' : ((xs.length : Int) != (ys.length : Int)) = true := by rw [bne_iff_ne]; omega
    have HF : Hid ((xs == ys) = false) := by
      refine beq_eq_false_iff_ne.2 ?_
      rintro rfl
      exact hn rfl
    clear hn
    go_enter Try.func17, Try.ntmps17
    go_wp2
    go_ret
    exact ⟨ret_bool HF.out.symm, 0, rfl⟩
set_option maxHeartbeats 400000 in
theorem equalI_any (w : World) (A B : Option Addr) (c d : Nat) (xs ys : List Int) (h : Rd .i64 w A xs) (h' : Rd .i64 w B ys) (hl : xs.length ≤ 9223372036854775807) (hl' : ys.length ≤ 9223372036854775807) :
    Calls Try.prog 63 #[.slice A xs.length c, .slice B ys.length d] w fun e w' => e = .returned (.bool (xs == ys)) ∧ ∃ n, w' = w.drewN n := by
  have H := Lib.hid h
  have H' := Lib.hid h'
  clear h h'
  by_cases hn : xs.length = ys.length
  · rw [← hn]
    have HN := Lib.hid hn
    clear hn
    go_enter Try.func63, Try.ntmps63
    go_wp2
    go_loopw [13, 5, 14, 15, 16, 17, 18, 19, 20, 21, 22, 23, 24, 25] (fun i _ _ _ _ _ _ _ _ _ _ _ _ _ wr => ∃ k n : Nat, k ≤ xs.length ∧ i = .int .i64 k ∧ (xs.take k) = ys.take k ∧ wr = w.drewN n) (fun i _ _ _ _ _ _ _ _ _ _ _ _ _ _ => xs.length - (intOf i).toNat)
    case atStart => exact ⟨0, 0, Nat.zero_le _, rfl, rfl, rfl⟩
    case round =>
      obtain ⟨k, n, hk, rfl, hall, rfl⟩ := hrel
      have HA := Lib.hid hall
      clear hall
      by_cases hlt : k < xs.length
      · obtain ⟨b, off, rfl, _, hc⟩ := H.out.at_ hlt
        have hlt' : k < ys.length := by have := HN.out; omega
        obtain ⟨b', off', rfl, _, hc'⟩ := H'.out.at_ hlt'
        go_wp2
        go_quiet (fail)
        go_wp2
        · go_ret
          have hne : (xs[k] != ys[k]) = true := by assumption
          exact ⟨ret_bool (beq_eq_false_iff_ne.2 (ne_of_get _ _ k hlt hlt' (by simpa using hne))).symm, _, World.drewN_drewN _ _ _⟩
        · have hne : (xs[k] != ys[k]) = false := by assumption
          go_roundw
          case rel => exact ⟨k + 1, _, by omega, by go_num, eq_take_succ _ _ _ hlt hlt' HA.out (by simpa using hne), rfl⟩
          case measure => simp [intOf]; omega
      · go_wp2
        go_ret
        exact ⟨ret_bool (by
          have h1 := HA.out
          rw [List.take_of_length_le (by omega), List.take_of_length_le (by have := HN.out; omega)] at h1
          exact (beq_iff_eq.2 h1).symm), _, rfl⟩
  · have hn' : ((xs.length : Int) != (ys.length : Int)) = true := by rw [bne_iff_ne]; omega
    have HF : Hid ((xs == ys) = false) := by
      refine beq_eq_false_iff_ne.2 ?_
      rintro rfl
      exact hn rfl
    clear hn
    go_enter Try.func63, Try.ntmps63
    go_wp2
    go_ret
    exact ⟨ret_bool HF.out.symm, 0, rfl⟩
theorem equalU_n (w : World) (A B : Option Addr) (n m c d : Nat) (xs ys : List Int) (hn : xs.length = n) (hm : ys.length = m) (h : Rd .u64 w A xs) (h' : Rd .u64 w B ys) (hl : n ≤ 9223372036854775807) (hl' : m ≤ 9223372036854775807) :
    Calls Try.prog 17 #[.slice A n c, .slice B m d] w fun e w' => e = .returned (.bool (xs == ys)) ∧ ∃ n, w' = w.drewN n := by
  subst hn hm; exact equalU_any w A B c d xs ys h h' hl hl'
theorem equalI_n (w : World) (A B : Option Addr) (n m c d : Nat) (xs ys : List Int) (hn : xs.length = n) (hm : ys.length = m) (h : Rd .i64 w A xs) (h' : Rd .i64 w B ys) (hl : n ≤ 9223372036854775807) (hl' : m ≤ 9223372036854775807) :
    Calls Try.prog 63 #[.slice A n c, .slice B m d] w fun e w' => e = .returned (.bool (xs == ys)) ∧ ∃ n, w' = w.drewN n := by
  subst hn hm; exact equalI_any w A B c d xs ys h h' hl hl'
end Go.Proofs.Ytlbgmoijepknbaa
