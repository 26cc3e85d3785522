/- Contract of word.Pack. -/
import Derived.Test.YtlbgmoijepknbaaPk
import Derived.Test.YtlbgmoijepknbaaRep
import Derived.Laws.BitsAllLaws
import Derived.Lib.ConvBytes
namespace Go.Proofs.Ytlbgmoijepknbaa
open Go.RowKit
set_option linter.unusedVariables false

/-- A little-endian number. -/
def leN (bs : List Int) : Int := match bs with | [] => 0 | b :: r => b + 256 * leN r
theorem leN_snoc (bs : List Int) (b : Int) : leN (bs ++ [b]) = leN bs + b * 2 ^ (bs.length * 8) := by
  induction bs with
  | nil => simp [leN]
  | cons c r ih =>
    simp only [List.cons_append, leN, ih, List.length_cons]
    have : (2 : Int) ^ ((r.length + 1) * 8) = 256 * 2 ^ (r.length * 8) := by
      rw [Nat.add_mul, Nat.one_mul, Int.pow_add, Int.mul_comm]; rfl
    rw [this, Int.mul_add, ← Int.mul_assoc, ← Int.mul_assoc, Int.mul_comm 256 b]
    omega
theorem leN_bound (bs : List Int) (h : ∀ b ∈ bs, 0 ≤ b ∧ b ≤ 255) : 0 ≤ leN bs ∧ leN bs < 2 ^ (bs.length * 8) := by
  induction bs with
  | nil => simp [leN]
  | cons c r ih =>
    have hc := h c (by simp)
    have hr := ih (fun b hb => h b (by simp [hb]))
    simp only [leN, List.length_cons]
    have : (2 : Int) ^ ((r.length + 1) * 8) = 256 * 2 ^ (r.length * 8) := by
      rw [Nat.add_mul, Nat.one_mul, Int.pow_add, Int.mul_comm]; rfl
    rw [this]
    omega

/-- Word j of the first k bytes. -/
def pkw (bs : List Int) (j : Nat) : Int := leN ((bs.drop (8 * j)).take 8)
/-- The words of n bytes of which l are laid. -/
def pks (l : List Int) (n : Nat) : List Int := (List.range ((n + 7) / 8)).map (pkw l)
theorem length_pks (l : List Int) (n : Nat) : (pks l n).length = (n + 7) / 8 := by simp [pks]
theorem pkw_le (bs : List Int) (k j : Nat) (h : bs.length ≤ 8 * j) : pkw bs j = 0 := by
  unfold pkw; rw [List.drop_eq_nil_of_le h]; rfl
theorem pks_nil (n : Nat) : pks [] n = List.replicate ((n + 7) / 8) 0 := by
  apply List.ext_getElem
  · simp [pks]
  · intro i h1 h2
    simp [pks, pkw, leN]
theorem pkw_snoc_same (l : List Int) (b : Int) : pkw (l ++ [b]) (l.length / 8) = pkw l (l.length / 8) + b * 2 ^ (l.length % 8 * 8) := by
  unfold pkw
  have h1 : (l ++ [b]).drop (8 * (l.length / 8)) = l.drop (8 * (l.length / 8)) ++ [b] := List.drop_append_of_le_length (by omega)
  have h2 : (l.drop (8 * (l.length / 8))).length = l.length % 8 := by simp; omega
  rw [h1, List.take_of_length_le (by simp; omega), List.take_of_length_le (by omega), leN_snoc, h2]
theorem pkw_snoc_other (l : List Int) (b : Int) (j : Nat) (hj : j ≠ l.length / 8) : pkw (l ++ [b]) j = pkw l j := by
  unfold pkw
  rcases Nat.lt_or_ge j (l.length / 8) with h | h
  · rw [List.drop_append_of_le_length (by omega), List.take_append_of_le_length (by simp; omega)]
  · rw [List.drop_eq_nil_of_le (by simp; omega), List.drop_eq_nil_of_le (by omega)]
theorem pkw_bound (l : List Int) (h : ∀ b ∈ l, 0 ≤ b ∧ b ≤ 255) : 0 ≤ pkw l (l.length / 8) ∧ pkw l (l.length / 8) < 2 ^ (l.length % 8 * 8) := by
  unfold pkw
  have h2 : ((l.drop (8 * (l.length / 8))).take 8).length = l.length % 8 := by simp; omega
  have := leN_bound ((l.drop (8 * (l.length / 8))).take 8) (fun b hb => h b (List.mem_of_mem_drop (List.mem_of_mem_take hb)))
  rwa [h2] at this
theorem pks_step (l : List Int) (n : Nat) (b : Int) (hl : l.length < n) :
    (pks l n).set (l.length / 8) (pkw l (l.length / 8) + b * 2 ^ (l.length % 8 * 8)) = pks (l ++ [b]) n := by
  apply List.ext_getElem
  · simp [pks]
  · intro i h1 h2
    by_cases hi : i = l.length / 8
    · subst hi
      simp [pks, pkw_snoc_same]
    · simp only [List.getElem_set]
      rw [if_neg (Ne.symm hi)]
      simp [pks, pkw_snoc_other l b i hi]
theorem or_pk (x b : Int) (s : Nat) (hs : s ≤ 56) (h8 : s % 8 = 0) (hx : 0 ≤ x ∧ x < 2 ^ s) (hb : 0 ≤ b ∧ b ≤ 255) : bits .or .u64 x (IntKind.u64.wrap (b * 2 ^ s)) = x + b * 2 ^ s := by
  obtain ⟨x', rfl⟩ := Int.eq_ofNat_of_zero_le hx.1
  obtain ⟨b', rfl⟩ := Int.eq_ofNat_of_zero_le hb.1
  have hpow : (2 : Int) ^ s = ((2 ^ s : Nat) : Int) := by simp
  have hx' : x' < 2 ^ s := by have := hx.2; rw [hpow] at this; omega
  have hps : 2 ^ s ≤ 2 ^ 56 := Nat.pow_le_pow_right (by omega) hs
  have hbs : b' * 2 ^ s ≤ 255 * 2 ^ 56 := Nat.mul_le_mul (by omega) hps
  have hb64 : b' * 2 ^ s < 18446744073709551616 := by have : 255 * 2 ^ 56 < 18446744073709551616 := by decide
                                                      omega
  have hx64 : x' < 18446744073709551616 := by have : 2 ^ 56 < 18446744073709551616 := by decide
                                              omega
  have e : (b' : Int) * 2 ^ s = ((b' * 2 ^ s : Nat) : Int) := by rw [hpow, Int.natCast_mul]
  rw [e, IntWalk.u64_in _ (by omega), u64_or_nat x' (b' * 2 ^ s) hx64 hb64, Nat.or_comm, Nat.mul_comm b', ← Nat.two_pow_add_eq_or_of_lt hx' b']
  omega

set_option maxRecDepth 100000 in
set_option maxHeartbeats 1000000 in
theorem pack_any (w : World) (A : Option Addr) (c : Nat) (bs : List Int) (hn : bs.length ≤ 1000000) (hA : Rd .u8 w A bs) (hb : ∀ b ∈ bs, 0 ≤ b ∧ b ≤ 255) :
    Calls Try.prog 69 #[.slice A bs.length c] w fun e w' => e = .returned (.slice (some ⟨w.heap.size, 0, none⟩) ((bs.length + 7) / 8) ((bs.length + 7) / 8)) ∧ IB .u64 26 w' w.heap.size (pks bs bs.length) ∧ Below w.heap.size w w' := by
  have H := Lib.hid hA
  have HB0 := Lib.hid hb
  have hmk := fun W => run_make_z (P := Try.prog) 31 26 .u64 .i64 .i64 (((bs.length : Int) + 7) / 8) ((bs.length + 7) / 8) (by omega) Try.underlying31 8 info_u64 (by omega) (by omega) W
  clear hA hb
  go_enter Try.func69, Try.ntmps69
  go_wp2_with (go_at_call 80; refine (wordsOf_any _ _ (by omega)).mono ?_; rintro e w' ⟨rfl, rfl⟩)
  clear hmk
  go_loopw [12, 4, 5, 13, 14, 15, 16, 17, 18, 19, 20, 21, 22, 23, 24, 25, 26, 27, 28, 29, 30, 31] (fun i _ _ _ _ _ _ _ _ _ _ _ _ _ _ _ _ _ _ _ _ _ wr => ∃ k : Nat, k ≤ bs.length ∧ i = .int .i64 k ∧ IB .u64 26 wr w.heap.size (pks (bs.take k) bs.length) ∧ Below w.heap.size w wr) (fun i _ _ _ _ _ _ _ _ _ _ _ _ _ _ _ _ _ _ _ _ _ _ => bs.length - (intOf i).toNat)
  case atStart => exact ⟨0, Nat.zero_le _, rfl, by rw [List.take_zero, pks_nil]; exact IB.new w _, bl_alloc (Below.refl _ _) _⟩
  case round =>
    obtain ⟨k, hk, rfl, hI, hB⟩ := hrel
    have HI := Lib.hid hI
    have HB := Lib.hid hB
    clear hI hB
    by_cases hlt : k < bs.length
    · obtain ⟨b, off, rfl, hbs, hc⟩ := (H.out.below HB.out).at_ hlt
      have hfr := HI.out.frozen (k / 8)
      have hpl : k / 8 < (pks (bs.take k) bs.length).length := by rw [length_pks]; omega
      have hce := HI.out.cell hpl
      have hlk : (bs.take k).length = k := by simp; omega
      have hval : (pks (bs.take k) bs.length)[k / 8] = pkw (bs.take k) (k / 8) := by simp [pks]
      rw [hval] at hce
      have HE := Lib.hid hlk
      have hbk := HB0.out bs[k] (List.getElem_mem hlt)
      obtain ⟨hbk0, hbk1⟩ := hbk
      have h8 : k / 8 < (bs.length + 7) / 8 := by omega
      have HP := Lib.hid hpl
      clear hlk hval hpl
      go_wp2
      have hor := or_pk (pkw (bs.take k) (k / 8)) bs[k] (k % 8 * 8) (by omega) (by omega) (by have := pkw_bound (bs.take k) (fun b hb => HB0.out b (List.mem_of_mem_take hb)); rwa [HE.out] at this) ⟨hbk0, hbk1⟩
      rw [hor]
      have h6 := HI.out.set (k / 8) (pkw (bs.take k) (k / 8) + bs[k] * 2 ^ (k % 8 * 8))
      have h5 := pks_step (bs.take k) bs.length bs[k] (by rw [HE.out]; exact hlt)
      rw [HE.out] at h5
      rw [h5, ← List.take_succ_eq_append_getElem hlt] at h6
      have h7 := bl_set HB.out (p := ⟨w.heap.size, k / 8, none⟩) (Nat.le_refl _) (.int .u64 (pkw (bs.take k) (k / 8) + bs[k] * 2 ^ (k % 8 * 8)))
      go_roundw
      case rel => exact ⟨k + 1, by omega, by go_num, h6, h7⟩
      case measure => simp [intOf]; omega
    · obtain rfl : k = bs.length := by omega
      go_wp2
      go_ret
      exact ⟨rfl, by have h6 := HI.out; rwa [List.take_length] at h6, HB.out⟩
end Go.Proofs.Ytlbgmoijepknbaa
