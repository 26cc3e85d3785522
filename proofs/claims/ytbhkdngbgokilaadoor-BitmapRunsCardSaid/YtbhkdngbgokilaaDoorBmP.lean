/- Plain law: bits that are flipped, and what Change answers, in bits. -/
import Derived.Test.YtbhkdngbgokilaaDoorBmE
namespace Go.Proofs.YtbhkdngbgokilaaDoor
open Go.RowKit
set_option linter.unusedVariables false

theorem big_bit {x : Nat} (hx : x < 18446744073709551616) {i : Nat} (hi : ¬ i < 64) : x.testBit i = false :=
  Nat.testBit_lt_two_pow (Nat.lt_of_lt_of_le (show x < 2 ^ 64 by omega) (Nat.pow_le_pow_right (by omega) (by omega)))
theorem word_ext {x y : Int} (hx : 0 ≤ x ∧ x < 18446744073709551616) (hy : 0 ≤ y ∧ y < 18446744073709551616) (h : ∀ m, m < 64 → x.toNat.testBit m = y.toNat.testBit m) : x = y := by
  have : x.toNat = y.toNat := by
    apply Nat.eq_of_testBit_eq
    intro i
    by_cases hi : i < 64
    · exact h i hi
    · rw [big_bit (by omega) hi, big_bit (by omega) hi]
  omega
theorem bits_andNot_u64_nat (a b : Nat) (ha : a < 18446744073709551616) (hb : b < 18446744073709551616) :
    ∃ z : Nat, bits .andNot .u64 (a : Int) (b : Int) = (z : Int) ∧ z < 18446744073709551616 ∧ ∀ m, m < 64 → z.testBit m = (a.testBit m && !b.testBit m) := by
  refine ⟨(BitVec.ofInt 64 (a : Int) &&& ~~~ BitVec.ofInt 64 (b : Int)).toNat, ?_, ?_, fun m hm => ?_⟩
  · show IntKind.u64.wrap ((BitVec.ofInt 64 (a : Int) &&& ~~~ BitVec.ofInt 64 (b : Int)).toNat : Int) = _
    have := (BitVec.ofInt 64 (a : Int) &&& ~~~ BitVec.ofInt 64 (b : Int)).isLt
    rw [IntKind.wrap_u64]; omega
  · have := (BitVec.ofInt 64 (a : Int) &&& ~~~ BitVec.ofInt 64 (b : Int)).isLt
    omega
  · rw [BitVec.testBit_toNat, BitVec.getLsbD_and, BitVec.getLsbD_not, BitVec.ofInt_natCast, BitVec.ofInt_natCast, BitVec.getLsbD_ofNat, BitVec.getLsbD_ofNat]
    simp [hm]
/-- One bit flipped. -/
def flipV (x : Int) (b : Nat) : Int := ((x.toNat ^^^ 2 ^ b : Nat) : Int)
def flipW (ws : List Int) (j : Nat) : List Int := ws.set (j / 64) (flipV (ws[j / 64]?.getD 0) (j % 64))
def flips (ws : List Int) (L : List Nat) : List Int := L.foldl flipW ws
theorem flipV_bit (x : Int) (b m : Nat) : (flipV x b).toNat.testBit m = (x.toNat.testBit m != decide (b = m)) := by
  unfold flipV
  rw [Int.toNat_natCast, Nat.testBit_xor, Nat.testBit_two_pow]
theorem flipV_fit {x : Int} (hx : 0 ≤ x ∧ x < 18446744073709551616) {b : Nat} (hb : b < 64) : 0 ≤ flipV x b ∧ flipV x b < 18446744073709551616 := by
  have h1 : 2 ^ b < 2 ^ 64 := Nat.pow_lt_pow_right (by omega) hb
  have := Nat.xor_lt_two_pow (n := 64) (show x.toNat < 2 ^ 64 by omega) h1
  unfold flipV
  omega
theorem flipV_go {x : Int} (hx : 0 ≤ x ∧ x < 18446744073709551616) {b : Nat} (hb : b < 64) : bits .xor .u64 x ((2 ^ b : Nat) : Int) = flipV x b := by
  have h1 : 2 ^ b < 2 ^ 64 := Nat.pow_lt_pow_right (by omega) hb
  obtain ⟨v, rfl⟩ := Int.eq_ofNat_of_zero_le hx.1
  rw [bits_xor_u64_nat _ _ (by omega) (by omega)]
  rfl
theorem flipW_length (ws : List Int) (j : Nat) : (flipW ws j).length = ws.length := by simp [flipW]
theorem flipW_fits {ws : List Int} (h : FitsB ws) (j : Nat) : FitsB (flipW ws j) := by
  intro x hx
  rcases List.mem_or_eq_of_mem_set hx with h1 | h1
  · exact h x h1
  · rw [h1]; exact flipV_fit (h.getD _) (by omega)
theorem flipW_get (ws : List Int) (j k : Nat) (hk : k < ws.length) : (flipW ws j)[k]?.getD 0 = if j / 64 = k then flipV (ws[k]?.getD 0) (j % 64) else ws[k]?.getD 0 := by
  unfold flipW
  rw [List.getElem?_set]
  split
  · rename_i h; subst h; simp [hk]
  · rfl
theorem flipW_bit (ws : List Int) (j i : Nat) (hj : j / 64 < ws.length) : bitW (flipW ws j) i = (bitW ws i != decide (j = i)) := by
  by_cases hi : i / 64 < ws.length
  · unfold bitW
    rw [flipW_get ws j (i / 64) hi]
    by_cases h : j / 64 = i / 64
    · rw [if_pos h, flipV_bit]
      congr 1
      rw [decide_eq_decide]; omega
    · rw [if_neg h, decide_eq_false (fun e => h (by rw [e]))]; simp
  · unfold bitW
    rw [List.getElem?_eq_none (by rw [flipW_length]; omega), List.getElem?_eq_none (by omega), decide_eq_false (fun e => hi (by rw [← e]; exact hj))]
    simp
theorem flips_length (L : List Nat) : ∀ ws, (flips ws L).length = ws.length := by
  induction L with
  | nil => intro ws; rfl
  | cons j L ih => intro ws; show (flips (flipW ws j) L).length = _; rw [ih, flipW_length]
theorem flips_fits (L : List Nat) : ∀ ws, FitsB ws → FitsB (flips ws L) := by
  induction L with
  | nil => intro ws h; exact h
  | cons j L ih => intro ws h; exact ih _ (flipW_fits h j)
theorem flips_bit (L : List Nat) : ∀ (ws : List Int), (∀ j ∈ L, j / 64 < ws.length) → L.Nodup → ∀ i, bitW (flips ws L) i = (bitW ws i != decide (i ∈ L)) := by
  induction L with
  | nil => intro ws _ _ i; simp [flips]
  | cons j L ih =>
    intro ws h hn i
    show bitW (flips (flipW ws j) L) i = _
    rw [List.nodup_cons] at hn
    rw [ih (flipW ws j) (fun q hq => by rw [flipW_length]; exact h q (List.mem_cons_of_mem _ hq)) hn.2 i, flipW_bit ws j i (h j List.mem_cons_self)]
    by_cases h1 : j = i
    · subst h1; simp [hn.1]
    · have h2 : ¬ i = j := fun e => h1 e.symm
      simp [h1, h2]
theorem flips_snoc (ws : List Int) (L : List Nat) (j : Nat) : flips ws (L ++ [j]) = flipW (flips ws L) j := by unfold flips; rw [List.foldl_append]; rfl
theorem flips_append (ws : List Int) (L M : List Nat) : flips ws (L ++ M) = flips (flips ws L) M := by unfold flips; rw [List.foldl_append]

theorem and_ne {x y : Nat} (hx : x < 18446744073709551616) (hy : y < 18446744073709551616) : (bits .and .u64 (x : Int) (y : Int) != 0) = false ↔ ∀ m, m < 64 → (x.testBit m && y.testBit m) = false := by
  rw [bits_and_u64_nat _ _ hx hy]
  constructor
  · intro h m _
    have h0 : x &&& y = 0 := by
      have : (((x &&& y : Nat) : Int)) = 0 := by simpa using h
      omega
    rw [← Nat.testBit_and, h0]; simp
  · intro h
    have h0 : x &&& y = 0 := by
      apply Nat.eq_of_testBit_eq
      intro i
      rw [Nat.testBit_and]
      by_cases hi : i < 64
      · rw [h i hi]; simp
      · rw [big_bit hx hi]; simp
    rw [h0]; rfl
theorem not_bit {v : Nat} (hv : v < 18446744073709551616) {m : Nat} (hm : m < 64) : (18446744073709551615 - v).testBit m = !v.testBit m := by
  have h1 := Nat.testBit_two_pow_sub_succ (n := 64) (x := v) (by simpa using hv) m
  rw [show 2 ^ 64 - (v + 1) = 18446744073709551615 - v by omega] at h1
  rw [h1]; simp [hm]
/-- Do the bits of word v fit the masks? -/
theorem fitB_iff {v : Int} {f g : Nat → Int} {k : Nat} (hv : 0 ≤ v ∧ v < 18446744073709551616) (hf : 0 ≤ f k ∧ f k < 18446744073709551616) (hg : 0 ≤ g k ∧ g k < 18446744073709551616) :
    fitB v f g k = true ↔ ∀ m, m < 64 → ((f k).toNat.testBit m = true → v.toNat.testBit m = false) ∧ ((g k).toNat.testBit m = true → v.toNat.testBit m = true) := by
  obtain ⟨x, rfl⟩ := Int.eq_ofNat_of_zero_le hv.1
  obtain ⟨p, hp⟩ := Int.eq_ofNat_of_zero_le hf.1
  obtain ⟨q, hq⟩ := Int.eq_ofNat_of_zero_le hg.1
  unfold fitB
  rw [hp] at hf ⊢
  rw [hq] at hg ⊢
  simp only [Int.toNat_natCast, Bool.and_eq_true, Bool.not_eq_true']
  rw [and_ne (by omega) (by omega), and_ne (by omega) (by omega)]
  constructor
  · rintro ⟨h1, h2⟩ m hm
    have a := h1 m hm
    have b := h2 m hm
    rw [not_bit (by omega) hm] at b
    cases hx : x.testBit m <;> simp_all
  · intro h
    refine ⟨fun m hm => ?_, fun m hm => ?_⟩
    · obtain ⟨a, b⟩ := h m hm
      cases hpp : p.testBit m <;> simp_all
    · obtain ⟨a, b⟩ := h m hm
      rw [not_bit (by omega) hm]
      cases hqq : q.testBit m <;> simp_all
theorem touB_iff {f g : Nat → Int} {k : Nat} (hf : 0 ≤ f k ∧ f k < 18446744073709551616) (hg : 0 ≤ g k ∧ g k < 18446744073709551616) :
    touB f g k = false ↔ ∀ m, m < 64 → (f k).toNat.testBit m = false ∧ (g k).toNat.testBit m = false := by
  obtain ⟨p, hp⟩ := Int.eq_ofNat_of_zero_le hf.1
  obtain ⟨q, hq⟩ := Int.eq_ofNat_of_zero_le hg.1
  unfold touB
  rw [hp] at hf ⊢
  rw [hq] at hg ⊢
  rw [bits_or_u64_nat _ _ (by omega) (by omega)]
  simp only [Int.toNat_natCast]
  constructor
  · intro h m _
    have h0 : p ||| q = 0 := by
      have : (((p ||| q : Nat) : Int)) = 0 := by simpa using h
      omega
    have : (p ||| q).testBit m = false := by rw [h0]; simp
    rw [Nat.testBit_or] at this
    simpa using this
  · intro h
    have h0 : p ||| q = 0 := by
      apply Nat.eq_of_testBit_eq
      intro i
      rw [Nat.testBit_or]
      by_cases hi : i < 64
      · rw [(h i hi).1, (h i hi).2]; simp
      · rw [big_bit (by omega) hi, big_bit (by omega) hi]; simp
    rw [h0]; rfl
theorem newV_bit {v : Int} {f g : Nat → Int} {k : Nat} (hv : 0 ≤ v ∧ v < 18446744073709551616) (hf : 0 ≤ f k ∧ f k < 18446744073709551616) (hg : 0 ≤ g k ∧ g k < 18446744073709551616) :
    (0 ≤ newV v f g k ∧ newV v f g k < 18446744073709551616) ∧ ∀ m, m < 64 → (newV v f g k).toNat.testBit m = ((v.toNat.testBit m && !(g k).toNat.testBit m) || (f k).toNat.testBit m) := by
  obtain ⟨x, rfl⟩ := Int.eq_ofNat_of_zero_le hv.1
  obtain ⟨p, hp⟩ := Int.eq_ofNat_of_zero_le hf.1
  obtain ⟨q, hq⟩ := Int.eq_ofNat_of_zero_le hg.1
  unfold newV
  rw [hp] at hf ⊢
  rw [hq] at hg ⊢
  obtain ⟨z, hz, hz2, hz3⟩ := bits_andNot_u64_nat x q (by omega) (by omega)
  rw [hz, bits_or_u64_nat _ _ (by omega) (by omega)]
  have hlt := Nat.or_lt_two_pow (n := 64) (show z < 2 ^ 64 by omega) (show p < 2 ^ 64 by omega)
  refine ⟨by omega, fun m hm => ?_⟩
  simp only [Int.toNat_natCast]
  rw [Nat.testBit_or, hz3 m hm]

/-- Can those bits be set and these cleared? -/
def fitP (ws : List Int) (L1 L2 : List Nat) : Prop := (∀ j ∈ L1, bitW ws j = false) ∧ (∀ j ∈ L2, bitW ws j = true)
theorem word_bit (ws : List Int) (k m : Nat) (hm : m < 64) : (ws[k]?.getD 0).toNat.testBit m = bitW ws (64 * k + m) := by
  unfold bitW
  rw [show (64 * k + m) / 64 = k by omega, show (64 * k + m) % 64 = m by omega]
section
variable {ws : List Int} {f g : Nat → Int} {L1 L2 : List Nat} {M : Nat}
theorem fit_word (hw : FitsB ws) (hf : Msk f L1) (hg : Msk g L2) {q : Nat} (hq : q < 8) :
    (!touB f g q || fitB (ws[q]?.getD 0) f g q) = true ↔ ∀ m, m < 64 → (64 * q + m ∈ L1 → bitW ws (64 * q + m) = false) ∧ (64 * q + m ∈ L2 → bitW ws (64 * q + m) = true) := by
  obtain ⟨f1, f2⟩ := hf q hq
  obtain ⟨g1, g2⟩ := hg q hq
  have e1 := fitB_iff (v := ws[q]?.getD 0) (f := f) (g := g) (k := q) (hw.getD q) f1 g1
  have e2 := touB_iff (f := f) (g := g) (k := q) f1 g1
  constructor
  · intro h m hm
    cases ht : touB f g q with
    | false =>
      obtain ⟨a, b⟩ := (e2.1 ht) m hm
      rw [f2 m hm] at a
      rw [g2 m hm] at b
      exact ⟨fun h1 => absurd h1 (by simpa using a), fun h1 => absurd h1 (by simpa using b)⟩
    | true =>
      rw [ht] at h
      obtain ⟨a, b⟩ := (e1.1 (by simpa using h)) m hm
      rw [f2 m hm, word_bit ws q m hm] at a
      rw [g2 m hm, word_bit ws q m hm] at b
      exact ⟨fun h1 => a (by simpa using h1), fun h1 => b (by simpa using h1)⟩
  · intro h
    have : fitB (ws[q]?.getD 0) f g q = true := e1.2 fun m hm => by
      obtain ⟨a, b⟩ := h m hm
      rw [f2 m hm, g2 m hm, word_bit ws q m hm]
      exact ⟨fun h1 => a (by simpa using h1), fun h1 => b (by simpa using h1)⟩
    rw [this]; simp
theorem chF_iff (hw : FitsB ws) (hf : Msk f L1) (hg : Msk g L2) (hM : M ≤ 8) (h1 : ∀ j ∈ L1, j < 64 * M) (h2 : ∀ j ∈ L2, j < 64 * M) : chF ws f g M = true ↔ fitP ws L1 L2 := by
  unfold chF fitP
  rw [List.all_eq_true]
  constructor
  · intro h
    have key : ∀ j, j < 64 * M → (j ∈ L1 → bitW ws j = false) ∧ (j ∈ L2 → bitW ws j = true) := by
      intro j hj
      have := (fit_word (q := j / 64) hw hf hg (by omega)).1 (h (j / 64) (by simp; omega)) (j % 64) (by omega)
      rwa [show 64 * (j / 64) + j % 64 = j by omega] at this
    exact ⟨fun j hj => (key j (h1 j hj)).1 hj, fun j hj => (key j (h2 j hj)).2 hj⟩
  · rintro ⟨h3, h4⟩ q hq
    have hq : q < M := by simpa using hq
    exact (fit_word hw hf hg (by omega)).2 fun m hm => ⟨fun h => h3 _ h, fun h => h4 _ h⟩
/-- The new value of a word that is touched, and of one that is not. -/
theorem new_word (hw : FitsB ws) (hf : Msk f L1) (hg : Msk g L2) (hfit : fitP ws L1 L2) (hb : ∀ j ∈ L1 ++ L2, j / 64 < ws.length) (hN : (L1 ++ L2).Nodup) {k : Nat} (hk : k < ws.length) (hk8 : k < 8) :
    (touB f g k = true → newV (ws[k]?.getD 0) f g k = (flips ws (L1 ++ L2))[k]?.getD 0 ∧ (flips ws (L1 ++ L2))[k]?.getD 0 ≠ ws[k]?.getD 0) ∧ (touB f g k = false → (flips ws (L1 ++ L2))[k]?.getD 0 = ws[k]?.getD 0) := by
  obtain ⟨f1, f2⟩ := hf k hk8
  obtain ⟨g1, g2⟩ := hg k hk8
  have hwk := hw.getD k
  have hfk := (flips_fits (L1 ++ L2) ws hw).getD k
  have hbit : ∀ m, m < 64 → ((flips ws (L1 ++ L2))[k]?.getD 0).toNat.testBit m = (bitW ws (64 * k + m) != decide (64 * k + m ∈ L1 ++ L2)) := by
    intro m hm
    rw [word_bit _ k m hm, flips_bit _ _ hb hN]
  constructor
  · intro ht
    obtain ⟨n1, n2⟩ := newV_bit (v := ws[k]?.getD 0) hwk f1 g1
    refine ⟨word_ext n1 hfk fun m hm => ?_, fun he => ?_⟩
    · rw [hbit m hm, n2 m hm, f2 m hm, g2 m hm, word_bit _ _ _ hm]
      have a := hfit.1 (64 * k + m)
      have b := hfit.2 (64 * k + m)
      by_cases m1 : 64 * k + m ∈ L1
      · have := a m1
        simp [m1, this]
      · by_cases m2 : 64 * k + m ∈ L2
        · have := b m2
          simp [m1, m2, this]
        · simp [m1, m2]
    · have : touB f g k = false := (touB_iff f1 g1).2 fun m hm => by
        have h := hbit m hm
        rw [he, word_bit _ _ _ hm] at h
        have h0 : decide (64 * k + m ∈ L1 ++ L2) = false := by
          revert h
          cases bitW ws (64 * k + m) <;> cases decide (64 * k + m ∈ L1 ++ L2) <;> simp
        have h0 : ¬ 64 * k + m ∈ L1 ++ L2 := by simpa using h0
        rw [List.mem_append] at h0
        rw [f2 m hm, g2 m hm]
        exact ⟨by simp; exact fun h => h0 (.inl h), by simp; exact fun h => h0 (.inr h)⟩
      rw [this] at ht; cases ht
  · intro ht
    refine word_ext hfk hwk fun m hm => ?_
    obtain ⟨a, b⟩ := (touB_iff f1 g1).1 ht m hm
    rw [f2 m hm] at a
    rw [g2 m hm] at b
    have a : ¬ 64 * k + m ∈ L1 := by simpa using a
    have b : ¬ 64 * k + m ∈ L2 := by simpa using b
    rw [hbit m hm, word_bit _ _ _ hm]
    simp [a, b]
end

/-- Lists of indices that can be noted. -/
theorem okP_nil (n : Nat) (l : List Int) (k : Nat) (hk : k < l.length) (h0 : 0 ≤ l[k]) (hn : l[k] < (n : Int)) (hd : ∀ j, (hj : j < k) → 0 ≤ l[j] ∧ l[j] ≠ l[k]) : okP n [] l k = true := by
  unfold okP
  rw [List.getElem?_eq_getElem hk]
  simp only [Option.getD_some, List.nil_append]
  rw [decide_eq_true h0, decide_eq_true hn, decide_eq_false]
  · rfl
  · intro hm
    obtain ⟨x, hx, he⟩ := List.mem_map.1 hm
    obtain ⟨j, hj, rfl⟩ := List.getElem_of_mem hx
    rw [List.length_take] at hj
    rw [List.getElem_take] at he
    have := hd j (by omega)
    omega
theorem okP_neg (n : Nat) (S : List Nat) (l : List Int) (k : Nat) (hk : k < l.length) (h : ¬ (0 ≤ l[k] ∧ l[k] < (n : Int))) : okP n S l k = false := by
  unfold okP
  rw [List.getElem?_eq_getElem hk]
  simp only [Option.getD_some]
  by_cases h0 : 0 ≤ l[k]
  · rw [decide_eq_false (p := l[k] < (n : Int)) (fun h1 => h ⟨h0, h1⟩)]; simp
  · rw [decide_eq_false h0]; simp
theorem okP_dup (n : Nat) (S : List Nat) (l : List Int) (k j : Nat) (hk : k < l.length) (hj : j < k) (h : l[j] = l[k]) : okP n S l k = false := by
  unfold okP
  rw [List.getElem?_eq_getElem hk]
  simp only [Option.getD_some]
  have : (l[k]).toNat ∈ S ++ (l.take k).map Int.toNat := by
    apply List.mem_append_right
    rw [List.mem_map]
    refine ⟨l[j], ?_, by rw [h]⟩
    rw [List.mem_take_iff_getElem]
    exact ⟨j, by omega, rfl⟩
  rw [decide_eq_true this]; simp
theorem all_congr_mem {α : Type} {p q : α → Bool} : ∀ {l : List α}, (∀ x ∈ l, p x = q x) → l.all p = l.all q := by
  intro l
  induction l with
  | nil => intro _; rfl
  | cons x l ih =>
    intro h
    rw [List.all_cons, List.all_cons, h x List.mem_cons_self, ih fun y hy => h y (List.mem_cons_of_mem _ hy)]
theorem okL_app (n : Nat) (l1 l2 : List Int) : okL n [] (l1 ++ l2) = (okL n [] l1 && okL n (l1.map Int.toNat) l2) := by
  unfold okL
  rw [List.length_append, List.range_add, List.all_append, List.all_map]
  congr 1
  · apply all_congr_mem
    intro k hk
    have hk : k < l1.length := by simpa using hk
    unfold okP
    rw [List.getElem?_append_left hk, List.take_append_of_le_length (by omega)]
  · apply all_congr_mem
    intro k hk
    show okP n [] (l1 ++ l2) (l1.length + k) = _
    unfold okP
    rw [List.getElem?_append_right (by omega), show l1.length + k - l1.length = k by omega, List.take_append, List.take_of_length_le (by omega), show l1.length + k - l1.length = k by omega]
    simp [List.map_append]
/-- What a list that can be noted holds. -/
theorem okL_spec {n : Nat} {l : List Int} (h : okL n [] l = true) : (∀ x ∈ l, 0 ≤ x ∧ x < (n : Int)) ∧ (l.map Int.toNat).Nodup := by
  unfold okL at h
  rw [List.all_eq_true] at h
  have hk : ∀ k, (hk : k < l.length) → (0 ≤ l[k] ∧ l[k] < (n : Int)) ∧ ¬ (l[k]).toNat ∈ (l.take k).map Int.toNat := by
    intro k hk
    have := h k (by simpa using hk)
    unfold okP at this
    rw [List.getElem?_eq_getElem hk] at this
    simp only [Option.getD_some, List.nil_append, Bool.and_eq_true, decide_eq_true_eq, Bool.not_eq_true', decide_eq_false_iff_not] at this
    exact ⟨⟨this.1, this.2.1⟩, this.2.2⟩
  refine ⟨fun x hx => ?_, ?_⟩
  · obtain ⟨k, hk1, rfl⟩ := List.getElem_of_mem hx
    exact (hk k hk1).1
  · rw [List.nodup_iff_pairwise_ne, List.pairwise_iff_getElem]
    intro i j hi hj hij
    rw [List.length_map] at hi hj
    rw [List.getElem_map, List.getElem_map]
    intro he
    refine (hk j hj).2 ?_
    rw [List.mem_map]
    exact ⟨l[i], by rw [List.mem_take_iff_getElem]; exact ⟨i, by omega, rfl⟩, he⟩
/-- The reference's look at the k-th index. -/
def fitR (ws : List Int) (L : List Nat) (s : Nat) (k : Nat) : Bool := bitW ws (L[k]?.getD 0) != decide (k < s)
theorem fitR_iff (ws : List Int) (L1 L2 : List Nat) : (List.range (L1 ++ L2).length).all (fitR ws (L1 ++ L2) L1.length) = true ↔ fitP ws L1 L2 := by
  rw [List.all_eq_true]
  constructor
  · intro h
    refine ⟨fun j hj => ?_, fun j hj => ?_⟩
    · obtain ⟨k, hk, rfl⟩ := List.getElem_of_mem hj
      have := h k (by simp; omega)
      unfold fitR at this
      rw [List.getElem?_append_left hk, List.getElem?_eq_getElem hk, decide_eq_true hk] at this
      simpa using this
    · obtain ⟨k, hk, rfl⟩ := List.getElem_of_mem hj
      have := h (L1.length + k) (by simp; omega)
      unfold fitR at this
      rw [List.getElem?_append_right (by omega), show L1.length + k - L1.length = k by omega, List.getElem?_eq_getElem hk, decide_eq_false (by omega)] at this
      simpa using this
  · rintro ⟨h1, h2⟩ k hk
    have hk : k < L1.length + L2.length := by simpa using hk
    unfold fitR
    by_cases hk1 : k < L1.length
    · rw [List.getElem?_append_left hk1, List.getElem?_eq_getElem hk1, decide_eq_true hk1]
      have := h1 _ (List.getElem_mem hk1)
      simp [this]
    · rw [List.getElem?_append_right (by omega), List.getElem?_eq_getElem (show k - L1.length < L2.length by omega), decide_eq_false hk1]
      have := h2 _ (List.getElem_mem (show k - L1.length < L2.length by omega))
      simp [this]
end Go.Proofs.YtbhkdngbgokilaaDoor
