/- Change of a bitmap and the reference's Change (merged). -/
import Derived.Test.YtbhkdngbgokilaaDoorBmE
import Derived.Test.YtbhkdngbgokilaaDoorBmJ
import Derived.Test.YtbhkdngbgokilaaDoorBmH
namespace Go.Proofs.YtbhkdngbgokilaaDoor
open Go.RowKit
set_option linter.unusedVariables false

theorem big_bit {x : Nat} (hx : x < 18446744073709551616) {i : Nat} (hi : ¬ i < 64) : x.testBit i = false :=
  Nat.testBit_lt_two_pow (Nat.lt_of_lt_of_le (show x < 2 ^ 64 by omega) (Nat.pow_le_pow_right (by omega) (by omega)))
theorem word_ext {x y : Int} (hx : 0 ≤ x ∧ x < 18446744073709551616) (hy : 0 ≤ y ∧ y < 18446744073709551616) (h : ∀ m, m < 64 → x.toNat.testBit m = y.toNat.testBit m) : x = y := by
  have : x.toNat = y.toNat := by
    apply Nat.eq_of_testBit_eq
    intro i
    by_cases hi : i < 64
    · exact h i hi
    · rw [big_bit (by omega) hi, big_bit (by omega) hi]
  omega
theorem bits_andNot_u64_nat (a b : Nat) (ha : a < 18446744073709551616) (hb : b < 18446744073709551616) :
    ∃ z : Nat, bits .andNot .u64 (a : Int) (b : Int) = (z : Int) ∧ z < 18446744073709551616 ∧ ∀ m, m < 64 → z.testBit m = (a.testBit m && !b.testBit m) := by
  refine ⟨(BitVec.ofInt 64 (a : Int) &&& ~~~ BitVec.ofInt 64 (b : Int)).toNat, ?_, ?_, fun m hm => ?_⟩
  · show IntKind.u64.wrap ((BitVec.ofInt 64 (a : Int) &&& ~~~ BitVec.ofInt 64 (b : Int)).toNat : Int) = _
    have := (BitVec.ofInt 64 (a : Int) &&& ~~~ BitVec.ofInt 64 (b : Int)).isLt
    rw [IntKind.wrap_u64]; omega
  · have := (BitVec.ofInt 64 (a : Int) &&& ~~~ BitVec.ofInt 64 (b : Int)).isLt
    omega
  · rw [BitVec.testBit_toNat, BitVec.getLsbD_and, BitVec.getLsbD_not, BitVec.ofInt_natCast, BitVec.ofInt_natCast, BitVec.getLsbD_ofNat, BitVec.getLsbD_ofNat]
    simp [hm]
/-- One bit flipped. -/
def flipV (x : Int) (b : Nat) : Int := ((x.toNat ^^^ 2 ^ b : Nat) : Int)
def flipW (ws : List Int) (j : Nat) : List Int := ws.set (j / 64) (flipV (ws[j / 64]?.getD 0) (j % 64))
def flips (ws : List Int) (L : List Nat) : List Int := L.foldl flipW ws
theorem flipV_bit (x : Int) (b m : Nat) : (flipV x b).toNat.testBit m = (x.toNat.testBit m != decide (b = m)) := by
  unfold flipV
  rw [Int.toNat_natCast, Nat.testBit_xor, Nat.testBit_two_pow]
theorem flipV_fit {x : Int} (hx : 0 ≤ x ∧ x < 18446744073709551616) {b : Nat} (hb : b < 64) : 0 ≤ flipV x b ∧ flipV x b < 18446744073709551616 := by
  have h1 : 2 ^ b < 2 ^ 64 := Nat.pow_lt_pow_right (by omega) hb
  have := Nat.xor_lt_two_pow (n := 64) (show x.toNat < 2 ^ 64 by omega) h1
  unfold flipV
  omega
theorem flipV_go {x : Int} (hx : 0 ≤ x ∧ x < 18446744073709551616) {b : Nat} (hb : b < 64) : bits .xor .u64 x ((2 ^ b : Nat) : Int) = flipV x b := by
  have h1 : 2 ^ b < 2 ^ 64 := Nat.pow_lt_pow_right (by omega) hb
  obtain ⟨v, rfl⟩ := Int.eq_ofNat_of_zero_le hx.1
  rw [bits_xor_u64_nat _ _ (by omega) (by omega)]
  rfl
theorem flipW_length (ws : List Int) (j : Nat) : (flipW ws j).length = ws.length := by simp [flipW]
theorem flipW_fits {ws : List Int} (h : FitsB ws) (j : Nat) : FitsB (flipW ws j) := by
  intro x hx
  rcases List.mem_or_eq_of_mem_set hx with h1 | h1
  · exact h x h1
  · rw [h1]; exact flipV_fit (h.getD _) (by omega)
theorem flipW_get (ws : List Int) (j k : Nat) (hk : k < ws.length) : (flipW ws j)[k]?.getD 0 = if j / 64 = k then flipV (ws[k]?.getD 0) (j % 64) else ws[k]?.getD 0 := by
  unfold flipW
  rw [List.getElem?_set]
  split
  · rename_i h; subst h; simp [hk]
  · rfl
theorem flipW_bit (ws : List Int) (j i : Nat) (hj : j / 64 < ws.length) : bitW (flipW ws j) i = (bitW ws i != decide (j = i)) := by
  by_cases hi : i / 64 < ws.length
  · unfold bitW
    rw [flipW_get ws j (i / 64) hi]
    by_cases h : j / 64 = i / 64
    · rw [if_pos h, flipV_bit]
      congr 1
      rw [decide_eq_decide]; omega
    · rw [if_neg h, decide_eq_false (fun e => h (by rw [e]))]; simp
  · unfold bitW
    rw [List.getElem?_eq_none (by rw [flipW_length]; omega), List.getElem?_eq_none (by omega), decide_eq_false (fun e => hi (by rw [← e]; exact hj))]
    simp
theorem flips_length (L : List Nat) : ∀ ws, (flips ws L).length = ws.length := by
  induction L with
  | nil => intro ws; rfl
  | cons j L ih => intro ws; show (flips (flipW ws j) L).length = _; rw [ih, flipW_length]
theorem flips_fits (L : List Nat) : ∀ ws, FitsB ws → FitsB (flips ws L) := by
  induction L with
  | nil => intro ws h; exact h
  | cons j L ih => intro ws h; exact ih _ (flipW_fits h j)
theorem flips_bit (L : List Nat) : ∀ (ws : List Int), (∀ j ∈ L, j / 64 < ws.length) → L.Nodup → ∀ i, bitW (flips ws L) i = (bitW ws i != decide (i ∈ L)) := by
  induction L with
  | nil => intro ws _ _ i; simp [flips]
  | cons j L ih =>
    intro ws h hn i
    show bitW (flips (flipW ws j) L) i = _
    rw [List.nodup_cons] at hn
    rw [ih (flipW ws j) (fun q hq => by rw [flipW_length]; exact h q (List.mem_cons_of_mem _ hq)) hn.2 i, flipW_bit ws j i (h j List.mem_cons_self)]
    by_cases h1 : j = i
    · subst h1; simp [hn.1]
    · have h2 : ¬ i = j := fun e => h1 e.symm
      simp [h1, h2]
theorem flips_snoc (ws : List Int) (L : List Nat) (j : Nat) : flips ws (L ++ [j]) = flipW (flips ws L) j := by unfold flips; rw [List.foldl_append]; rfl
theorem flips_append (ws : List Int) (L M : List Nat) : flips ws (L ++ M) = flips (flips ws L) M := by unfold flips; rw [List.foldl_append]

theorem and_ne {x y : Nat} (hx : x < 18446744073709551616) (hy : y < 18446744073709551616) : (bits .and .u64 (x : Int) (y : Int) != 0) = false ↔ ∀ m, m < 64 → (x.testBit m && y.testBit m) = false := by
  rw [bits_and_u64_nat _ _ hx hy]
  constructor
  · intro h m _
    have h0 : x &&& y = 0 := by
      have : (((x &&& y : Nat) : Int)) = 0 := by simpa using h
      omega
    rw [← Nat.testBit_and, h0]; simp
  · intro h
    have h0 : x &&& y = 0 := by
      apply Nat.eq_of_testBit_eq
      intro i
      rw [Nat.testBit_and]
      by_cases hi : i < 64
      · rw [h i hi]; simp
      · rw [big_bit hx hi]; simp
    rw [h0]; rfl
theorem not_bit {v : Nat} (hv : v < 18446744073709551616) {m : Nat} (hm : m < 64) : (18446744073709551615 - v).testBit m = !v.testBit m := by
  have h1 := Nat.testBit_two_pow_sub_succ (n := 64) (x := v) (by simpa using hv) m
  rw [show 2 ^ 64 - (v + 1) = 18446744073709551615 - v by omega] at h1
  rw [h1]; simp [hm]
/-- Do the bits of word v fit the masks? -/
theorem fitB_iff {v : Int} {f g : Nat → Int} {k : Nat} (hv : 0 ≤ v ∧ v < 18446744073709551616) (hf : 0 ≤ f k ∧ f k < 18446744073709551616) (hg : 0 ≤ g k ∧ g k < 18446744073709551616) :
    fitB v f g k = true ↔ ∀ m, m < 64 → ((f k).toNat.testBit m = true → v.toNat.testBit m = false) ∧ ((g k).toNat.testBit m = true → v.toNat.testBit m = true) := by
  obtain ⟨x, rfl⟩ := Int.eq_ofNat_of_zero_le hv.1
  obtain ⟨p, hp⟩ := Int.eq_ofNat_of_zero_le hf.1
  obtain ⟨q, hq⟩ := Int.eq_ofNat_of_zero_le hg.1
  unfold fitB
  rw [hp] at hf ⊢
  rw [hq] at hg ⊢
  simp only [Int.toNat_natCast, Bool.and_eq_true, Bool.not_eq_true']
  rw [and_ne (by omega) (by omega), and_ne (by omega) (by omega)]
  constructor
  · rintro ⟨h1, h2⟩ m hm
    have a := h1 m hm
    have b := h2 m hm
    rw [not_bit (by omega) hm] at b
    cases hx : x.testBit m <;> simp_all
  · intro h
    refine ⟨fun m hm => ?_, fun m hm => ?_⟩
    · obtain ⟨a, b⟩ := h m hm
      cases hpp : p.testBit m <;> simp_all
    · obtain ⟨a, b⟩ := h m hm
      rw [not_bit (by omega) hm]
      cases hqq : q.testBit m <;> simp_all
theorem touB_iff {f g : Nat → Int} {k : Nat} (hf : 0 ≤ f k ∧ f k < 18446744073709551616) (hg : 0 ≤ g k ∧ g k < 18446744073709551616) :
    touB f g k = false ↔ ∀ m, m < 64 → (f k).toNat.testBit m = false ∧ (g k).toNat.testBit m = false := by
  obtain ⟨p, hp⟩ := Int.eq_ofNat_of_zero_le hf.1
  obtain ⟨q, hq⟩ := Int.eq_ofNat_of_zero_le hg.1
  unfold touB
  rw [hp] at hf ⊢
  rw [hq] at hg ⊢
  rw [bits_or_u64_nat _ _ (by omega) (by omega)]
  simp only [Int.toNat_natCast]
  constructor
  · intro h m _
    have h0 : p ||| q = 0 := by
      have : (((p ||| q : Nat) : Int)) = 0 := by simpa using h
      omega
    have : (p ||| q).testBit m = false := by rw [h0]; simp
    rw [Nat.testBit_or] at this
    simpa using this
  · intro h
    have h0 : p ||| q = 0 := by
      apply Nat.eq_of_testBit_eq
      intro i
      rw [Nat.testBit_or]
      by_cases hi : i < 64
      · rw [(h i hi).1, (h i hi).2]; simp
      · rw [big_bit (by omega) hi, big_bit (by omega) hi]; simp
    rw [h0]; rfl
theorem newV_bit {v : Int} {f g : Nat → Int} {k : Nat} (hv : 0 ≤ v ∧ v < 18446744073709551616) (hf : 0 ≤ f k ∧ f k < 18446744073709551616) (hg : 0 ≤ g k ∧ g k < 18446744073709551616) :
    (0 ≤ newV v f g k ∧ newV v f g k < 18446744073709551616) ∧ ∀ m, m < 64 → (newV v f g k).toNat.testBit m = ((v.toNat.testBit m && !(g k).toNat.testBit m) || (f k).toNat.testBit m) := by
  obtain ⟨x, rfl⟩ := Int.eq_ofNat_of_zero_le hv.1
  obtain ⟨p, hp⟩ := Int.eq_ofNat_of_zero_le hf.1
  obtain ⟨q, hq⟩ := Int.eq_ofNat_of_zero_le hg.1
  unfold newV
  rw [hp] at hf ⊢
  rw [hq] at hg ⊢
  obtain ⟨z, hz, hz2, hz3⟩ := bits_andNot_u64_nat x q (by omega) (by omega)
  rw [hz, bits_or_u64_nat _ _ (by omega) (by omega)]
  have hlt := Nat.or_lt_two_pow (n := 64) (show z < 2 ^ 64 by omega) (show p < 2 ^ 64 by omega)
  refine ⟨by omega, fun m hm => ?_⟩
  simp only [Int.toNat_natCast]
  rw [Nat.testBit_or, hz3 m hm]

/-- Can those bits be set and these cleared? -/
def fitP (ws : List Int) (L1 L2 : List Nat) : Prop := (∀ j ∈ L1, bitW ws j = false) ∧ (∀ j ∈ L2, bitW ws j = true)
theorem word_bit (ws : List Int) (k m : Nat) (hm : m < 64) : (ws[k]?.getD 0).toNat.testBit m = bitW ws (64 * k + m) := by
  unfold bitW
  rw [show (64 * k + m) / 64 = k by omega, show (64 * k + m) % 64 = m by omega]
section
variable {ws : List Int} {f g : Nat → Int} {L1 L2 : List Nat} {M : Nat}
theorem fit_word (hw : FitsB ws) (hf : Msk f L1) (hg : Msk g L2) {q : Nat} (hq : q < 8) :
    (!touB f g q || fitB (ws[q]?.getD 0) f g q) = true ↔ ∀ m, m < 64 → (64 * q + m ∈ L1 → bitW ws (64 * q + m) = false) ∧ (64 * q + m ∈ L2 → bitW ws (64 * q + m) = true) := by
  obtain ⟨f1, f2⟩ := hf q hq
  obtain ⟨g1, g2⟩ := hg q hq
  have e1 := fitB_iff (v := ws[q]?.getD 0) (f := f) (g := g) (k := q) (hw.getD q) f1 g1
  have e2 := touB_iff (f := f) (g := g) (k := q) f1 g1
  constructor
  · intro h m hm
    cases ht : touB f g q with
    | false =>
      obtain ⟨a, b⟩ := (e2.1 ht) m hm
      rw [f2 m hm] at a
      rw [g2 m hm] at b
      exact ⟨fun h1 => absurd h1 (by simpa using a), fun h1 => absurd h1 (by simpa using b)⟩
    | true =>
      rw [ht] at h
      obtain ⟨a, b⟩ := (e1.1 (by simpa using h)) m hm
      rw [f2 m hm, word_bit ws q m hm] at a
      rw [g2 m hm, word_bit ws q m hm] at b
      exact ⟨fun h1 => a (by simpa using h1), fun h1 => b (by simpa using h1)⟩
  · intro h
    have : fitB (ws[q]?.getD 0) f g q = true := e1.2 fun m hm => by
      obtain ⟨a, b⟩ := h m hm
      rw [f2 m hm, g2 m hm, word_bit ws q m hm]
      exact ⟨fun h1 => a (by simpa using h1), fun h1 => b (by simpa using h1)⟩
    rw [this]; simp
theorem chF_iff (hw : FitsB ws) (hf : Msk f L1) (hg : Msk g L2) (hM : M ≤ 8) (h1 : ∀ j ∈ L1, j < 64 * M) (h2 : ∀ j ∈ L2, j < 64 * M) : chF ws f g M = true ↔ fitP ws L1 L2 := by
  unfold chF fitP
  rw [List.all_eq_true]
  constructor
  · intro h
    have key : ∀ j, j < 64 * M → (j ∈ L1 → bitW ws j = false) ∧ (j ∈ L2 → bitW ws j = true) := by
      intro j hj
      have := (fit_word (q := j / 64) hw hf hg (by omega)).1 (h (j / 64) (by simp; omega)) (j % 64) (by omega)
      rwa [show 64 * (j / 64) + j % 64 = j by omega] at this
    exact ⟨fun j hj => (key j (h1 j hj)).1 hj, fun j hj => (key j (h2 j hj)).2 hj⟩
  · rintro ⟨h3, h4⟩ q hq
    have hq : q < M := by simpa using hq
    exact (fit_word hw hf hg (by omega)).2 fun m hm => ⟨fun h => h3 _ h, fun h => h4 _ h⟩
/-- The new value of a word that is touched, and of one that is not. -/
theorem new_word (hw : FitsB ws) (hf : Msk f L1) (hg : Msk g L2) (hfit : fitP ws L1 L2) (hb : ∀ j ∈ L1 ++ L2, j / 64 < ws.length) (hN : (L1 ++ L2).Nodup) {k : Nat} (hk : k < ws.length) (hk8 : k < 8) :
    (touB f g k = true → newV (ws[k]?.getD 0) f g k = (flips ws (L1 ++ L2))[k]?.getD 0 ∧ (flips ws (L1 ++ L2))[k]?.getD 0 ≠ ws[k]?.getD 0) ∧ (touB f g k = false → (flips ws (L1 ++ L2))[k]?.getD 0 = ws[k]?.getD 0) := by
  obtain ⟨f1, f2⟩ := hf k hk8
  obtain ⟨g1, g2⟩ := hg k hk8
  have hwk := hw.getD k
  have hfk := (flips_fits (L1 ++ L2) ws hw).getD k
  have hbit : ∀ m, m < 64 → ((flips ws (L1 ++ L2))[k]?.getD 0).toNat.testBit m = (bitW ws (64 * k + m) != decide (64 * k + m ∈ L1 ++ L2)) := by
    intro m hm
    rw [word_bit _ k m hm, flips_bit _ _ hb hN]
  constructor
  · intro ht
    obtain ⟨n1, n2⟩ := newV_bit (v := ws[k]?.getD 0) hwk f1 g1
    refine ⟨word_ext n1 hfk fun m hm => ?_, fun he => ?_⟩
    · rw [hbit m hm, n2 m hm, f2 m hm, g2 m hm, word_bit _ _ _ hm]
      have a := hfit.1 (64 * k + m)
      have b := hfit.2 (64 * k + m)
      by_cases m1 : 64 * k + m ∈ L1
      · have := a m1
        simp [m1, this]
      · by_cases m2 : 64 * k + m ∈ L2
        · have := b m2
          simp [m1, m2, this]
        · simp [m1, m2]
    · have : touB f g k = false := (touB_iff f1 g1).2 fun m hm => by
        have h := hbit m hm
        rw [he, word_bit _ _ _ hm] at h
        have h0 : decide (64 * k + m ∈ L1 ++ L2) = false := by
          revert h
          cases bitW ws (64 * k + m) <;> cases decide (64 * k + m ∈ L1 ++ L2) <;> simp
        have h0 : ¬ 64 * k + m ∈ L1 ++ L2 := by simpa using h0
        rw [List.mem_append] at h0
        rw [f2 m hm, g2 m hm]
        exact ⟨by simp; exact fun h => h0 (.inl h), by simp; exact fun h => h0 (.inr h)⟩
      rw [this] at ht; cases ht
  · intro ht
    refine word_ext hfk hwk fun m hm => ?_
    obtain ⟨a, b⟩ := (touB_iff f1 g1).1 ht m hm
    rw [f2 m hm] at a
    rw [g2 m hm] at b
    have a : ¬ 64 * k + m ∈ L1 := by simpa using a
    have b : ¬ 64 * k + m ∈ L2 := by simpa using b
    rw [hbit m hm, word_bit _ _ _ hm]
    simp [a, b]
end

/-- Lists of indices that can be noted. -/
theorem okP_nil (n : Nat) (l : List Int) (k : Nat) (hk : k < l.length) (h0 : 0 ≤ l[k]) (hn : l[k] < (n : Int)) (hd : ∀ j, (hj : j < k) → 0 ≤ l[j] ∧ l[j] ≠ l[k]) : okP n [] l k = true := by
  unfold okP
  rw [List.getElem?_eq_getElem hk]
  simp only [Option.getD_some, List.nil_append]
  rw [decide_eq_true h0, decide_eq_true hn, decide_eq_false]
  · rfl
  · intro hm
    obtain ⟨x, hx, he⟩ := List.mem_map.1 hm
    obtain ⟨j, hj, rfl⟩ := List.getElem_of_mem hx
    rw [List.length_take] at hj
    rw [List.getElem_take] at he
    have := hd j (by omega)
    omega
theorem okP_neg (n : Nat) (S : List Nat) (l : List Int) (k : Nat) (hk : k < l.length) (h : ¬ (0 ≤ l[k] ∧ l[k] < (n : Int))) : okP n S l k = false := by
  unfold okP
  rw [List.getElem?_eq_getElem hk]
  simp only [Option.getD_some]
  by_cases h0 : 0 ≤ l[k]
  · rw [decide_eq_false (p := l[k] < (n : Int)) (fun h1 => h ⟨h0, h1⟩)]; simp
  · rw [decide_eq_false h0]; simp
theorem okP_dup (n : Nat) (S : List Nat) (l : List Int) (k j : Nat) (hk : k < l.length) (hj : j < k) (h : l[j] = l[k]) : okP n S l k = false := by
  unfold okP
  rw [List.getElem?_eq_getElem hk]
  simp only [Option.getD_some]
  have : (l[k]).toNat ∈ S ++ (l.take k).map Int.toNat := by
    apply List.mem_append_right
    rw [List.mem_map]
    refine ⟨l[j], ?_, by rw [h]⟩
    rw [List.mem_take_iff_getElem]
    exact ⟨j, by omega, rfl⟩
  rw [decide_eq_true this]; simp
theorem all_congr_mem {α : Type} {p q : α → Bool} : ∀ {l : List α}, (∀ x ∈ l, p x = q x) → l.all p = l.all q := by
  intro l
  induction l with
  | nil => intro _; rfl
  | cons x l ih =>
    intro h
    rw [List.all_cons, List.all_cons, h x List.mem_cons_self, ih fun y hy => h y (List.mem_cons_of_mem _ hy)]
theorem okL_app (n : Nat) (l1 l2 : List Int) : okL n [] (l1 ++ l2) = (okL n [] l1 && okL n (l1.map Int.toNat) l2) := by
  unfold okL
  rw [List.length_append, List.range_add, List.all_append, List.all_map]
  congr 1
  · apply all_congr_mem
    intro k hk
    have hk : k < l1.length := by simpa using hk
    unfold okP
    rw [List.getElem?_append_left hk, List.take_append_of_le_length (by omega)]
  · apply all_congr_mem
    intro k hk
    show okP n [] (l1 ++ l2) (l1.length + k) = _
    unfold okP
    rw [List.getElem?_append_right (by omega), show l1.length + k - l1.length = k by omega, List.take_append, List.take_of_length_le (by omega), show l1.length + k - l1.length = k by omega]
    simp [List.map_append]
/-- What a list that can be noted holds. -/
theorem okL_spec {n : Nat} {l : List Int} (h : okL n [] l = true) : (∀ x ∈ l, 0 ≤ x ∧ x < (n : Int)) ∧ (l.map Int.toNat).Nodup := by
  unfold okL at h
  rw [List.all_eq_true] at h
  have hk : ∀ k, (hk : k < l.length) → (0 ≤ l[k] ∧ l[k] < (n : Int)) ∧ ¬ (l[k]).toNat ∈ (l.take k).map Int.toNat := by
    intro k hk
    have := h k (by simpa using hk)
    unfold okP at this
    rw [List.getElem?_eq_getElem hk] at this
    simp only [Option.getD_some, List.nil_append, Bool.and_eq_true, decide_eq_true_eq, Bool.not_eq_true', decide_eq_false_iff_not] at this
    exact ⟨⟨this.1, this.2.1⟩, this.2.2⟩
  refine ⟨fun x hx => ?_, ?_⟩
  · obtain ⟨k, hk1, rfl⟩ := List.getElem_of_mem hx
    exact (hk k hk1).1
  · rw [List.nodup_iff_pairwise_ne, List.pairwise_iff_getElem]
    intro i j hi hj hij
    rw [List.length_map] at hi hj
    rw [List.getElem_map, List.getElem_map]
    intro he
    refine (hk j hj).2 ?_
    rw [List.mem_map]
    exact ⟨l[i], by rw [List.mem_take_iff_getElem]; exact ⟨i, by omega, rfl⟩, he⟩
/-- The reference's look at the k-th index. -/
def fitR (ws : List Int) (L : List Nat) (s : Nat) (k : Nat) : Bool := bitW ws (L[k]?.getD 0) != decide (k < s)
theorem fitR_iff (ws : List Int) (L1 L2 : List Nat) : (List.range (L1 ++ L2).length).all (fitR ws (L1 ++ L2) L1.length) = true ↔ fitP ws L1 L2 := by
  rw [List.all_eq_true]
  constructor
  · intro h
    refine ⟨fun j hj => ?_, fun j hj => ?_⟩
    · obtain ⟨k, hk, rfl⟩ := List.getElem_of_mem hj
      have := h k (by simp; omega)
      unfold fitR at this
      rw [List.getElem?_append_left hk, List.getElem?_eq_getElem hk, decide_eq_true hk] at this
      simpa using this
    · obtain ⟨k, hk, rfl⟩ := List.getElem_of_mem hj
      have := h (L1.length + k) (by simp; omega)
      unfold fitR at this
      rw [List.getElem?_append_right (by omega), show L1.length + k - L1.length = k by omega, List.getElem?_eq_getElem hk, decide_eq_false (by omega)] at this
      simpa using this
  · rintro ⟨h1, h2⟩ k hk
    have hk : k < L1.length + L2.length := by simpa using hk
    unfold fitR
    by_cases hk1 : k < L1.length
    · rw [List.getElem?_append_left hk1, List.getElem?_eq_getElem hk1, decide_eq_true hk1]
      have := h1 _ (List.getElem_mem hk1)
      simp [this]
    · rw [List.getElem?_append_right (by omega), List.getElem?_eq_getElem (show k - L1.length < L2.length by omega), decide_eq_false hk1]
      have := h2 _ (List.getElem_mem (show k - L1.length < L2.length by omega))
      simp [this]
end Go.Proofs.YtbhkdngbgokilaaDoor

namespace Go.Proofs.YtbhkdngbgokilaaDoor
open Go.RowKit
set_option linter.unusedVariables false

theorem info_int20 : (Tryd.prog.info? 3).map (fun i => (i.zero, i.size, i.bytes)) = some (some (.int .i64 0), 1, 8) := by kernel_rfl
def fitAll (ws : List Int) (l : List Int) (s : Nat) : Bool := (List.range l.length).all (fitR ws (l.map Int.toNat) s)
/-- What the reference's Change leaves. -/
def RefChPost (w : World) (ws : List Int) (m n : Nat) (l : List Int) (s : Nat) (e : Ending) (w' : World) : Prop :=
  Below w.heap.size w w' ∧
  ((okL n [] l = false ∧ e = .returned (.tuple #[.slice none 0 0, .int .i64 1])) ∨
   (okL n [] l = true ∧ fitAll ws l s = false ∧ e = .returned (.tuple #[.slice none 0 0, .int .i64 8])) ∨
   (okL n [] l = true ∧ fitAll ws l s = true ∧ ∃ A c, e = .returned (.tuple #[.slice A m c, .int .i64 0]) ∧ Sl 34 1 w' A m c (uints (flips ws (l.map Int.toNat))) ∧ ∀ b, OwnB A b → w.heap.size ≤ b))
theorem rd_cells {w : World} {A : Option Addr} {ws : List Int} (h : Rd .u64 w A ws) (h1 : 0 < ws.length) : ∃ b o, A = some ⟨b, o, none⟩ ∧ b < w.heap.size ∧ ∀ (j : Nat) (u : Value), (uints ws)[j]? = some u → w.cell? ((⟨b, o, none⟩ : Addr).add j) = some u := by
  rcases h with rfl | ⟨b, o, hA, hl, hc⟩
  · simp at h1
  · refine ⟨b, o, hA, hl, fun j u hu => ?_⟩
    have h1 : (⟨b, o, none⟩ : Addr).add j = ⟨b, o + j, none⟩ := by unfold Addr.add; split <;> simp_all
    have hj : j < ws.length := by have := (List.getElem?_eq_some_iff.1 hu).1; rwa [length_uints] at this
    rw [h1, hc j hj, ← hu]
    simp [uints, hj]
theorem flipsT_step (ws : List Int) (L : List Int) (k : Nat) (hk : k < L.length) : flips ws ((L.take (k + 1)).map Int.toNat) = flipW (flips ws ((L.take k).map Int.toNat)) (L[k]).toNat := by
  rw [List.take_succ_eq_append_getElem hk, List.map_append, List.map_singleton, flips_snoc]
set_option maxRecDepth 100000 in
set_option maxHeartbeats 4000000 in
theorem refChange20 (w : World) (A0 : Option Addr) (m c0 : Nat) (ws : List Int) (hm : ws.length = m) (hR0 : Rd .u64 w A0 ws) (hf : FitsB ws) (n : Nat) (hn : n ≤ 64 * m) (hn2 : n ≤ 512) (hm1 : 1 ≤ m) (hm8 : m ≤ 8)
    (A1 : Option Addr) (n1 c1 : Nat) (l1 : List Int) (hl1 : l1.length = n1) (hn1 : n1 ≤ 100) (hR1 : Rd .i64 w A1 l1) (A2 : Option Addr) (n2 c2 : Nat) (l2 : List Int) (hl2 : l2.length = n2) (hb2 : n2 ≤ 100) (hR2 : Rd .i64 w A2 l2) :
    Calls Tryd.prog 16 #[.slice A0 m c0, .int .i64 n, .slice A1 n1 c1, .slice A2 n2 c2] w (RefChPost w ws m n (l1 ++ l2) n1) := by
  have HM := Lib.hid hm
  have HR0 := Lib.hid hR0
  have HF := Lib.hid hf
  have HL1 := Lib.hid hl1
  have HL2 := Lib.hid hl2
  have HR1 := Lib.hid hR1
  have HR2 := Lib.hid hR2
  have hLL : (l1 ++ l2).length = n1 + n2 := by rw [List.length_append, hl1, hl2]
  obtain ⟨L, hL⟩ : ∃ L, l1 ++ l2 = L := ⟨_, rfl⟩
  rw [hL] at hLL ⊢
  have HLE := Lib.hid hL
  have HLL := Lib.hid hLL
  clear hm hR0 hf hl1 hl2 hR1 hR2 hL hLL
  go_enter Tryd.func16, Tryd.ntmps16
  go_upto_region 4 with (at_builtin; first
    | (refine wpList_append_ints rfl (.tmp 15) (.tmp 16) 25 rfl 3 .i64 8 Tryd.underlying25 info_int20 (by omega) w.heap.size none 0 [] 0 A1 n1 c1 l1 rfl rfl rfl OwnI.nil HL1.out HR1.out (by simp; rw [HL1.out]; omega) (Nat.le_refl _) ?_; intro B1 d1 w1 HO1 HC1 HW1; have HB1 := Lib.hid (HC1.out.to_below (Nat.le_refl _) (fun b hb => by simp [OwnB] at hb)))
    | (refine wpList_append_ints rfl (.tmp 18) (.tmp 19) 25 rfl 3 .i64 8 Tryd.underlying25 info_int20 (by omega) w.heap.size B1 d1 ([] ++ l1) _ A2 n2 c2 l2 rfl rfl (by simp [HL1.out]) HO1.out HL2.out (HR2.out.below HB1.out) (by simp; rw [HL1.out, HL2.out]; omega) HB1.out.size ?_; intro B2 d2 w2 HO2 HC2 HW2; have HB2 := Lib.hid (bl_ch HB1.out HC2.out (fun b hb => (HO1.out.lt hb).1))))
  have hRL : Rd .i64 w2 B2 L := by have := HO2.out.rd; rw [← HLE.out]; simpa using this
  have HRL := Lib.hid hRL
  obtain ⟨N, hN⟩ : ∃ N, n1 + n2 = N := ⟨_, rfl⟩
  have hNb : N ≤ 200 := by omega
  have hNn : n1 ≤ N := by omega
  rw [hN] at HLL ⊢
  clear hRL hN HO1 HC1 HW1 HB1 HO2 HC2 HW2 HL1 HL2 HR1 HR2 hb2
  go_wp2
  go_loopw [11, 8, 9, 12, 21, 22, 23, 24, 25, 26, 27, 28, 29, 30, 31, 32, 33, 34, 35, 36, 37, 38, 39, 40, 41, 42, 43, 44, 45, 46, 47, 48, 49, 50, 51, 52, 53] (fun i _ _ _ _ _ _ _ _ _ _ _ _ _ _ _ _ _ _ _ _ _ _ _ _ _ _ _ _ _ _ _ _ _ _ _ _ wr => ∃ k : Nat, k ≤ N ∧ i = .int .i64 k ∧ (List.range k).all (okP n [] L) = true ∧ Below w2.heap.size w2 wr) (fun i _ _ _ _ _ _ _ _ _ _ _ _ _ _ _ _ _ _ _ _ _ _ _ _ _ _ _ _ _ _ _ _ _ _ _ _ _ => N - (intOf i).toNat)
  case atStart => exact ⟨0, by omega, rfl, rfl, Below.refl _ _⟩
  case round =>
    obtain ⟨k, hk, rfl, hall, hB⟩ := hrel
    have HAL := Lib.hid hall
    have HB := Lib.hid hB
    clear hall hB
    by_cases hlt : k < N
    · have hkl : k < L.length := by rw [HLL.out]; exact hlt
      have hlt' : (k : Int) < (N : Int) := by omega
      obtain ⟨b, o, hA, hb, hc⟩ := (HRL.out.below HB.out).at_ hkl
      subst hA
      obtain ⟨i, hi⟩ : ∃ i, L[k] = i := ⟨_, rfl⟩
      rw [hi] at hc
      have HI := Lib.hid hi
      clear hi
      by_cases h0 : i < 0
      · have HF1 : Hid (okL n [] L = false) := range_all_false hkl (okP_neg n [] L k hkl (by rw [HI.out]; omega))
        go_wp2
        go_ret2
        exact ⟨HB2.out.trans (HB.out.mono HB2.out.size), .inl ⟨HF1.out, rfl⟩⟩
      · by_cases h1 : i ≥ (n : Int)
        · have HF1 : Hid (okL n [] L = false) := range_all_false hkl (okP_neg n [] L k hkl (by rw [HI.out]; omega))
          go_wp2
          go_ret2
          exact ⟨HB2.out.trans (HB.out.mono HB2.out.size), .inl ⟨HF1.out, rfl⟩⟩
        · obtain ⟨wk, rfl⟩ : ∃ wk, wk = wr := ⟨_, rfl⟩
          go_wp2
          go_loopw [12, 8, 9, 40, 41, 42, 43, 44, 45, 46, 47, 48, 49, 50, 51, 52, 53] (fun j _ _ _ _ _ _ _ _ _ _ _ _ _ _ _ _ wr => ∃ q : Nat, q ≤ k ∧ j = .int .i64 q ∧ (∀ p, (hp : p < q) → p < k → L[p]?.getD 0 ≠ i) ∧ Below wk.heap.size wk wr) (fun j _ _ _ _ _ _ _ _ _ _ _ _ _ _ _ _ _ => k - (intOf j).toNat)
          case atStart => exact ⟨0, by omega, rfl, fun p hp => by omega, Below.refl _ _⟩
          case round =>
            obtain ⟨q, hq, rfl, hne, hBq⟩ := hrel
            have HNE := Lib.hid hne
            have HBQ := Lib.hid hBq
            have hbq : Below w2.heap.size w2 wr := HB.out.trans (hBq.mono HB.out.size)
            clear hne hBq
            by_cases hqk : q < k
            · have hql : q < L.length := by omega
              have hqk' : (q : Int) < (k : Int) := by omega
              obtain ⟨b', o', hA', hb', hc'⟩ := (HRL.out.below hbq).at_ hql
              injection hA' with hA'
              injection hA' with e1 e2
              subst e1 e2
              obtain ⟨b', o', hA', _, hc2⟩ := (HRL.out.below hbq).at_ hkl
              injection hA' with hA'
              injection hA' with e1 e2
              subst e1 e2
              rw [HI.out] at hc2
              obtain ⟨x, hx⟩ : ∃ x, L[q] = x := ⟨_, rfl⟩
              rw [hx] at hc'
              have HX := Lib.hid hx
              have HBW := Lib.hid hbq
              clear hx hbq hc hb
              by_cases he : x = i
              · have HF1 : Hid (okL n [] L = false) := range_all_false hkl (okP_dup n [] L k q hkl hqk (by rw [HI.out, HX.out]; exact he))
                have he' : (x == i) = true := by simpa using he
                clear he
                go_upto_region 12 with (fail)
                refine wp_region_quiet_lit (by kernel_rfl) (by kernel_rfl) ?_
                repeat (go_big_quiet_step (fail))
                refine wpQuiet_nil ?_
                rintro _ ⟨nq, rfl⟩
                go_wp2
                go_ret2
                exact ⟨HB2.out.trans ((below_drewN HBW.out nq).mono HB2.out.size), .inl ⟨HF1.out, rfl⟩⟩
              · have he' : (x == i) = false := by simpa using he
                have HE := Lib.hid he
                clear he
                go_upto_region 12 with (fail)
                refine wp_region_quiet_lit (by kernel_rfl) (by kernel_rfl) ?_
                repeat (go_big_quiet_step (fail))
                refine wpQuiet_nil ?_
                rintro _ ⟨nq, rfl⟩
                go_wp2
                refine ⟨⟨q + 1, by omega, by go_num, fun p hp hpk => ?_, below_drewN HBQ.out nq⟩, by simp [intOf]; omega⟩
                by_cases hpq : p = q
                · subst hpq
                  rw [List.getElem?_eq_getElem hql, HX.out]
                  exact HE.out
                · exact HNE.out p (by omega) hpk
            · obtain rfl : q = k := by omega
              have HBW := Lib.hid hbq
              clear hbq
              have HOK : Hid ((List.range (q + 1)).all (okP n [] L) = true) := by
                show _ = _
                rw [range_all_step, HAL.out, Bool.true_and]
                refine okP_nil n L q hkl (by rw [HI.out]; omega) (by rw [HI.out]; omega) fun j hj => ?_
                have h3 := HNE.out j hj hj
                rw [List.getElem?_eq_getElem (by omega)] at h3
                refine ⟨?_, by rw [HI.out]; exact h3⟩
                have h4 := (List.all_eq_true.1 HAL.out) j (by simpa using hj)
                refine Decidable.byContradiction fun hneg => ?_
                rw [okP_neg n [] L j (by omega) (fun h5 => hneg h5.1)] at h4
                cases h4
              go_wp2
              exact ⟨⟨q + 1, by omega, by go_num, HOK.out, HBW.out⟩, by simp [intOf]; omega⟩
    · obtain rfl : N = k := by omega
      have hlt' : ¬ (N : Int) < (N : Int) := by omega
      have HOKL : Hid (okL n [] L = true) := by show _ = _; unfold okL; rw [HLL.out]; exact HAL.out
      obtain ⟨b0, o0, hA0, hb0, hcs⟩ := rd_cells (HR0.out.below (HB2.out.trans (HB.out.mono HB2.out.size))) (by rw [HM.out]; omega)
      subst hA0
      have HCS := Lib.hid hcs
      clear hcs
      go_upto_region 16 with (at_builtin; refine wpList_append_sl rfl (.tmp 54) (.tmp 55) 22 rfl 34 (.int .u64 0) 1 8 rfl (by omega) Tryd.underlying22 info_u64 (by omega) none 0 0 [] ⟨b0, o0, none⟩ m c0 (uints ws) rfl rfl Sl.nil (by rw [length_uints, HM.out]; omega) (by omega) HCS.out (uints_one _) (by omega) ?_; intro A3 c3 w3 HO3 HC3 HW3 HG3)
      obtain rfl := HG3.out (by omega)
      have hbW : Below w.heap.size w wr := HB2.out.trans (HB.out.mono HB2.out.size)
      have HS0 : Hid (Sl 34 1 w3 (some ⟨wr.heap.size, 0, none⟩) m c3 (uints ws)) := by have := HO3.out; show Sl _ _ _ _ _ _ _; simpa using this
      have HB3 : Hid (Below wr.heap.size wr w3) := HC3.out.to_below (Nat.le_refl _) (fun b hb => by simp [OwnB] at hb)
      have HW : Hid (Below w.heap.size w wr) := hbW
      have HR2 : Hid (Rd .i64 wr B2 L) := HRL.out.below HB.out
      have HR0' : Hid (Rd .u64 wr (some ⟨b0, o0, none⟩) ws) := HR0.out.below hbW
      obtain ⟨go, hgo⟩ : ∃ go, wr.heap.size = go := ⟨_, rfl⟩
      rw [hgo] at HS0
      rw [hgo]
      have HGO := Lib.hid hgo
      obtain ⟨hel, hnd⟩ := okL_spec HOKL.out
      have HEL := Lib.hid hel
      clear hbW hgo HO3 HC3 HW3 HG3 HCS hlt hlt' hk hel hnd
      obtain ⟨wk, rfl⟩ : ∃ wk, wk = wr := ⟨_, rfl⟩
      go_wp2
      go_loopw [14, 8, 9, 57, 58, 59, 60, 61, 62, 63, 64, 65, 66, 67, 68, 69, 70, 71, 72, 73, 74, 75, 76, 77, 78, 79, 80, 81, 82, 83, 84, 85, 86, 87, 88, 89, 90, 91, 92, 93, 94, 95, 96] (fun i _ _ _ _ _ _ _ _ _ _ _ _ _ _ _ _ _ _ _ _ _ _ _ _ _ _ _ _ _ _ _ _ _ _ _ _ _ _ _ _ _ _ wr => ∃ k : Nat, k ≤ N ∧ i = .int .i64 k ∧ (List.range k).all (fitR ws (L.map Int.toNat) n1) = true ∧ Sl 34 1 wr (some ⟨go, 0, none⟩) m c3 (uints (flips ws ((L.take k).map Int.toNat))) ∧ Below wk.heap.size wk wr) (fun i _ _ _ _ _ _ _ _ _ _ _ _ _ _ _ _ _ _ _ _ _ _ _ _ _ _ _ _ _ _ _ _ _ _ _ _ _ _ _ _ _ _ _ => N - (intOf i).toNat)
      case atStart => exact ⟨0, by omega, rfl, rfl, HS0.out, HB3.out⟩
      case round =>
        obtain ⟨k, hk, rfl, hall, hS, hBk⟩ := hrel
        have HAL2 := Lib.hid hall
        have HS := Lib.hid hS
        have HBK := Lib.hid hBk
        clear hall
        by_cases hlt : k < N
        · have hkl : k < L.length := by rw [HLL.out]; exact hlt
          have hlt' : (k : Int) < (N : Int) := by omega
          obtain ⟨b, o, hA, hb, hc⟩ := (HR2.out.below hBk).at_ hkl
          obtain ⟨x1, x2⟩ := HEL.out _ (List.getElem_mem hkl)
          obtain ⟨j, hj⟩ := Int.eq_ofNat_of_zero_le x1
          rw [hj] at hc x2
          have HJ := Lib.hid hj
          have hjn : j < n := by omega
          have hjm : j / 64 < m := by omega
          have hjl : j / 64 < (uints (flips ws ((L.take k).map Int.toNat))).length := by rw [length_uints, flips_length, HM.out]; exact hjm
          obtain ⟨g2, o2, hA2, hg2, c3'⟩ := hS.at_ (j := j / 64) hjl
          injection hA2 with hA2
          injection hA2 with e1 e2
          subst e1 e2
          rw [Nat.zero_add] at c3'
          have hfz := hS.unfrozen (j / 64)
          have hbgo : b < go := by
            obtain ⟨b', o', hA', hb', _⟩ := HR2.out.at_ hkl
            rw [hA] at hA'
            injection hA' with hA'
            injection hA' with e1 e2
            rw [e1, ← HGO.out]; exact hb'
          subst hA
          have HGT := Lib.hid (refGet20 wr (some ⟨b0, o0, none⟩) m c0 ws HM.out (HR0'.out.below hBk) HF.out n hn hn2 (j : Int))
          rw [getB_in hjn] at HGT
          obtain ⟨v, hv, hvr⟩ : ∃ v : Int, (uints (flips ws ((L.take k).map Int.toNat)))[j / 64] = .int .u64 v ∧ v = (flips ws ((L.take k).map Int.toNat))[j / 64]?.getD 0 := by
            have : j / 64 < (flips ws ((L.take k).map Int.toNat)).length := by rw [flips_length, HM.out]; exact hjm
            refine ⟨_, ?_, rfl⟩
            rw [List.getElem?_eq_getElem this]
            simp [uints]
          rw [hv] at c3'
          have hvb : 0 ≤ v ∧ v < 18446744073709551616 := by rw [hvr]; exact (flips_fits _ _ HF.out).getD _
          have HXR : Hid (bits .xor .u64 v ((2 : Int) ^ (j % 64)) = flipV v (j % 64)) := by
            have := flipV_go hvb (b := j % 64) (by omega)
            rwa [show ((2 ^ (j % 64) : Nat) : Int) = (2 : Int) ^ (j % 64) from Int.natCast_pow 2 _] at this
          have hw3 : IntKind.u64.wrap (2 ^ (j % 64)) = 2 ^ (j % 64) := by
            have h64 : 2 ^ (j % 64) < 2 ^ 64 := Nat.pow_lt_pow_right (by omega) (by omega)
            rw [← show ((2 ^ (j % 64) : Nat) : Int) = (2 : Int) ^ (j % 64) from Int.natCast_pow 2 _]
            generalize 2 ^ (j % 64) = p at *
            exact IntWalk.u64_in _ (by omega)
          have HST : Hid (flips ws ((L.take (k + 1)).map Int.toNat) = (flips ws ((L.take k).map Int.toNat)).set (j / 64) (flipV v (j % 64))) := by
            show _ = _
            rw [flipsT_step ws L k hkl, HJ.out, Int.toNat_natCast, hvr]
            rfl
          have HFR : Hid (fitR ws (L.map Int.toNat) n1 k = (bitW ws j != decide (k < n1))) := by
            show _ = _
            unfold fitR
            rw [List.getElem?_map, List.getElem?_eq_getElem hkl, HJ.out]
            rfl
          have HJL := Lib.hid hjl
          clear hv hvr hS hj hjl x1
          obtain ⟨B, hB⟩ : ∃ B, bitW ws j = B := ⟨_, rfl⟩
          rw [hB] at HGT HFR
          clear hB hBk
          have hdec : decide ((k : Int) < (n1 : Int)) = decide (k < n1) := by rw [decide_eq_decide]; omega
          obtain ⟨D, hD⟩ : ∃ D, decide (k < n1) = D := ⟨_, rfl⟩
          rw [hD] at HFR hdec
          clear hD
          rcases (show (B = true ∧ D = true ∨ B = false ∧ D = false) ∨ (B = true ∧ D = false ∨ B = false ∧ D = true) by cases B <;> cases D <;> simp) with (⟨rfl, rfl⟩ | ⟨rfl, rfl⟩) | (⟨rfl, rfl⟩ | ⟨rfl, rfl⟩)
          · have hd : (k : Int) < (n1 : Int) := by simpa using hdec
            try have hd2 : decide (k < n1) = false := by rw [decide_eq_false_iff_not]; omega
            clear hdec
            have HF2 : Hid (fitAll ws L n1 = false) := by
              show fitAll ws L n1 = false
              unfold fitAll
              refine range_all_false (p := fitR ws (L.map Int.toNat) n1) hkl ?_
              rw [HFR.out]; simp
            go_wp2_with (go_at_call 20; refine HGT.out.mono ?_; rintro e w' ⟨rfl, rfl⟩)
            go_ret2
            exact ⟨HW.out.trans (HBK.out.mono HW.out.size), .inr (.inl ⟨HOKL.out, HF2.out, rfl⟩)⟩
          · have hd : ¬ (k : Int) < (n1 : Int) := by simpa using hdec
            try have hd2 : decide (k < n1) = false := by rw [decide_eq_false_iff_not]; omega
            clear hdec
            have HF2 : Hid (fitAll ws L n1 = false) := by
              show fitAll ws L n1 = false
              unfold fitAll
              refine range_all_false (p := fitR ws (L.map Int.toNat) n1) hkl ?_
              rw [HFR.out]; simp
            go_wp2_with (go_at_call 20; refine HGT.out.mono ?_; rintro e w' ⟨rfl, rfl⟩)
            go_ret2
            exact ⟨HW.out.trans (HBK.out.mono HW.out.size), .inr (.inl ⟨HOKL.out, HF2.out, rfl⟩)⟩
          · have hd : ¬ (k : Int) < (n1 : Int) := by simpa using hdec
            try have hd2 : decide (k < n1) = false := by rw [decide_eq_false_iff_not]; omega
            clear hdec
            have HOKK : Hid ((List.range (k + 1)).all (fitR ws (L.map Int.toNat) n1) = true) := by
              show _ = _
              rw [range_all_step, HAL2.out, Bool.true_and, HFR.out]
              rfl
            go_upto_region 21 with (go_at_call 20; refine HGT.out.mono ?_; rintro e w' ⟨rfl, rfl⟩)
            refine wp_region_still_n 22 (by kernel_rfl) (by kernel_rfl) ?_
            simp only [List.take_succ_cons, List.take_zero, List.drop_succ_cons, List.drop_zero]
            repeat (go_big_quiet_step (fail))
            refine wpQuiet_nil ?_
            rintro _ ⟨nq2, rfl⟩
            go_wp2
            refine ⟨⟨k + 1, by omega, by go_num, HOKK.out, ?_, ?_⟩, by simp [intOf]; omega⟩
            · rw [HST.out, uints_set]
              have := (HS.out.set HJL.out (.int .u64 (flipV v (j % 64))))
              rw [Nat.zero_add] at this
              rw [HXR.out]
              exact this
            · refine Below.setCell ?_ ?_ _
              · exact below_drewN HBK.out nq2
              · show wk.heap.size ≤ go
                rw [HGO.out]; exact Nat.le_refl _
          · have hd : (k : Int) < (n1 : Int) := by simpa using hdec
            try have hd2 : decide (k < n1) = false := by rw [decide_eq_false_iff_not]; omega
            clear hdec
            have HOKK : Hid ((List.range (k + 1)).all (fitR ws (L.map Int.toNat) n1) = true) := by
              show _ = _
              rw [range_all_step, HAL2.out, Bool.true_and, HFR.out]
              rfl
            go_upto_region 21 with (go_at_call 20; refine HGT.out.mono ?_; rintro e w' ⟨rfl, rfl⟩)
            refine wp_region_still_n 22 (by kernel_rfl) (by kernel_rfl) ?_
            simp only [List.take_succ_cons, List.take_zero, List.drop_succ_cons, List.drop_zero]
            repeat (go_big_quiet_step (fail))
            refine wpQuiet_nil ?_
            rintro _ ⟨nq2, rfl⟩
            go_wp2
            refine ⟨⟨k + 1, by omega, by go_num, HOKK.out, ?_, ?_⟩, by simp [intOf]; omega⟩
            · rw [HST.out, uints_set]
              have := (HS.out.set HJL.out (.int .u64 (flipV v (j % 64))))
              rw [Nat.zero_add] at this
              rw [HXR.out]
              exact this
            · refine Below.setCell ?_ ?_ _
              · exact below_drewN HBK.out nq2
              · show wk.heap.size ≤ go
                rw [HGO.out]; exact Nat.le_refl _
        · obtain rfl : N = k := by omega
          have HFA : Hid (fitAll ws L n1 = true) := by
            show fitAll ws L n1 = true
            unfold fitAll
            rw [HLL.out]; exact HAL2.out
          have HSE : Hid (Sl 34 1 wr (some ⟨go, 0, none⟩) m c3 (uints (flips ws (L.map Int.toNat)))) := by
            have := HS.out
            rwa [List.take_of_length_le (by rw [HLL.out]; omega)] at this
          clear hS hBk
          go_wp2
          go_ret2
          refine ⟨HW.out.trans (HBK.out.mono HW.out.size), .inr (.inr ⟨HOKL.out, HFA.out, _, _, rfl, HSE.out, fun b hb => ?_⟩)⟩
          have : b = go := by simp [OwnB] at hb; omega
          rw [this, ← HGO.out]
          exact HW.out.size
end Go.Proofs.YtbhkdngbgokilaaDoor

namespace Go.Proofs.YtbhkdngbgokilaaDoor
open Go.RowKit
set_option linter.unusedVariables false

/-- The writes that turn the words ws into out. -/
def difOne (ws out : List Int) (a k : Nat) : List (Int × Int) := if out[k]?.getD 0 = ws[k]?.getD 0 then [] else [(8 * ((a + k : Nat) : Int), out[k]?.getD 0)]
def difL (ws out : List Int) (a k : Nat) : List (Int × Int) := (List.range k).flatMap (difOne ws out a)
theorem difL_step (ws out : List Int) (a k : Nat) : difL ws out a (k + 1) = difL ws out a k ++ difOne ws out a k := by simp [difL, List.range_succ]
theorem difOne_le (ws out : List Int) (a k : Nat) : (difOne ws out a k).length ≤ 1 := by unfold difOne; split <;> simp
theorem difL_le (ws out : List Int) (a : Nat) : ∀ k, (difL ws out a k).length ≤ k := by
  intro k
  induction k with
  | zero => exact Nat.le_refl _
  | succ k ih => rw [difL_step, List.length_append]; have := difOne_le ws out a k; omega
theorem difL_pre (ws out : List Int) (a k : Nat) : ∀ M, k ≤ M → ∃ t, difL ws out a M = difL ws out a k ++ t := by
  intro M
  induction M with
  | zero =>
    intro h
    obtain rfl : k = 0 := by omega
    exact ⟨[], by rw [List.append_nil]⟩
  | succ M ih =>
    intro h
    by_cases hk : k = M + 1
    · subst hk; exact ⟨[], by simp⟩
    · obtain ⟨t, ht⟩ := ih (by omega)
      exact ⟨t ++ difOne ws out a M, by rw [difL_step, ht, List.append_assoc]⟩
/-- The write of a word that changes. -/
theorem difL_at (ws out : List Int) (a k M : Nat) (hk : k < M) (hne : out[k]?.getD 0 ≠ ws[k]?.getD 0) : (difL ws out a M)[(difL ws out a k).length]? = some (8 * ((a + k : Nat) : Int), out[k]?.getD 0) := by
  obtain ⟨t, ht⟩ := difL_pre ws out a (k + 1) M (by omega)
  have h1 : difOne ws out a k = [(8 * ((a + k : Nat) : Int), out[k]?.getD 0)] := by unfold difOne; rw [if_neg hne]
  rw [ht, difL_step, h1, List.append_assoc, List.getElem?_append_right (Nat.le_refl _), Nat.sub_self]
  rfl
theorem chL_congr2 (ws ws' : List Int) (a : Nat) (f g : Nat → Int) (M : Nat) (h : ∀ k, k < M → ws[k]? = ws'[k]?) : chL ws a f g M = chL ws' a f g M := by
  unfold chL
  rw [List.flatMap_def, List.flatMap_def]
  congr 1
  apply List.map_congr_left
  intro k hk
  have hk : k < M := by simpa using hk
  unfold chOne
  rw [h k hk]
theorem chF_congr2 (ws ws' : List Int) (f g : Nat → Int) (M : Nat) (h : ∀ k, k < M → ws[k]? = ws'[k]?) : chF ws f g M = chF ws' f g M := by
  unfold chF
  apply all_congr_mem
  intro k hk
  have hk : k < M := by simpa using hk
  rw [h k hk]
theorem chL_dif {ws : List Int} {f g : Nat → Int} {L1 L2 : List Nat} (a : Nat) (hw : FitsB ws) (hf : Msk f L1) (hg : Msk g L2) (hfit : fitP ws L1 L2) (hb : ∀ j ∈ L1 ++ L2, j / 64 < ws.length) (hN : (L1 ++ L2).Nodup) (M : Nat) (hM : M ≤ ws.length) (hM8 : M ≤ 8) :
    chL ws a f g M = difL ws (flips ws (L1 ++ L2)) a M := by
  unfold chL difL
  rw [List.flatMap_def, List.flatMap_def]
  congr 1
  apply List.map_congr_left
  intro k hk
  have hk : k < M := by simpa using hk
  obtain ⟨h1, h2⟩ := new_word hw hf hg hfit hb hN (k := k) (by omega) (by omega)
  cases ht : touB f g k with
  | false =>
    rw [chOne_no ht]
    unfold difOne
    rw [if_pos (h2 ht)]
  | true =>
    rw [chOne_yes ht]
    obtain ⟨e1, e2⟩ := h1 ht
    unfold difOne
    rw [if_neg e2, e1]
theorem fitAll_iff (ws l1 l2 : List Int) : fitAll ws (l1 ++ l2) l1.length = true ↔ fitP ws (l1.map Int.toNat) (l2.map Int.toNat) := by
  have := fitR_iff ws (l1.map Int.toNat) (l2.map Int.toNat)
  rw [← this]
  unfold fitAll
  rw [List.map_append, List.length_append, List.length_append, List.length_map, List.length_map]
section
variable (w : World) (T : Nat) (xs : List Int) (a n m : Nat) (hL : LdV T xs w) (hE : ∀ W, Below w.heap.size w W → Calls Tryd.prog 17 #[.pointer (some ⟨T, 0, none⟩)] W fun e w' => e = .returned (.int .i64 0) ∧ W = w') (hf : FitsB xs) (hx : xs.length = 96) (hmm : (n + 63) / 64 = m) (ha : a + m ≤ 96) (hn0 : 1 ≤ n) (hn : n ≤ 512)
    (A1 : Option Addr) (n1 c1 : Nat) (l1 : List Int) (hl1 : l1.length = n1) (hn1 : n1 ≤ 9223372036854775807) (hR1 : Rd .i64 w A1 l1) (A2 : Option Addr) (n2 c2 : Nat) (l2 : List Int) (hl2 : l2.length = n2) (hn2 : n2 ≤ 9223372036854775807) (hR2 : Rd .i64 w A2 l2)
include hL hE hf hx hmm ha hn0 hn hl1 hn1 hR1 hl2 hn2 hR2
theorem bmChange_misfit (hok : okL n [] (l1 ++ l2) = true) (hfit : fitAll ((xs.drop a).take m) (l1 ++ l2) n1 = false) :
    Calls Tryd.prog 15 #[bmv T (8 * (a : Int)) n, .slice A1 n1 c1, .slice A2 n2 c2] w fun e w' => e = .returned (.tuple #[.slice none 0 0, .int .i64 8]) ∧ Below w.heap.size w w' := by
  obtain ⟨hs1, hs2⟩ := okL_spec hok
  rw [okL_app, Bool.and_eq_true] at hok
  refine (bmChange_ok w T xs a n hL hE hf (by rw [hmm, hx]; exact ha) (by omega) hn A1 n1 c1 l1 hl1 hn1 hR1 A2 n2 c2 l2 hl2 hn2 hR2 hok.1 hok.2).mono ?_
  rintro e w' ⟨f, g, hMf, hMg, hB, hP⟩
  rw [hmm] at hP
  have hcg : ∀ k, k < m → (xs.drop a)[k]? = ((xs.drop a).take m)[k]? := fun k hk => by rw [List.getElem?_take, if_pos hk]
  rw [chF_congr2 _ _ f g m hcg] at hP
  have hno : chF ((xs.drop a).take m) f g m = false := by
    rw [Bool.eq_false_iff]
    intro hc
    have h1 := (chF_iff (fun v hv => hf v (List.mem_of_mem_drop (List.mem_of_mem_take hv))) hMf hMg (by omega) (fun j hj => by
      obtain ⟨x, hx', rfl⟩ := List.mem_map.1 hj
      have := hs1 x (List.mem_append_left _ hx'); omega) (fun j hj => by
      obtain ⟨x, hx', rfl⟩ := List.mem_map.1 hj
      have := hs1 x (List.mem_append_right _ hx'); omega)).1 hc
    have h2 := (fitAll_iff _ _ _).2 h1
    rw [hl1, hfit] at h2
    cases h2
  rcases hP with ⟨_, he⟩ | ⟨h, _⟩
  · exact ⟨he, hB⟩
  · rw [hno] at h; cases h
theorem bmChange_fit (hok : okL n [] (l1 ++ l2) = true) (hfit : fitAll ((xs.drop a).take m) (l1 ++ l2) n1 = true) :
    Calls Tryd.prog 15 #[bmv T (8 * (a : Int)) n, .slice A1 n1 c1, .slice A2 n2 c2] w fun e w' => ∃ A c, e = .returned (.tuple #[.slice A (difL ((xs.drop a).take m) (flips ((xs.drop a).take m) ((l1 ++ l2).map Int.toNat)) a m).length c, .int .i64 0]) ∧
      Sl 47 2 w' A (difL ((xs.drop a).take m) (flips ((xs.drop a).take m) ((l1 ++ l2).map Int.toNat)) a m).length c (wcells (difL ((xs.drop a).take m) (flips ((xs.drop a).take m) ((l1 ++ l2).map Int.toNat)) a m)) ∧ (∀ b, OwnB A b → w.heap.size ≤ b) ∧ Below w.heap.size w w' := by
  obtain ⟨hs1, hs2⟩ := okL_spec hok
  rw [okL_app, Bool.and_eq_true] at hok
  refine (bmChange_ok w T xs a n hL hE hf (by rw [hmm, hx]; exact ha) (by omega) hn A1 n1 c1 l1 hl1 hn1 hR1 A2 n2 c2 l2 hl2 hn2 hR2 hok.1 hok.2).mono ?_
  rintro e w' ⟨f, g, hMf, hMg, hB, hP⟩
  rw [hmm] at hP
  have hcg : ∀ k, k < m → (xs.drop a)[k]? = ((xs.drop a).take m)[k]? := fun k hk => by rw [List.getElem?_take, if_pos hk]
  rw [chF_congr2 _ _ f g m hcg, chL_congr2 _ _ a f g m hcg] at hP
  have hfw : FitsB ((xs.drop a).take m) := fun v hv => hf v (List.mem_of_mem_drop (List.mem_of_mem_take hv))
  have hlw : ((xs.drop a).take m).length = m := by rw [List.length_take, List.length_drop, hx]; omega
  have hfp : fitP ((xs.drop a).take m) (l1.map Int.toNat) (l2.map Int.toNat) := by
    refine (fitAll_iff _ _ _).1 ?_
    rw [hl1]; exact hfit
  have hmem : ∀ j ∈ l1.map Int.toNat ++ l2.map Int.toNat, j < n := by
    intro j hj
    rw [← List.map_append] at hj
    obtain ⟨x, hx', rfl⟩ := List.mem_map.1 hj
    have := hs1 x hx'
    omega
  rw [chL_dif a hfw hMf hMg hfp (fun j hj => by have := hmem j hj; rw [hlw]; omega) (by rwa [← List.map_append]) m (by rw [hlw]; exact Nat.le_refl _) (by omega), ← List.map_append] at hP
  rcases hP with ⟨h, _⟩ | ⟨_, A, c, he, hS, hO⟩
  · have := (chF_iff (M := m) hfw hMf hMg (by omega) (fun j hj => by have := hmem j (List.mem_append_left _ hj); omega) (fun j hj => by have := hmem j (List.mem_append_right _ hj); omega)).2 hfp
    rw [this] at h; cases h
  · exact ⟨A, c, he, hS, hO, hB⟩
end
/-- What Change leaves when it is possible. -/
def ChGood (W : World) (lst : List (Int × Int)) (e : Ending) (w' : World) : Prop :=
  ∃ A c, e = .returned (.tuple #[.slice A lst.length c, .int .i64 0]) ∧ Sl 47 2 w' A lst.length c (wcells lst) ∧ (∀ b, OwnB A b → W.heap.size ≤ b) ∧ Below W.heap.size W w'
def RefGood (W : World) (out : List Int) (m : Nat) (e : Ending) (w' : World) : Prop :=
  ∃ A c, e = .returned (.tuple #[.slice A m c, .int .i64 0]) ∧ Sl 34 1 w' A m c (uints out) ∧ (∀ b, OwnB A b → W.heap.size ≤ b) ∧ Below W.heap.size W w'
def ChBad (W : World) (fc : Int) (e : Ending) (w' : World) : Prop := e = .returned (.tuple #[.slice none 0 0, .int .i64 fc]) ∧ Below W.heap.size W w'
theorem change_both (w : World) (T : Nat) (xs : List Int) (a n m : Nat) (hL : LdV T xs w) (hE : ∀ W, Below w.heap.size w W → Calls Tryd.prog 17 #[.pointer (some ⟨T, 0, none⟩)] W fun e w' => e = .returned (.int .i64 0) ∧ W = w') (hf : FitsB xs) (hx : xs.length = 96) (hmm : (n + 63) / 64 = m) (ha : a + m ≤ 96) (hn0 : 1 ≤ n) (hn : n ≤ 512)
    (A1 : Option Addr) (n1 c1 : Nat) (l1 : List Int) (hl1 : l1.length = n1) (hn1 : n1 ≤ 100) (hR1 : Rd .i64 w A1 l1) (A2 : Option Addr) (n2 c2 : Nat) (l2 : List Int) (hl2 : l2.length = n2) (hn2 : n2 ≤ 100) (hR2 : Rd .i64 w A2 l2)
    (V : List Int) (hV : (xs.drop a).take m = V) (out : List Int) (hout : flips V ((l1 ++ l2).map Int.toNat) = out) :
    (∃ fc : Int, fc ≠ 0 ∧ ¬ (okL n [] (l1 ++ l2) = true ∧ fitAll V (l1 ++ l2) n1 = true) ∧ (∀ W, Below w.heap.size w W → Calls Tryd.prog 15 #[bmv T (8 * (a : Int)) n, .slice A1 n1 c1, .slice A2 n2 c2] W (ChBad W fc)) ∧
      ∀ W A0 c0, Below w.heap.size w W → Rd .u64 W A0 V → Calls Tryd.prog 16 #[.slice A0 m c0, .int .i64 n, .slice A1 n1 c1, .slice A2 n2 c2] W (ChBad W fc)) ∨
    (okL n [] (l1 ++ l2) = true ∧ fitAll V (l1 ++ l2) n1 = true ∧ (∀ W, Below w.heap.size w W → Calls Tryd.prog 15 #[bmv T (8 * (a : Int)) n, .slice A1 n1 c1, .slice A2 n2 c2] W (ChGood W (difL V out a m))) ∧
      ∀ W A0 c0, Below w.heap.size w W → Rd .u64 W A0 V → Calls Tryd.prog 16 #[.slice A0 m c0, .int .i64 n, .slice A1 n1 c1, .slice A2 n2 c2] W (RefGood W out m)) := by
  have hfw : FitsB V := by rw [← hV]; exact fun v hv => hf v (List.mem_of_mem_drop (List.mem_of_mem_take hv))
  have hlw : V.length = m := by rw [← hV, List.length_take, List.length_drop, hx]; omega
  have href : ∀ W A0 c0, Below w.heap.size w W → Rd .u64 W A0 V → Calls Tryd.prog 16 #[.slice A0 m c0, .int .i64 n, .slice A1 n1 c1, .slice A2 n2 c2] W (RefChPost W V m n (l1 ++ l2) n1) :=
    fun W A0 c0 hW hR => refChange20 W A0 m c0 V hlw hR hfw n (by omega) hn (by omega) (by omega) A1 n1 c1 l1 hl1 hn1 (hR1.below hW) A2 n2 c2 l2 hl2 hn2 (hR2.below hW)
  by_cases hok : okL n [] (l1 ++ l2) = true
  · by_cases hfit : fitAll V (l1 ++ l2) n1 = true
    · refine .inr ⟨hok, hfit, fun W hW => ?_, fun W A0 c0 hW hR => (href W A0 c0 hW hR).mono ?_⟩
      · have := bmChange_fit W T xs a n m (hL.below hW) (fun W' hW' => hE W' (hW.trans (hW'.mono hW.size))) hf hx hmm ha hn0 hn A1 n1 c1 l1 hl1 (by omega) (hR1.below hW) A2 n2 c2 l2 hl2 (by omega) (hR2.below hW) hok (by rw [hV]; exact hfit)
        rw [hV, hout] at this
        exact this
      · rintro e w' ⟨hB, ⟨h, _⟩ | ⟨_, h, _⟩ | ⟨_, _, A, c, he, hS, hO⟩⟩
        · rw [hok] at h; cases h
        · rw [hfit] at h; cases h
        · rw [hout] at hS; exact ⟨A, c, he, hS, hO, hB⟩
    · have hfit' : fitAll V (l1 ++ l2) n1 = false := by simpa using hfit
      refine .inl ⟨8, by decide, fun h => hfit h.2, fun W hW => ?_, fun W A0 c0 hW hR => (href W A0 c0 hW hR).mono ?_⟩
      · exact bmChange_misfit W T xs a n m (hL.below hW) (fun W' hW' => hE W' (hW.trans (hW'.mono hW.size))) hf hx hmm ha hn0 hn A1 n1 c1 l1 hl1 (by omega) (hR1.below hW) A2 n2 c2 l2 hl2 (by omega) (hR2.below hW) hok (by rw [hV]; exact hfit')
      · rintro e w' ⟨hB, ⟨h, _⟩ | ⟨_, h, he⟩ | ⟨_, h, _⟩⟩
        · rw [hok] at h; cases h
        · exact ⟨he, hB⟩
        · exact absurd h hfit
  · have hok' : okL n [] (l1 ++ l2) = false := by simpa using hok
    refine .inl ⟨1, by decide, fun h => hok h.1, fun W hW => ?_, fun W A0 c0 hW hR => (href W A0 c0 hW hR).mono ?_⟩
    · exact bmChange_bad W T (8 * (a : Int)) n hn A1 n1 c1 l1 hl1 (by omega) (hR1.below hW) A2 n2 c2 l2 hl2 (by omega) (hR2.below hW) (by rw [← okL_app]; exact hok')
    · rintro e w' ⟨hB, ⟨_, he⟩ | ⟨h, _⟩ | ⟨h, _⟩⟩
      · exact ⟨he, hB⟩
      · exact absurd h hok
      · exact absurd h hok
end Go.Proofs.YtbhkdngbgokilaaDoor

namespace Go.Proofs.YtbhkdngbgokilaaDoor
open Go.RowKit
set_option linter.unusedVariables false

theorem bitW_take (ws : List Int) (m i : Nat) (h : i < 64 * m) : bitW (ws.take m) i = bitW ws i := by
  apply bitW_congr
  rw [List.getElem?_take, if_pos (by omega)]
theorem getB_take (ws : List Int) (m n : Nat) (hn : n ≤ 64 * m) (i : Int) : getB (ws.take m) n i = getB ws n i := by
  unfold getB
  by_cases h1 : 0 ≤ i ∧ i < (n : Int)
  · rw [bitW_take ws m i.toNat (by omega)]
  · by_cases h0 : 0 ≤ i
    · rw [decide_eq_false (p := i < (n : Int)) (fun h => h1 ⟨h0, h⟩)]; simp
    · rw [decide_eq_false h0]; simp
theorem onesTo_take (ws : List Int) (m : Nat) : ∀ k, k ≤ 64 * m → onesTo (ws.take m) k = onesTo ws k := by
  intro k
  induction k with
  | zero => intro _; rfl
  | succ k ih =>
    intro h
    show onesTo (ws.take m) k + _ = onesTo ws k + _
    rw [ih (by omega), bitW_take ws m k (by omega)]
theorem nextP_congr (p q : Nat → Bool) : ∀ k i, (∀ j, i ≤ j → j < i + k → p j = q j) → nextP p k i = nextP q k i := by
  intro k
  induction k with
  | zero => intro i _; rfl
  | succ k ih =>
    intro i h
    unfold nextP
    rw [h i (by omega) (by omega), ih (i + 1) (fun j h1 h2 => h j (by omega) (by omega))]
theorem nextB_take (ws : List Int) (m n : Nat) (hn : n ≤ 64 * m) (i : Int) (set : Bool) : nextB (ws.take m) n i set = nextB ws n i set := by
  unfold nextB
  rw [nextP_congr _ (fun j => bitW ws j == set)]
  intro j h1 h2
  rw [bitW_take ws m j (by omega)]
theorem nextB_nat (ws : List Int) (n : Nat) (i : Int) (set : Bool) : nextB ws n (i.toNat : Int) set = nextB ws n i set := by
  unfold nextB
  rw [Int.toNat_natCast]
set_option maxRecDepth 100000 in
set_option maxHeartbeats 1000000 in
theorem bmNext_past (w : World) (T : Nat) (off : Int) (n : Nat) (i : Int) (hi : i ≥ (n : Int)) (set : Bool) :
    Calls Tryd.prog 23 #[bmv T off n, .int .i64 i, .bool set] w fun e w' => e = .returned (.int .i64 (-1)) ∧ Below w.heap.size w w' := by
  have h0 : ¬ i < 0 := by omega
  unfold bmv
  go_enter Tryd.func23, Tryd.ntmps23
  go_wp2
  go_ret
  exact ⟨rfl, (by repeat (first | with_reducible exact Below.refl _ _ | with_reducible refine bl_alloc ?_ _ | with_reducible refine bl_drew ?_ | with_reducible refine bl_drewN ?_ _ | with_reducible refine bl_bx ?_ _ | with_reducible exact BX.below _ | with_reducible refine bl_set ?_ (by first | (exact Nat.le_refl _) | (simp; done) | (simp; omega)) _ | assumption))⟩
theorem bmNext (w : World) (T : Nat) (xs : List Int) (a n : Nat) (hT : Tab w) (hL : LdV T xs w) (hf : FitsB xs) (ha : a + (n + 63) / 64 ≤ xs.length) (hx : xs.length ≤ 10000) (hn1 : 1 ≤ n) (hn : n ≤ 512) (i : Int) (set : Bool) :
    Calls Tryd.prog 23 #[bmv T (8 * (a : Int)) n, .int .i64 i, .bool set] w fun e w' => e = .returned (.int .i64 (nextB (xs.drop a) n i set)) ∧ Below w.heap.size w w' := by
  by_cases hi : i ≥ (n : Int)
  · rw [nextB_none (fun m h1 h2 => by omega)]
    exact bmNext_past w T _ n i hi set
  · have := bmNext_from w T xs a n hT hL hf ha hx hn i.toNat (by omega) i (by omega) set
    rwa [nextB_nat] at this
end Go.Proofs.YtbhkdngbgokilaaDoor

namespace Go.Proofs.YtbhkdngbgokilaaDoor
open Go.RowKit
set_option linter.unusedVariables false

theorem difL_words (xs V out : List Int) (a m : Nat) (hV : (xs.drop a).take m = V) (ho : out.length = m) (ha : a + m ≤ xs.length) : ∀ k, k ≤ m → ∀ i, (applyW xs (difL V out a k))[i]? = if a ≤ i ∧ i < a + k then out[i - a]? else xs[i]? := by
  intro k
  induction k with
  | zero => intro _ i; rw [if_neg (by omega)]; rfl
  | succ k ih =>
    intro hk i
    have ih := ih (by omega)
    have hxk : V[k]?.getD 0 = xs[a + k]?.getD 0 := by rw [← hV, List.getElem?_take, if_pos (by omega), List.getElem?_drop]
    have hok : out[k]? = some (out[k]?.getD 0) := by rw [List.getElem?_eq_getElem (by omega)]; rfl
    have hxa : xs[a + k]? = some (xs[a + k]?.getD 0) := by rw [List.getElem?_eq_getElem (by omega)]; rfl
    rw [difL_step]
    unfold difOne
    by_cases he : out[k]?.getD 0 = V[k]?.getD 0
    · rw [if_pos he, List.append_nil, ih i]
      by_cases h1 : a ≤ i ∧ i < a + k
      · rw [if_pos h1, if_pos (by omega)]
      · rw [if_neg h1]
        by_cases h2 : i = a + k
        · subst h2
          rw [if_pos (by omega), show a + k - a = k by omega, hok, he, hxk]
          exact hxa
        · rw [if_neg (by omega)]
    · rw [if_neg he, applyW_snoc, List.getElem?_set]
      have hq : ((8 * ((a + k : Nat) : Int)) / 8).toNat = a + k := by omega
      simp only [hq]
      by_cases h2 : a + k = i
      · subst h2
        rw [if_pos rfl, if_pos (by rw [length_applyW]; omega), if_pos (by omega), show a + k - a = k by omega, hok]
        rfl
      · rw [if_neg h2, ih i]
        by_cases h1 : a ≤ i ∧ i < a + k
        · rw [if_pos h1, if_pos (by omega)]
        · rw [if_neg h1, if_neg (by omega)]
theorem difL_out (xs V out : List Int) (a m : Nat) (hV : (xs.drop a).take m = V) (ho : out.length = m) (ha : a + m ≤ xs.length) : ((applyW xs (difL V out a m)).drop a).take m = out := by
  apply List.ext_getElem?
  intro i
  rw [List.getElem?_take]
  by_cases hi : i < m
  · rw [if_pos hi, List.getElem?_drop, difL_words xs V out a m hV ho ha m (Nat.le_refl _), if_pos (by omega), show a + i - a = i by omega]
  · rw [if_neg hi, List.getElem?_eq_none (by omega)]
theorem applyW_fitsB (ws : List (Int × Int)) (hw : ∀ p ∈ ws, 0 ≤ p.2 ∧ p.2 < 18446744073709551616) : ∀ xs, FitsB xs → FitsB (applyW xs ws) := by
  induction ws with
  | nil => intro xs h; exact h
  | cons p ws ih =>
    intro xs h
    refine ih (fun q hq => hw q (List.mem_cons_of_mem _ hq)) _ fun x hx => ?_
    rcases List.mem_or_eq_of_mem_set hx with h1 | h1
    · exact h x h1
    · rw [h1]; exact hw p List.mem_cons_self
/-- What the writes of a change are. -/
theorem difL_mem {V out : List Int} {a m : Nat} (ho : FitsB out) : ∀ p ∈ difL V out a m, (∃ j, j < m ∧ p.1 = 8 * ((a + j : Nat) : Int)) ∧ 0 ≤ p.2 ∧ p.2 < 18446744073709551616 := by
  intro p hp
  unfold difL at hp
  rw [List.mem_flatMap] at hp
  obtain ⟨j, hj, hp⟩ := hp
  have hj : j < m := by simpa using hj
  unfold difOne at hp
  split at hp
  · cases hp
  · have : p = (8 * ((a + j : Nat) : Int), out[j]?.getD 0) := by simpa using hp
    subst this
    exact ⟨⟨j, hj, rfl⟩, ho.getD j⟩
theorem words_ext {ws vs : List Int} (hl : ws.length = vs.length) (hw : FitsB ws) (hv : FitsB vs) (h : ∀ i, bitW ws i = bitW vs i) : ws = vs := by
  apply List.ext_getElem hl
  intro k h1 h2
  have e1 : ws[k]?.getD 0 = ws[k] := by rw [List.getElem?_eq_getElem h1]; rfl
  have e2 : vs[k]?.getD 0 = vs[k] := by rw [List.getElem?_eq_getElem h2]; rfl
  rw [← e1, ← e2]
  refine word_ext (hw.getD k) (hv.getD k) fun m hm => ?_
  rw [word_bit _ _ _ hm, word_bit _ _ _ hm, h]
theorem okL_of {n : Nat} {l : List Int} (h : ∀ x ∈ l, 0 ≤ x ∧ x < (n : Int)) (hN : (l.map Int.toNat).Nodup) : okL n [] l = true := by
  unfold okL
  rw [List.all_eq_true]
  intro k hk
  have hk : k < l.length := by simpa using hk
  refine okP_nil n l k hk (h _ (List.getElem_mem hk)).1 (h _ (List.getElem_mem hk)).2 fun j hj => ⟨(h _ (List.getElem_mem _)).1, fun he => ?_⟩
  rw [List.nodup_iff_pairwise_ne, List.pairwise_iff_getElem] at hN
  have := hN j k (by rw [List.length_map]; omega) (by rw [List.length_map]; exact hk) hj
  rw [List.getElem_map, List.getElem_map] at this
  exact this (by rw [he])
theorem okL_swap {n : Nat} {l1 l2 : List Int} (h : okL n [] (l1 ++ l2) = true) : okL n [] (l2 ++ l1) = true := by
  obtain ⟨h1, h2⟩ := okL_spec h
  refine okL_of (fun x hx => h1 x ?_) ?_
  · rw [List.mem_append] at hx ⊢; exact hx.symm
  · rw [List.map_append] at h2 ⊢
    exact (List.perm_append_comm.nodup_iff).1 h2
section
variable {V : List Int} {n m : Nat} {l1 l2 : List Int}
theorem back_fit (hlw : V.length = m) (hn : n ≤ 64 * m) (hok : okL n [] (l1 ++ l2) = true) (hfit : fitAll V (l1 ++ l2) l1.length = true) : fitAll (flips V ((l1 ++ l2).map Int.toNat)) (l2 ++ l1) l2.length = true := by
  obtain ⟨h1, h2⟩ := okL_spec hok
  have hb : ∀ j ∈ (l1 ++ l2).map Int.toNat, j / 64 < V.length := by
    intro j hj
    obtain ⟨x, hx, rfl⟩ := List.mem_map.1 hj
    have := h1 x hx
    rw [hlw]; omega
  obtain ⟨f1, f2⟩ := (fitAll_iff V l1 l2).1 hfit
  refine (fitAll_iff _ _ _).2 ⟨fun j hj => ?_, fun j hj => ?_⟩
  · rw [flips_bit _ _ hb h2, f2 j hj, decide_eq_true (by rw [List.map_append]; exact List.mem_append_right _ hj)]; rfl
  · rw [flips_bit _ _ hb h2, f1 j hj, decide_eq_true (by rw [List.map_append]; exact List.mem_append_left _ hj)]; rfl
theorem back_flips (hw : FitsB V) (hlw : V.length = m) (hn : n ≤ 64 * m) (hok : okL n [] (l1 ++ l2) = true) : flips (flips V ((l1 ++ l2).map Int.toNat)) ((l2 ++ l1).map Int.toNat) = V := by
  obtain ⟨h1, h2⟩ := okL_spec hok
  obtain ⟨h3, h4⟩ := okL_spec (okL_swap hok)
  have hb : ∀ j ∈ (l1 ++ l2).map Int.toNat, j / 64 < V.length := by
    intro j hj
    obtain ⟨x, hx, rfl⟩ := List.mem_map.1 hj
    have := h1 x hx
    rw [hlw]; omega
  have hb2 : ∀ j ∈ (l2 ++ l1).map Int.toNat, j / 64 < (flips V ((l1 ++ l2).map Int.toNat)).length := by
    intro j hj
    obtain ⟨x, hx, rfl⟩ := List.mem_map.1 hj
    have := h3 x hx
    rw [flips_length, hlw]; omega
  refine words_ext (by rw [flips_length, flips_length]) (flips_fits _ _ (flips_fits _ _ hw)) hw fun i => ?_
  rw [flips_bit _ _ hb2 h4, flips_bit _ _ hb h2]
  have : (i ∈ (l2 ++ l1).map Int.toNat) = (i ∈ (l1 ++ l2).map Int.toNat) := by
    rw [List.map_append, List.map_append, List.mem_append, List.mem_append, or_comm]
  rw [decide_eq_decide.2 (iff_of_eq this)]
  cases bitW V i <;> cases decide (i ∈ (l1 ++ l2).map Int.toNat) <;> rfl
theorem back_get (hlw : V.length = m) (hn : n ≤ 64 * m) (hok : okL n [] (l1 ++ l2) = true) (hfit : fitAll V (l1 ++ l2) l1.length = true) :
    (∀ x ∈ l1, getB (flips V ((l1 ++ l2).map Int.toNat)) n x = true) ∧ (∀ x ∈ l2, getB (flips V ((l1 ++ l2).map Int.toNat)) n x = false) := by
  obtain ⟨h1, h2⟩ := okL_spec hok
  obtain ⟨f1, f2⟩ := (fitAll_iff _ _ _).1 (back_fit hlw hn hok hfit)
  refine ⟨fun x hx => ?_, fun x hx => ?_⟩
  · have h := h1 x (List.mem_append_left _ hx)
    unfold getB
    rw [decide_eq_true h.1, decide_eq_true h.2, f2 _ (List.mem_map.2 ⟨x, hx, rfl⟩)]; rfl
  · have h := h1 x (List.mem_append_right _ hx)
    unfold getB
    rw [f1 _ (List.mem_map.2 ⟨x, hx, rfl⟩)]; simp
theorem onesTo_flip (ws : List Int) (j : Nat) (hj : j / 64 < ws.length) : ∀ n, onesTo (flipW ws j) n + (if j < n then (if bitW ws j then 1 else 0) else 0) = onesTo ws n + (if j < n then (if bitW ws j then 0 else 1) else 0) := by
  intro n
  induction n with
  | zero => simp [onesTo]
  | succ n ih =>
    have e1 : onesTo (flipW ws j) (n + 1) = onesTo (flipW ws j) n + (if bitW (flipW ws j) n then 1 else 0) := rfl
    have e2 : onesTo ws (n + 1) = onesTo ws n + (if bitW ws n then 1 else 0) := rfl
    rw [e1, e2, flipW_bit ws j n hj]
    by_cases h : j = n
    · subst h
      simp only [Nat.lt_irrefl, if_false] at ih
      cases bitW ws j <;> simp <;> omega
    · by_cases h1 : j < n
      · rw [if_pos h1] at ih
        rw [if_pos h1] at ih
        rw [if_pos (show j < n + 1 by omega), if_pos (show j < n + 1 by omega), decide_eq_false h]
        simp only [Bool.bne_false]
        omega
      · rw [if_neg h1, if_neg h1] at ih
        rw [if_neg (show ¬ j < n + 1 by omega), if_neg (show ¬ j < n + 1 by omega), decide_eq_false h]
        simp only [Bool.bne_false]
        omega
theorem onesTo_set (n : Nat) : ∀ (L : List Nat) (ws : List Int), (∀ j ∈ L, j / 64 < ws.length ∧ j < n ∧ bitW ws j = false) → L.Nodup → onesTo (flips ws L) n = onesTo ws n + L.length := by
  intro L
  induction L with
  | nil => intro ws _ _; rfl
  | cons j L ih =>
    intro ws h hn
    rw [List.nodup_cons] at hn
    obtain ⟨a, b, c⟩ := h j List.mem_cons_self
    have := ih (flipW ws j) (fun q hq => by
      obtain ⟨a', b', c'⟩ := h q (List.mem_cons_of_mem _ hq)
      refine ⟨by rw [flipW_length]; exact a', b', ?_⟩
      rw [flipW_bit ws j q a, c', decide_eq_false (fun e => hn.1 (by rw [e]; exact hq))]; rfl) hn.2
    show onesTo (flips (flipW ws j) L) n = _
    have h2 := onesTo_flip ws j a n
    rw [if_pos b, if_pos b, c] at h2
    simp only [Bool.false_eq_true, if_false] at h2
    rw [List.length_cons]
    omega
theorem onesTo_clear (n : Nat) : ∀ (L : List Nat) (ws : List Int), (∀ j ∈ L, j / 64 < ws.length ∧ j < n ∧ bitW ws j = true) → L.Nodup → onesTo (flips ws L) n + L.length = onesTo ws n := by
  intro L
  induction L with
  | nil => intro ws _ _; rfl
  | cons j L ih =>
    intro ws h hn
    rw [List.nodup_cons] at hn
    obtain ⟨a, b, c⟩ := h j List.mem_cons_self
    have := ih (flipW ws j) (fun q hq => by
      obtain ⟨a', b', c'⟩ := h q (List.mem_cons_of_mem _ hq)
      refine ⟨by rw [flipW_length]; exact a', b', ?_⟩
      rw [flipW_bit ws j q a, c', decide_eq_false (fun e => hn.1 (by rw [e]; exact hq))]; rfl) hn.2
    show onesTo (flips (flipW ws j) L) n + _ = _
    have h2 := onesTo_flip ws j a n
    rw [if_pos b, if_pos b, c] at h2
    simp only [if_true] at h2
    rw [List.length_cons]
    omega
theorem back_ones (hlw : V.length = m) (hn : n ≤ 64 * m) (hok : okL n [] (l1 ++ l2) = true) (hfit : fitAll V (l1 ++ l2) l1.length = true) : onesTo (flips V ((l1 ++ l2).map Int.toNat)) n + l2.length = onesTo V n + l1.length := by
  obtain ⟨h1, h2⟩ := okL_spec hok
  obtain ⟨f1, f2⟩ := (fitAll_iff V l1 l2).1 hfit
  have hr : ∀ j ∈ (l1 ++ l2).map Int.toNat, j / 64 < V.length ∧ j < n := by
    intro j hj
    obtain ⟨x, hx, rfl⟩ := List.mem_map.1 hj
    have := h1 x hx
    rw [hlw]; omega
  rw [List.map_append] at h2 hr ⊢
  rw [flips_append]
  obtain ⟨n1, n2, n3⟩ := List.nodup_append.1 h2
  have e1 := onesTo_set n (l1.map Int.toNat) V (fun j hj => ⟨(hr j (List.mem_append_left _ hj)).1, (hr j (List.mem_append_left _ hj)).2, f1 j hj⟩) n1
  have e2 := onesTo_clear n (l2.map Int.toNat) (flips V (l1.map Int.toNat)) (fun j hj => by
    refine ⟨by rw [flips_length]; exact (hr j (List.mem_append_right _ hj)).1, (hr j (List.mem_append_right _ hj)).2, ?_⟩
    rw [flips_bit _ _ (fun q hq => (hr q (List.mem_append_left _ hq)).1) n1, f2 j hj, decide_eq_false (fun hm => n3 j hm j hj rfl)]; rfl) n2
  rw [List.length_map] at e1 e2
  omega
end
end Go.Proofs.YtbhkdngbgokilaaDoor
