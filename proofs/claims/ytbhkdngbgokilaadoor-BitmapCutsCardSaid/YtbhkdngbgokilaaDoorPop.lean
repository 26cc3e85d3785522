/- Plain law: the number of ones of a word, as OnesCount64 reckons it. No conditions but the word's range. -/
import Derived.Test.YtbhkdngbgokilaaDoorLib
namespace Go.Proofs.YtbhkdngbgokilaaDoor
open Go.RowKit
set_option linter.unusedVariables false

/-- The number of ones among the first l bits of x. -/
def popU : Nat → Nat → Nat
  | 0, _ => 0
  | l + 1, x => popU l x + x / 2 ^ l % 2
theorem popU_add (a b x : Nat) : popU (a + b) x = popU a x + popU b (x / 2 ^ a) := by
  induction b with
  | zero => simp [popU]
  | succ b ih =>
    show popU (a + b) x + x / 2 ^ (a + b) % 2 = popU a x + (popU b (x / 2 ^ a) + x / 2 ^ a / 2 ^ b % 2)
    rw [ih, Nat.pow_add, Nat.div_div_eq_div_mul]; omega
theorem mod_bit (x m l : Nat) (h : l < m) : x % 2 ^ m / 2 ^ l % 2 = x / 2 ^ l % 2 := by
  obtain ⟨d, rfl⟩ : ∃ d, m = l + (d + 1) := ⟨m - l - 1, by omega⟩
  rw [Nat.pow_add, Nat.mod_mul_right_div_self, Nat.pow_succ, Nat.mul_comm, Nat.mod_mul_right_mod]
theorem popU_mod (x m : Nat) : ∀ l, l ≤ m → popU l (x % 2 ^ m) = popU l x := by
  intro l
  induction l with
  | zero => intro _; rfl
  | succ l ih =>
    intro h
    show popU l (x % 2 ^ m) + x % 2 ^ m / 2 ^ l % 2 = popU l x + x / 2 ^ l % 2
    rw [ih (by omega), mod_bit x m l (by omega)]
theorem popU_small (x m : Nat) (hx : x < 2 ^ m) : ∀ l, popU (m + l) x = popU m x := by
  intro l
  rw [popU_add, Nat.div_eq_of_lt hx]
  have : ∀ l, popU l 0 = 0 := by
    intro l
    induction l with
    | zero => rfl
    | succ l ih => simp [popU, ih]
  rw [this]; rfl

/-- A number, by its bytes. -/
def byN : List Nat → Nat
  | [] => 0
  | c :: r => c + 256 * byN r
theorem land_byte (a b c d : Nat) (ha : a < 256) (hc : c < 256) : (a + 256 * b) &&& (c + 256 * d) = (a &&& c) + 256 * (b &&& d) := by
  have h1 := Nat.and_mod_two_pow (a := a + 256 * b) (b := c + 256 * d) (n := 8)
  have h2 := Nat.and_div_two_pow (a := a + 256 * b) (b := c + 256 * d) (n := 8)
  have e1 : (a + 256 * b) % 2 ^ 8 = a := by omega
  have e2 : (c + 256 * d) % 2 ^ 8 = c := by omega
  have e3 : (a + 256 * b) / 2 ^ 8 = b := by omega
  have e4 : (c + 256 * d) / 2 ^ 8 = d := by omega
  rw [e1, e2] at h1
  rw [e3, e4] at h2
  omega
def mk (b : Nat) : Nat → Nat
  | 0 => 0
  | k + 1 => b + 256 * mk b k
def g1 (c : Nat) : Nat := (c / 2 &&& 85) + (c &&& 85)
def g2 (c : Nat) : Nat := (c / 4 &&& 51) + (c &&& 51)
def g3 (c : Nat) : Nat := (c / 16 + c) % 16
theorem g1_key : ∀ c, c < 256 → ∀ r, r < 2 → ((c / 2 + 128 * r) &&& 85) = (c / 2 &&& 85) := by decide +kernel
theorem g2_key : ∀ c, c < 256 → ∀ r, r < 4 → ((c / 4 + 64 * r) &&& 51) = (c / 4 &&& 51) := by decide +kernel
theorem g123 : ∀ c, c < 256 → g1 c < 256 ∧ g2 (g1 c) ≤ 68 ∧ g2 (g1 c) % 16 ≤ 4 ∧ g3 (g2 (g1 c)) = popU 8 c := by decide +kernel
theorem g1_lt : ∀ c, c < 256 → g1 c < 256 := fun c h => (g123 c h).1
theorem swar1 : ∀ (cs : List Nat), (∀ c ∈ cs, c < 256) → (byN cs / 2 &&& mk 85 cs.length) + (byN cs &&& mk 85 cs.length) = byN (cs.map g1) := by
  intro cs
  induction cs with
  | nil => intro _; rfl
  | cons c cs ih =>
    intro h
    have hc := h c (by simp)
    have ih' := ih (fun x hx => h x (by simp [hx]))
    have e : (c + 256 * byN cs) / 2 = (c / 2 + 128 * (byN cs % 2)) + 256 * (byN cs / 2) := by omega
    simp only [byN, List.length_cons, mk, List.map_cons]
    rw [e, land_byte _ _ _ _ (by omega) (by omega), land_byte _ _ _ _ hc (by omega), g1_key c hc _ (by omega), ← ih']
    unfold g1; omega
theorem swar2 : ∀ (cs : List Nat), (∀ c ∈ cs, c < 256) → (byN cs / 4 &&& mk 51 cs.length) + (byN cs &&& mk 51 cs.length) = byN (cs.map g2) := by
  intro cs
  induction cs with
  | nil => intro _; rfl
  | cons c cs ih =>
    intro h
    have hc := h c (by simp)
    have ih' := ih (fun x hx => h x (by simp [hx]))
    have e : (c + 256 * byN cs) / 4 = (c / 4 + 64 * (byN cs % 4)) + 256 * (byN cs / 4) := by omega
    simp only [byN, List.length_cons, mk, List.map_cons]
    rw [e, land_byte _ _ _ _ (by omega) (by omega), land_byte _ _ _ _ hc (by omega), g2_key c hc _ (by omega), ← ih']
    unfold g2; omega
theorem and15 (x : Nat) : x &&& 15 = x % 16 := Nat.and_two_pow_sub_one_eq_mod x 4
theorem byN_mod16 (cs : List Nat) : byN cs % 16 = (match cs with | [] => 0 | c :: _ => c % 16) := by
  cases cs with
  | nil => rfl
  | cons c cs => simp only [byN]; omega
theorem swar3 : ∀ (cs : List Nat), (∀ c ∈ cs, c ≤ 68 ∧ c % 16 ≤ 4) → ((byN cs / 16 + byN cs) &&& mk 15 cs.length) = byN (cs.map g3) := by
  intro cs
  induction cs with
  | nil => intro _; rfl
  | cons c cs ih =>
    intro h
    have hc := h c (by simp)
    have ih' := ih (fun x hx => h x (by simp [hx]))
    have h16 : byN cs % 16 ≤ 4 := by
      rw [byN_mod16]
      cases cs with
      | nil => exact Nat.zero_le _
      | cons d ds => exact (h d (by simp)).2
    have e : (c + 256 * byN cs) / 16 + (c + 256 * byN cs) = (c / 16 + c + 16 * (byN cs % 16)) + 256 * (byN cs / 16 + byN cs) := by omega
    simp only [byN, List.length_cons, mk, List.map_cons]
    rw [e, land_byte _ _ _ _ (by omega) (by omega), ← ih', and15]
    unfold g3; omega
/-- The eight bytes of a word. -/
def by8 (x : Nat) : List Nat := [x % 256, x / 256 % 256, x / 65536 % 256, x / 16777216 % 256, x / 4294967296 % 256, x / 1099511627776 % 256, x / 281474976710656 % 256, x / 72057594037927936 % 256]
theorem byN_by8 (x : Nat) (h : x < 18446744073709551616) : byN (by8 x) = x := by simp only [by8, byN]; omega
theorem by8_lt (x : Nat) : ∀ c ∈ by8 x, c < 256 := by
  intro c hc
  simp only [by8, List.mem_cons, List.not_mem_nil, or_false] at hc
  omega
def ones3 (x : Nat) : Nat :=
  let a := (x / 2 &&& 6148914691236517205) + (x &&& 6148914691236517205)
  let b := (a / 4 &&& 3689348814741910323) + (a &&& 3689348814741910323)
  (b / 16 + b) &&& 1085102592571150095
theorem ones3_eq (x : Nat) (h : x < 18446744073709551616) : ones3 x = byN ((by8 x).map (popU 8)) := by
  have h1 := swar1 (by8 x) (by8_lt x)
  rw [byN_by8 x h] at h1
  have h2 := swar2 ((by8 x).map g1) (fun c hc => by
    obtain ⟨d, hd, rfl⟩ := List.mem_map.1 hc
    exact g1_lt d (by8_lt x d hd))
  have h3 := swar3 (((by8 x).map g1).map g2) (fun c hc => by
    obtain ⟨c1, hc1, rfl⟩ := List.mem_map.1 hc
    obtain ⟨d, hd, rfl⟩ := List.mem_map.1 hc1
    exact ⟨(g123 d (by8_lt x d hd)).2.1, (g123 d (by8_lt x d hd)).2.2.1⟩)
  rw [← h1] at h2
  rw [← h2] at h3
  have m1 : mk 85 (by8 x).length = 6148914691236517205 := by show mk 85 8 = _; decide
  have m2 : mk 51 ((by8 x).map g1).length = 3689348814741910323 := by show mk 51 8 = _; decide
  have m3 : mk 15 (((by8 x).map g1).map g2).length = 1085102592571150095 := by show mk 15 8 = _; decide
  rw [m1, m2, m3] at h3
  show ones3 x = _
  refine h3.trans ?_
  congr 1
  rw [List.map_map, List.map_map]
  refine List.map_congr_left fun c hc => ?_
  exact (g123 c (by8_lt x c hc)).2.2.2
theorem popU8_le (c : Nat) : popU 8 c ≤ 8 := by simp only [popU]; omega
theorem popU_by8 (x : Nat) : popU 64 x = popU 8 (x % 256) + popU 8 (x / 256 % 256) + popU 8 (x / 65536 % 256) + popU 8 (x / 16777216 % 256) + popU 8 (x / 4294967296 % 256) + popU 8 (x / 1099511627776 % 256) + popU 8 (x / 281474976710656 % 256) + popU 8 (x / 72057594037927936 % 256) := by
  have m := fun y => popU_mod y 8 8 (Nat.le_refl 8)
  simp only [show (2 : Nat) ^ 8 = 256 by decide] at m
  rw [m, m, m, m, m, m, m, m]
  rw [show 64 = 8 + 56 by decide, popU_add 8 56, show 56 = 8 + 48 by decide, popU_add 8 48, show 48 = 8 + 40 by decide, popU_add 8 40, show 40 = 8 + 32 by decide, popU_add 8 32, show 32 = 8 + 24 by decide, popU_add 8 24, show 24 = 8 + 16 by decide, popU_add 8 16, show 16 = 8 + 8 by decide, popU_add 8 8]
  simp only [Nat.div_div_eq_div_mul]
  simp only [show (2 : Nat) ^ 8 = 256 by decide, Nat.reduceMul]
  omega
/-- What OnesCount64 reckons. -/
theorem ones_eq (x : Nat) (h : x < 18446744073709551616) (y y1 y2 : Nat) (hy : y = ones3 x) (hy1 : y1 = y + y / 256) (hy2 : y2 = y1 + y1 / 65536) :
    y2 + y2 / 4294967296 < 9223372036854775808 ∧ y2 < 18446744073709551616 ∧ y1 < 18446744073709551616 ∧ y < 18446744073709551616 ∧ (y2 + y2 / 4294967296) % 128 = popU 64 x := by
  have h0 := popU_by8 x
  have h1 := ones3_eq x h
  simp only [by8, List.map_cons, List.map_nil, byN] at h1
  have b0 := popU8_le (x % 256)
  have b1 := popU8_le (x / 256 % 256)
  have b2 := popU8_le (x / 65536 % 256)
  have b3 := popU8_le (x / 16777216 % 256)
  have b4 := popU8_le (x / 4294967296 % 256)
  have b5 := popU8_le (x / 1099511627776 % 256)
  have b6 := popU8_le (x / 281474976710656 % 256)
  have b7 := popU8_le (x / 72057594037927936 % 256)
  rw [← hy] at h1
  rw [h0]
  clear hy h0 h
  generalize popU 8 (x % 256) = p0 at *
  generalize popU 8 (x / 256 % 256) = p1 at *
  generalize popU 8 (x / 65536 % 256) = p2 at *
  generalize popU 8 (x / 16777216 % 256) = p3 at *
  generalize popU 8 (x / 4294967296 % 256) = p4 at *
  generalize popU 8 (x / 1099511627776 % 256) = p5 at *
  generalize popU 8 (x / 281474976710656 % 256) = p6 at *
  generalize popU 8 (x / 72057594037927936 % 256) = p7 at *
  have e1 : y / 256 = p1 + 256 * (p2 + 256 * (p3 + 256 * (p4 + 256 * (p5 + 256 * (p6 + 256 * p7))))) := by omega
  have f1 : y1 = (p0 + p1) + 256 * ((p1 + p2) + 256 * ((p2 + p3) + 256 * ((p3 + p4) + 256 * ((p4 + p5) + 256 * ((p5 + p6) + 256 * ((p6 + p7) + 256 * p7)))))) := by rw [hy1, e1, h1]; omega
  have e2 : y1 / 65536 = (p2 + p3) + 256 * ((p3 + p4) + 256 * ((p4 + p5) + 256 * ((p5 + p6) + 256 * ((p6 + p7) + 256 * p7)))) := by rw [f1]; omega
  have f2 : y2 = (p0 + p1 + p2 + p3) + 256 * ((p1 + p2 + p3 + p4) + 256 * ((p2 + p3 + p4 + p5) + 256 * ((p3 + p4 + p5 + p6) + 256 * ((p4 + p5 + p6 + p7) + 256 * ((p5 + p6 + p7) + 256 * ((p6 + p7) + 256 * p7)))))) := by rw [hy2, e2, f1]; omega
  have e3 : y2 / 4294967296 = (p4 + p5 + p6 + p7) + 256 * ((p5 + p6 + p7) + 256 * ((p6 + p7) + 256 * p7)) := by rw [f2]; omega
  rw [e3]
  clear e3 e2 e1 hy1 hy2
  refine ⟨by rw [f2]; omega, by rw [f2]; omega, by rw [f1]; omega, by rw [h1]; omega, ?_⟩
  rw [f2]
  omega
end Go.Proofs.YtbhkdngbgokilaaDoor
