/- Plain law: bits of the first words. -/
import Derived.Test.YtbhkdngbgokilaaDoorBmH
namespace Go.Proofs.YtbhkdngbgokilaaDoor
open Go.RowKit
set_option linter.unusedVariables false

theorem bitW_take (ws : List Int) (m i : Nat) (h : i < 64 * m) : bitW (ws.take m) i = bitW ws i := by
  apply bitW_congr
  rw [List.getElem?_take, if_pos (by omega)]
theorem getB_take (ws : List Int) (m n : Nat) (hn : n ≤ 64 * m) (i : Int) : getB (ws.take m) n i = getB ws n i := by
  unfold getB
  by_cases h1 : 0 ≤ i ∧ i < (n : Int)
  · rw [bitW_take ws m i.toNat (by omega)]
  · by_cases h0 : 0 ≤ i
    · rw [decide_eq_false (p := i < (n : Int)) (fun h => h1 ⟨h0, h⟩)]; simp
    · rw [decide_eq_false h0]; simp
theorem onesTo_take (ws : List Int) (m : Nat) : ∀ k, k ≤ 64 * m → onesTo (ws.take m) k = onesTo ws k := by
  intro k
  induction k with
  | zero => intro _; rfl
  | succ k ih =>
    intro h
    show onesTo (ws.take m) k + _ = onesTo ws k + _
    rw [ih (by omega), bitW_take ws m k (by omega)]
theorem nextP_congr (p q : Nat → Bool) : ∀ k i, (∀ j, i ≤ j → j < i + k → p j = q j) → nextP p k i = nextP q k i := by
  intro k
  induction k with
  | zero => intro i _; rfl
  | succ k ih =>
    intro i h
    unfold nextP
    rw [h i (by omega) (by omega), ih (i + 1) (fun j h1 h2 => h j (by omega) (by omega))]
theorem nextB_take (ws : List Int) (m n : Nat) (hn : n ≤ 64 * m) (i : Int) (set : Bool) : nextB (ws.take m) n i set = nextB ws n i set := by
  unfold nextB
  rw [nextP_congr _ (fun j => bitW ws j == set)]
  intro j h1 h2
  rw [bitW_take ws m j (by omega)]
theorem nextB_nat (ws : List Int) (n : Nat) (i : Int) (set : Bool) : nextB ws n (i.toNat : Int) set = nextB ws n i set := by
  unfold nextB
  rw [Int.toNat_natCast]
end Go.Proofs.YtbhkdngbgokilaaDoor
