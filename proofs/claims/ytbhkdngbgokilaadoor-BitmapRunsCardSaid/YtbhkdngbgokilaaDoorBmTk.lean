/- Plain law: bits of the first words. -/
import Derived.Test.YtbhkdngbgokilaaDoorBmH
namespace Go.Proofs.YtbhkdngbgokilaaDoor
open Go.RowKit
set_option linter.unusedVariables false

theorem bitW_take (ws : List Int) (m i : Nat) (h : i < 64 * m) : bitW (ws.take m) i = bitW ws i := by
  apply bitW_congr
  rw [List.getElem?_take, if_pos (by omega)]
theorem getB_take (ws : List Int) (m n : Nat) (hn : n ≤ 64 * m) (i : Int) : getB (ws.take m) n i = getB ws n i := by
  unfold getB
  by_cases h1 : 0 ≤ i ∧ i < (n : Int)
  · rw [bitW_take ws m i.toNat (by omega)]
  · by_cases h0 : 0 ≤ i
    · rw [decide_eq_false (p := i < (n : Int)) (fun h => h1 ⟨h0, h⟩)]; simp
    · rw [decide_eq_false h0]; simp
theorem onesTo_take (ws : List Int) (m : Nat) : ∀ k, k ≤ 64 * m → onesTo (ws.take m) k = onesTo ws k := by
  intro k
  induction k with
  | zero => intro _; rfl
  | succ k ih =>
    intro h
    show onesTo (ws.take m) k + _ = onesTo ws k + _
    rw [ih (by omega), bitW_take ws m k (by omega)]
theorem nextP_congr (p q : Nat → Bool) : ∀ k i, (∀ j, i ≤ j → j < i + k → p j = q j) → nextP p k i = nextP q k i := by
  intro k
  induction k with
  | zero => intro i _; rfl
  | succ k ih =>
    intro i h
    unfold nextP
    rw [h i (by omega) (by omega), ih (i + 1) (fun j h1 h2 => h j (by omega) (by omega))]
theorem nextB_take (ws : List Int) (m n : Nat) (hn : n ≤ 64 * m) (i : Int) (set : Bool) : nextB (ws.take m) n i set = nextB ws n i set := by
  unfold nextB
  rw [nextP_congr _ (fun j => bitW ws j == set)]
  intro j h1 h2
  rw [bitW_take ws m j (by omega)]
theorem nextB_nat (ws : List Int) (n : Nat) (i : Int) (set : Bool) : nextB ws n (i.toNat : Int) set = nextB ws n i set := by
  unfold nextB
  rw [Int.toNat_natCast]
set_option maxRecDepth 100000 in
set_option maxHeartbeats 1000000 in
theorem bmNext_past (w : World) (T : Nat) (off : Int) (n : Nat) (i : Int) (hi : i ≥ (n : Int)) (set : Bool) :
    Calls Tryd.prog 23 #[bmv T off n, .int .i64 i, .bool set] w fun e w' => e = .returned (.int .i64 (-1)) ∧ Below w.heap.size w w' := by
  have h0 : ¬ i < 0 := by omega
  unfold bmv
  go_enter Tryd.func23, Tryd.ntmps23
  go_wp2
  go_ret
  exact ⟨rfl, (by repeat (first | with_reducible exact Below.refl _ _ | with_reducible refine bl_alloc ?_ _ | with_reducible refine bl_drew ?_ | with_reducible refine bl_drewN ?_ _ | with_reducible refine bl_bx ?_ _ | with_reducible exact BX.below _ | with_reducible refine bl_set ?_ (by first | (exact Nat.le_refl _) | (simp; done) | (simp; omega)) _ | assumption))⟩
theorem bmNext (w : World) (T : Nat) (xs : List Int) (a n : Nat) (hT : Tab w) (hL : LdV T xs w) (hf : FitsB xs) (ha : a + (n + 63) / 64 ≤ xs.length) (hx : xs.length ≤ 10000) (hn1 : 1 ≤ n) (hn : n ≤ 512) (i : Int) (set : Bool) :
    Calls Tryd.prog 23 #[bmv T (8 * (a : Int)) n, .int .i64 i, .bool set] w fun e w' => e = .returned (.int .i64 (nextB (xs.drop a) n i set)) ∧ Below w.heap.size w w' := by
  by_cases hi : i ≥ (n : Int)
  · rw [nextB_none (fun m h1 h2 => by omega)]
    exact bmNext_past w T _ n i hi set
  · have := bmNext_from w T xs a n hT hL hf ha hx hn i.toNat (by omega) i (by omega) set
    rwa [nextB_nat] at this
end Go.Proofs.YtbhkdngbgokilaaDoor
