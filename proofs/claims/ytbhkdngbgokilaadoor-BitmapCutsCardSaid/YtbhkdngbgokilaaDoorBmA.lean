/- Contracts of the bits of a word and of a bitmap's parts. -/
import Derived.Test.YtbhkdngbgokilaaDoorDevL
import Derived.Test.YtbhkdngbgokilaaDoorBit
import Derived.Test.YtbhkdngbgokilaaDoorMin
import Derived.Deep.Cut
import Derived.Laws.Bits128
import Derived.Shelf.Lays7
import Derived.Shelf.Spec.TrailingZeros
namespace Go.Proofs.YtbhkdngbgokilaaDoor
open Go.RowKit
set_option linter.unusedVariables false

theorem and_le2 (x m : Nat) : x &&& m ≤ m := Nat.and_le_right
theorem swar_step (x q m : Nat) (hx : x < 18446744073709551616) (hm : 2 * m < 18446744073709551616) : IntKind.u64.wrap (bits .and .u64 ((x / q : Nat) : Int) (m : Int) + bits .and .u64 (x : Int) (m : Int)) = (((x / q &&& m) + (x &&& m) : Nat) : Int) := by
  have h1 := Nat.div_le_self x q
  have h2 := and_le2 (x / q) m
  have h3 := and_le2 x m
  rw [bits_and_u64_nat _ _ (by omega) (by omega), bits_and_u64_nat _ _ hx (by omega), IntWalk.u64_in _ (by omega)]
  omega
set_option maxRecDepth 100000 in
set_option maxHeartbeats 1000000 in
theorem ones64 (w : World) (x : Nat) (hx : x < 18446744073709551616) : Calls Tryd.prog 41 #[.int .u64 (x : Int)] w fun e w' => e = .returned (.int .i64 (popU 64 x : Nat)) ∧ w = w' := by
  obtain ⟨a, ha⟩ : ∃ a, (x / 2 &&& 6148914691236517205) + (x &&& 6148914691236517205) = a := ⟨_, rfl⟩
  obtain ⟨b, hb⟩ : ∃ b, (a / 4 &&& 3689348814741910323) + (a &&& 3689348814741910323) = b := ⟨_, rfl⟩
  obtain ⟨c, hc⟩ : ∃ c, (b / 16 + b) &&& 1085102592571150095 = c := ⟨_, rfl⟩
  obtain ⟨y1, hy1⟩ : ∃ y1, c + c / 256 = y1 := ⟨_, rfl⟩
  obtain ⟨y2, hy2⟩ : ∃ y2, y1 + y1 / 65536 = y2 := ⟨_, rfl⟩
  obtain ⟨z3, z2, z1, z0, hz⟩ := ones_eq x hx c y1 y2 (by unfold ones3; rw [← hc, ← hb, ← ha]) hy1.symm hy2.symm
  have ha1 : a < 18446744073709551616 := by
    have h2 := and_le2 (x / 2) 6148914691236517205
    have h3 := and_le2 x 6148914691236517205
    omega
  have hb1 : b ≤ 7378697629483820646 := by
    have h2 := and_le2 (a / 4) 3689348814741910323
    have h3 := and_le2 a 3689348814741910323
    omega
  have r1 : IntKind.u64.wrap (bits .and .u64 ((x : Int) / 2) 6148914691236517205 + bits .and .u64 (x : Int) 6148914691236517205) = (a : Int) := by
    rw [← ha]; exact swar_step x 2 6148914691236517205 hx (by omega)
  have r2 : IntKind.u64.wrap (bits .and .u64 ((a : Int) / 4) 3689348814741910323 + bits .and .u64 (a : Int) 3689348814741910323) = (b : Int) := by
    rw [← hb]; exact swar_step a 4 3689348814741910323 ha1 (by omega)
  have r3 : IntKind.u64.wrap ((b : Int) / 16 + (b : Int)) = ((b / 16 + b : Nat) : Int) := by rw [IntWalk.u64_in _ (by omega)]; omega
  have r4 : bits .and .u64 ((b / 16 + b : Nat) : Int) 1085102592571150095 = (c : Int) := by
    rw [← hc]; exact bits_and_u64_nat (b / 16 + b) 1085102592571150095 (by omega) (by omega)
  have r4' : bits .and .u64 ((b : Int) / 16 + (b : Int)) 1085102592571150095 = (c : Int) := by
    rw [← r4]; congr 1
  have r5 : IntKind.u64.wrap ((c : Int) + (c : Int) / 256) = (y1 : Int) := by rw [IntWalk.u64_in _ (by omega)]; omega
  have r6 : IntKind.u64.wrap ((y1 : Int) + (y1 : Int) / 65536) = (y2 : Int) := by rw [IntWalk.u64_in _ (by omega)]; omega
  have r7 : IntKind.u64.wrap ((y2 : Int) + (y2 : Int) / 4294967296) = ((y2 + y2 / 4294967296 : Nat) : Int) := by rw [IntWalk.u64_in _ (by omega)]; omega
  obtain ⟨y3, hy3⟩ : ∃ y3, y2 + y2 / 4294967296 = y3 := ⟨_, rfl⟩
  rw [hy3] at hz z3 r7
  have HZ := Lib.hid (And.intro hz z3)
  clear ha hb hc hy1 hy2 hy3 z3 z2 z1 z0 hz ha1 hb1
  go_enter Tryd.func41, Tryd.ntmps41
  go_wp2
  go_ret
  refine ⟨ret_int ?_, rfl⟩
  have hz := HZ.out.2
  have h8 : wrap64 (y3 : Int) = (y3 : Int) := IntWalk.wrap64_in _ (by omega)
  rw [i64_and127, ← HZ.out.1, h8]
  omega
/-- The table in its variable. -/
def Tab (w : World) : Prop := 0 < w.heap.size ∧ ∀ j, j < Lib.deBruijn64tab.length → w.cell? ⟨0, j, none⟩ = some (.int .u8 (Lib.deBruijn64tab.getD j 0 : Nat))
theorem Tab.below {w w' : World} (h : Tab w) (hb : Below w.heap.size w w') : Tab w' := ⟨Nat.lt_of_lt_of_le h.1 hb.size, fun j hj => (hb.cell (p := ⟨0, j, none⟩) h.1).trans (h.2 j hj)⟩
set_option maxRecDepth 100000 in
set_option maxHeartbeats 1000000 in
theorem tz64_core (x k idx : Nat) (w : World) (hx0 : ((x : Int) == 0) = false)
    (key : IntKind.u64.wrap (bits BinOp.and IntKind.u64 (x : Int) (IntKind.u64.wrap (-(x : Int))) * 285870213051353865) / 288230376151711744 = (idx : Int))
    (hi : idx < 64) (hk : k < 64) (hcell : w.cell? ⟨0, idx, none⟩ = some (.int .u8 k)) :
    Calls Tryd.prog 43 #[.int .u64 (x : Int)] w fun e w' => e = .returned (.int .i64 (k : Int)) ∧ w = w' := by
  go_enter Tryd.func43, Tryd.ntmps43
  go_wp2_with (simp only [key])
  go_ret
  exact ⟨rfl, rfl⟩
set_option maxRecDepth 100000 in
theorem tz64_zero (w : World) : Calls Tryd.prog 43 #[.int .u64 0] w fun e w' => e = .returned (.int .i64 64) ∧ w = w' := by
  go_enter Tryd.func43, Tryd.ntmps43
  go_wp2
  go_ret
  exact ⟨rfl, rfl⟩
theorem tz64 (x : Nat) (hx : x < 18446744073709551616) (w : World) (hT : Tab w) :
    Calls Tryd.prog 43 #[.int .u64 (x : Int)] w fun e w' => e = .returned (.int .i64 (Lib.ctz 64 x : Nat)) ∧ w = w' := by
  by_cases hx0 : x = 0
  · subst hx0
    exact tz64_zero w
  · obtain ⟨hlow, hk⟩ := Lib.lowest_bit 64 x hx0 hx
    obtain ⟨hi, htab⟩ := Lib.deBruijn64_at _ hk
    have hcell := hT.2 _ hi
    rw [htab] at hcell
    exact tz64_core x _ _ w (by simp; omega) (tz64_key x _ hx hx0 hlow) hi hk hcell

/-- A bitmap of size bits from the byte offset off on, in a device's thread. -/
def bmv (T : Nat) (off size : Int) : Value := .agg #[.iface 28 (.pointer (some ⟨T, 0, none⟩)), .int .u64 off, .int .i64 size]
set_option maxRecDepth 100000 in
set_option maxHeartbeats 1000000 in
theorem bmWords (w : World) (T : Nat) (off : Int) (n : Nat) (hn : n ≤ 512) : Calls Tryd.prog 39 #[bmv T off n] w fun e w' => e = .returned (.int .i64 ((n + 63) / 64 : Nat)) ∧ Below w.heap.size w w' := by
  unfold bmv
  go_enter Tryd.func39, Tryd.ntmps39
  go_wp2
  go_ret
  exact ⟨ret_int (by omega), (by repeat (first | with_reducible exact Below.refl _ _ | with_reducible refine bl_alloc ?_ _ | with_reducible refine bl_drew ?_ | with_reducible refine bl_drewN ?_ _ | with_reducible refine bl_bx ?_ _ | with_reducible exact BX.below _ | with_reducible refine bl_set ?_ (by first | (exact Nat.le_refl _) | (simp; done) | (simp; omega)) _ | assumption))⟩
set_option maxRecDepth 100000 in
theorem bmAt (w : World) (T : Nat) (a k : Nat) (n : Int) (hk : a + k ≤ 100000) : Calls Tryd.prog 40 #[bmv T (8 * (a : Int)) n, .int .i64 (k : Int)] w fun e w' => e = .returned (.int .u64 (8 * ((a + k : Nat) : Int))) ∧ Below w.heap.size w w' := by
  have e1 : IntKind.u64.wrap (k : Int) = (k : Int) := IntWalk.u64_in _ (by omega)
  have e2 : IntKind.u64.wrap ((k : Int) * 8) = (k : Int) * 8 := IntWalk.u64_in _ (by omega)
  have e3 : IntKind.u64.wrap (8 * (a : Int) + (k : Int) * 8) = 8 * ((a + k : Nat) : Int) := by rw [IntWalk.u64_in _ (by omega)]; omega
  unfold bmv
  go_enter Tryd.func40, Tryd.ntmps40
  go_wp2
  go_ret
  exact ⟨rfl, (by repeat (first | with_reducible exact Below.refl _ _ | with_reducible refine bl_alloc ?_ _ | with_reducible refine bl_drew ?_ | with_reducible refine bl_drewN ?_ _ | with_reducible refine bl_bx ?_ _ | with_reducible exact BX.below _ | with_reducible refine bl_set ?_ (by first | (exact Nat.le_refl _) | (simp; done) | (simp; omega)) _ | assumption))⟩
/-- How many bits of word k belong to a bitmap of n bits. -/
def leftN (n k : Nat) : Nat := min 64 (n - 64 * k)
set_option maxRecDepth 100000 in
theorem bmMask (w : World) (T : Nat) (off : Int) (n k : Nat) (hn : n ≤ 512) (hk : 64 * k < n) : Calls Tryd.prog 42 #[bmv T off n, .int .i64 (k : Int)] w fun e w' => e = .returned (.int .u64 ((2 ^ leftN n k - 1 : Nat) : Int)) ∧ Below w.heap.size w w' := by
  unfold bmv
  by_cases hl : (n : Int) - (k : Int) * 64 < 64
  · obtain ⟨l, hln⟩ : ∃ l : Nat, (n : Int) - (k : Int) * 64 = (l : Int) := ⟨n - 64 * k, by omega⟩
    have hL : Hid (leftN n k = l) := by show _ = _; unfold leftN; omega
    have hl64 : l < 64 := by omega
    have h1 : IntKind.u64.wrap (l : Int) = (l : Int) := IntWalk.u64_in _ (by omega)
    have hlt : 2 ^ l < 18446744073709551616 := Nat.pow_lt_pow_right (a := 2) (n := 64) (by omega) hl64
    have hp := Nat.two_pow_pos l
    have h2 : IntKind.u64.wrap (1 * 2 ^ l - 1) = ((2 ^ l - 1 : Nat) : Int) := by
      have : (2 : Int) ^ l = ((2 ^ l : Nat) : Int) := (Int.natCast_pow 2 l).symm
      rw [this, IntWalk.u64_in _ (by omega)]; omega
    have h3 : IntKind.u64.wrap (2 ^ l - 1) = ((2 ^ l - 1 : Nat) : Int) := by rw [← h2, Int.one_mul]
    have h4 : IntKind.u64.wrap (2 ^ l) = ((2 ^ l : Nat) : Int) := by
      have : (2 : Int) ^ l = ((2 ^ l : Nat) : Int) := (Int.natCast_pow 2 l).symm
      rw [this, IntWalk.u64_in _ (by omega)]
    rw [hln] at hl
    go_enter Tryd.func42, Tryd.ntmps42
    go_wp2_with (simp only [hln])
    go_ret
    rw [hL.out]
    exact ⟨rfl, (by repeat (first | with_reducible exact Below.refl _ _ | with_reducible refine bl_alloc ?_ _ | with_reducible refine bl_drew ?_ | with_reducible refine bl_drewN ?_ _ | with_reducible refine bl_bx ?_ _ | with_reducible exact BX.below _ | with_reducible refine bl_set ?_ (by first | (exact Nat.le_refl _) | (simp; done) | (simp; omega)) _ | assumption))⟩
  · have hL : Hid (leftN n k = 64) := by show _ = _; unfold leftN; omega
    go_enter Tryd.func42, Tryd.ntmps42
    go_wp2
    go_ret
    rw [hL.out]
    exact ⟨rfl, (by repeat (first | with_reducible exact Below.refl _ _ | with_reducible refine bl_alloc ?_ _ | with_reducible refine bl_drew ?_ | with_reducible refine bl_drewN ?_ _ | with_reducible refine bl_bx ?_ _ | with_reducible exact BX.below _ | with_reducible refine bl_set ?_ (by first | (exact Nat.le_refl _) | (simp; done) | (simp; omega)) _ | assumption))⟩
end Go.Proofs.YtbhkdngbgokilaaDoor
