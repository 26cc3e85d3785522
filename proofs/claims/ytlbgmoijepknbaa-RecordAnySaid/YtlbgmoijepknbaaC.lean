/- Contracts of Encode and Decode of Uint, Int, Bool. -/
import Derived.Test.YtlbgmoijepknbaaProg
import Derived.Test.YtlbgmoijepknbaaLib
namespace Go.Proofs.Ytlbgmoijepknbaa
open Go.RowKit

set_option maxHeartbeats 400000 in
theorem uintEncode_ok (w : World) (g off c : Nat) (xs : List Int) (v : Int) (hb : IB .u64 26 w g xs) (ho : off < xs.length) :
    Calls Try.prog 29 #[.agg #[], .int .u64 v, .slice (some ⟨g, off, none⟩) 1 c] w fun e w' => e = .returned (.bool true) ∧ IB .u64 26 w' g (xs.set off (v)) ∧ Ch (At g) w w' := by
  have hlt := hb.lt
  have hc := hb.cell ho
  have hf := hb.frozen off
  have HB := Lib.hid hb
  clear hb
  go_enter Try.func29, Try.ntmps29
  go_wp2
  go_ret
  exact ⟨rfl, (HB.out.set off _).alloc _, ((Ch.refl (At g) _).set1 _ _).alloc _⟩

set_option maxHeartbeats 400000 in
theorem uintEncode_no (w : World) (A : Option Addr) (n c : Nat) (v : Int) (hn : n ≠ 1) :
    Calls Try.prog 29 #[.agg #[], .int .u64 v, .slice A n c] w fun e w' => e = .returned (.bool false) ∧ Below w.heap.size w w' := by
  have h1 : ((n : Int) != 1) = true := by rw [bne_iff_ne]; omega
  go_enter Try.func29, Try.ntmps29
  go_wp2
  go_ret
  exact ⟨rfl, (by repeat (first | with_reducible exact Below.refl _ _ | with_reducible refine bl_alloc ?_ _ | with_reducible refine bl_drew ?_ | with_reducible refine bl_drewN ?_ _ | with_reducible refine bl_bx ?_ _ | with_reducible exact BX.below _ | with_reducible refine bl_set ?_ (by first | (exact Nat.le_refl _) | (simp; done) | (simp; omega)) _ | assumption))⟩
set_option maxHeartbeats 400000 in
theorem intEncode_ok (w : World) (g off c : Nat) (xs : List Int) (v : Int) (hb : IB .u64 26 w g xs) (ho : off < xs.length) :
    Calls Try.prog 30 #[.agg #[], .int .i64 v, .slice (some ⟨g, off, none⟩) 1 c] w fun e w' => e = .returned (.bool true) ∧ IB .u64 26 w' g (xs.set off (IntKind.u64.wrap v)) ∧ Ch (At g) w w' := by
  have hlt := hb.lt
  have hc := hb.cell ho
  have hf := hb.frozen off
  have HB := Lib.hid hb
  clear hb
  go_enter Try.func30, Try.ntmps30
  go_wp2
  go_ret
  exact ⟨rfl, (HB.out.set off _).alloc _, ((Ch.refl (At g) _).set1 _ _).alloc _⟩

set_option maxHeartbeats 400000 in
theorem intEncode_no (w : World) (A : Option Addr) (n c : Nat) (v : Int) (hn : n ≠ 1) :
    Calls Try.prog 30 #[.agg #[], .int .i64 v, .slice A n c] w fun e w' => e = .returned (.bool false) ∧ Below w.heap.size w w' := by
  have h1 : ((n : Int) != 1) = true := by rw [bne_iff_ne]; omega
  go_enter Try.func30, Try.ntmps30
  go_wp2
  go_ret
  exact ⟨rfl, (by repeat (first | with_reducible exact Below.refl _ _ | with_reducible refine bl_alloc ?_ _ | with_reducible refine bl_drew ?_ | with_reducible refine bl_drewN ?_ _ | with_reducible refine bl_bx ?_ _ | with_reducible exact BX.below _ | with_reducible refine bl_set ?_ (by first | (exact Nat.le_refl _) | (simp; done) | (simp; omega)) _ | assumption))⟩

set_option maxHeartbeats 400000 in
theorem boolEncode_ok (w : World) (g off c : Nat) (xs : List Int) (v : Bool) (hb : IB .u64 26 w g xs) (ho : off < xs.length) :
    Calls Try.prog 31 #[.agg #[], .bool v, .slice (some ⟨g, off, none⟩) 1 c] w fun e w' => e = .returned (.bool true) ∧ IB .u64 26 w' g (xs.set off (if v then 1 else 0)) ∧ Ch (At g) w w' := by
  have hlt := hb.lt
  have hc := hb.cell ho
  have hf := hb.frozen off
  have HB := Lib.hid hb
  have hs0 : ((w.setCell ⟨g, off, none⟩ (.int .u64 0))).cell? ⟨g, off, none⟩ = some (.int .u64 0) := World.cell?_setCell_same _ _ _ hc
  clear hb
  cases v
  · go_enter Try.func31, Try.ntmps31
    go_wp2
    go_ret
    exact ⟨rfl, (HB.out.set off _).alloc _, ((Ch.refl (At g) _).set1 _ _).alloc _⟩
  · go_enter Try.func31, Try.ntmps31
    go_wp2
    go_ret
    exact ⟨rfl, by have := ((HB.out.set off 0).set off 1).alloc (.cells #[] 82); simpa using this, (((Ch.refl (At g) _).set1 _ _).set1 _ _).alloc _⟩

set_option maxHeartbeats 400000 in
theorem boolEncode_no (w : World) (A : Option Addr) (n c : Nat) (v : Bool) (hn : n ≠ 1) :
    Calls Try.prog 31 #[.agg #[], .bool v, .slice A n c] w fun e w' => e = .returned (.bool false) ∧ Below w.heap.size w w' := by
  have h1 : ((n : Int) != 1) = true := by rw [bne_iff_ne]; omega
  go_enter Try.func31, Try.ntmps31
  go_wp2
  go_ret
  exact ⟨rfl, (by repeat (first | with_reducible exact Below.refl _ _ | with_reducible refine bl_alloc ?_ _ | with_reducible refine bl_drew ?_ | with_reducible refine bl_drewN ?_ _ | with_reducible refine bl_bx ?_ _ | with_reducible exact BX.below _ | with_reducible refine bl_set ?_ (by first | (exact Nat.le_refl _) | (simp; done) | (simp; omega)) _ | assumption))⟩

set_option maxHeartbeats 400000 in
theorem uintDecode_ok (w : World) (g off c : Nat) (v : Int) (hc : w.cell? ⟨g, off, none⟩ = some (.int .u64 v)) (hg : g < w.heap.size) :
    Calls Try.prog 32 #[.agg #[], .slice (some ⟨g, off, none⟩) 1 c] w fun e w' => e = .returned (.tuple #[.int .u64 (v), .bool true]) ∧ Below w.heap.size w w' := by
  go_enter Try.func32, Try.ntmps32
  go_wp2
  go_ret2
  exact ⟨rfl, (by repeat (first | with_reducible exact Below.refl _ _ | with_reducible refine bl_alloc ?_ _ | with_reducible refine bl_drew ?_ | with_reducible refine bl_drewN ?_ _ | with_reducible refine bl_bx ?_ _ | with_reducible exact BX.below _ | with_reducible refine bl_set ?_ (by first | (exact Nat.le_refl _) | (simp; done) | (simp; omega)) _ | assumption))⟩

set_option maxHeartbeats 400000 in
theorem uintDecode_no (w : World) (A : Option Addr) (n c : Nat) (hn : n ≠ 1) :
    Calls Try.prog 32 #[.agg #[], .slice A n c] w fun e w' => e = .returned (.tuple #[.int .u64 0, .bool false]) ∧ Below w.heap.size w w' := by
  have h1 : ((n : Int) != 1) = true := by rw [bne_iff_ne]; omega
  go_enter Try.func32, Try.ntmps32
  go_wp2
  go_ret2
  exact ⟨rfl, (by repeat (first | with_reducible exact Below.refl _ _ | with_reducible refine bl_alloc ?_ _ | with_reducible refine bl_drew ?_ | with_reducible refine bl_drewN ?_ _ | with_reducible refine bl_bx ?_ _ | with_reducible exact BX.below _ | with_reducible refine bl_set ?_ (by first | (exact Nat.le_refl _) | (simp; done) | (simp; omega)) _ | assumption))⟩
set_option maxHeartbeats 400000 in
theorem intDecode_ok (w : World) (g off c : Nat) (v : Int) (hc : w.cell? ⟨g, off, none⟩ = some (.int .u64 v)) (hg : g < w.heap.size) :
    Calls Try.prog 33 #[.agg #[], .slice (some ⟨g, off, none⟩) 1 c] w fun e w' => e = .returned (.tuple #[.int .i64 (wrap64 v), .bool true]) ∧ Below w.heap.size w w' := by
  go_enter Try.func33, Try.ntmps33
  go_wp2
  go_ret2
  exact ⟨rfl, (by repeat (first | with_reducible exact Below.refl _ _ | with_reducible refine bl_alloc ?_ _ | with_reducible refine bl_drew ?_ | with_reducible refine bl_drewN ?_ _ | with_reducible refine bl_bx ?_ _ | with_reducible exact BX.below _ | with_reducible refine bl_set ?_ (by first | (exact Nat.le_refl _) | (simp; done) | (simp; omega)) _ | assumption))⟩

set_option maxHeartbeats 400000 in
theorem intDecode_no (w : World) (A : Option Addr) (n c : Nat) (hn : n ≠ 1) :
    Calls Try.prog 33 #[.agg #[], .slice A n c] w fun e w' => e = .returned (.tuple #[.int .i64 0, .bool false]) ∧ Below w.heap.size w w' := by
  have h1 : ((n : Int) != 1) = true := by rw [bne_iff_ne]; omega
  go_enter Try.func33, Try.ntmps33
  go_wp2
  go_ret2
  exact ⟨rfl, (by repeat (first | with_reducible exact Below.refl _ _ | with_reducible refine bl_alloc ?_ _ | with_reducible refine bl_drew ?_ | with_reducible refine bl_drewN ?_ _ | with_reducible refine bl_bx ?_ _ | with_reducible exact BX.below _ | with_reducible refine bl_set ?_ (by first | (exact Nat.le_refl _) | (simp; done) | (simp; omega)) _ | assumption))⟩

set_option maxHeartbeats 400000 in
theorem boolDecode_ok (w : World) (g off c : Nat) (v : Int) (hc : w.cell? ⟨g, off, none⟩ = some (.int .u64 v)) (hg : g < w.heap.size) (hv : v ≤ 1) :
    Calls Try.prog 34 #[.agg #[], .slice (some ⟨g, off, none⟩) 1 c] w fun e w' => e = .returned (.tuple #[.bool (v == 1), .bool true]) ∧ Below w.heap.size w w' := by
  have h1 : ¬ 1 < v := by omega
  go_enter Try.func34, Try.ntmps34
  go_wp2
  go_ret2
  exact ⟨rfl, (by repeat (first | with_reducible exact Below.refl _ _ | with_reducible refine bl_alloc ?_ _ | with_reducible refine bl_drew ?_ | with_reducible refine bl_drewN ?_ _ | with_reducible refine bl_bx ?_ _ | with_reducible exact BX.below _ | with_reducible refine bl_set ?_ (by first | (exact Nat.le_refl _) | (simp; done) | (simp; omega)) _ | assumption))⟩

set_option maxHeartbeats 400000 in
theorem boolDecode_big (w : World) (g off c : Nat) (v : Int) (hc : w.cell? ⟨g, off, none⟩ = some (.int .u64 v)) (hg : g < w.heap.size) (hv : 1 < v) :
    Calls Try.prog 34 #[.agg #[], .slice (some ⟨g, off, none⟩) 1 c] w fun e w' => e = .returned (.tuple #[.bool false, .bool false]) ∧ Below w.heap.size w w' := by
  go_enter Try.func34, Try.ntmps34
  go_wp2
  go_ret2
  exact ⟨rfl, (by repeat (first | with_reducible exact Below.refl _ _ | with_reducible refine bl_alloc ?_ _ | with_reducible refine bl_drew ?_ | with_reducible refine bl_drewN ?_ _ | with_reducible refine bl_bx ?_ _ | with_reducible exact BX.below _ | with_reducible refine bl_set ?_ (by first | (exact Nat.le_refl _) | (simp; done) | (simp; omega)) _ | assumption))⟩

set_option maxHeartbeats 400000 in
theorem boolDecode_no (w : World) (A : Option Addr) (n c : Nat) (hn : n ≠ 1) :
    Calls Try.prog 34 #[.agg #[], .slice A n c] w fun e w' => e = .returned (.tuple #[.bool false, .bool false]) ∧ Below w.heap.size w w' := by
  have h1 : ((n : Int) != 1) = true := by rw [bne_iff_ne]; omega
  go_enter Try.func34, Try.ntmps34
  go_wp2
  go_ret2
  exact ⟨rfl, (by repeat (first | with_reducible exact Below.refl _ _ | with_reducible refine bl_alloc ?_ _ | with_reducible refine bl_drew ?_ | with_reducible refine bl_drewN ?_ _ | with_reducible refine bl_bx ?_ _ | with_reducible exact BX.below _ | with_reducible refine bl_set ?_ (by first | (exact Nat.le_refl _) | (simp; done) | (simp; omega)) _ | assumption))⟩
theorem boolDecode_any (w : World) (g off c : Nat) (v : Int) (hc : w.cell? ⟨g, off, none⟩ = some (.int .u64 v)) (hg : g < w.heap.size) :
    Calls Try.prog 34 #[.agg #[], .slice (some ⟨g, off, none⟩) 1 c] w fun e w' => e = .returned (.tuple #[.bool (v == 1), .bool (decide (v ≤ 1))]) ∧ Below w.heap.size w w' := by
  by_cases h : v ≤ 1
  · rw [show decide (v ≤ 1) = true from by simpa using h]
    exact boolDecode_ok w g off c v hc hg h
  · rw [show decide (v ≤ 1) = false from by simpa using h, show (v == 1) = false from by simp; omega]
    exact boolDecode_big w g off c v hc hg (by omega)
end Go.Proofs.Ytlbgmoijepknbaa
